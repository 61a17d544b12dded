/-
  The statement HeadReads holds of every word and every bit: its proof, off the walk of HeadG.
-/
import Derived.Test.YtpmbjlmplfejgaaRows
import Derived.Test.YtpmbjlmplfejgaaFacts
import Derived.Test.YtpmbjlmplfejgaaHeadG
import Derived.WalkKit
import Derived.ProofKit
import Derived.OpenShut
import Derived.ShutString
import Derived.ChangeOld
import Derived.Below
import Derived.Lib.SmallJoins
import Derived.Deep.Slices
namespace Go.Proofs.Ytpmbjlmplfejgaa.headReads
open Go.ChangeShapes Go.WideShapes Go.ChangeAt Go.RowKit Go.Joins Go.Deep
open Go.ChangeMaps (open_string shut_string)
set_option linter.unusedVariables false

theorem own : ownKnob Try.prog.godebug = none := fact_own
theorem laidOut : laidOutB Try.prog = true := fact_laidOut

set_option maxRecDepth 100000 in
theorem lifted (os : Os) (started : os.Started) (H : Type) (enc : TypeId × Value → H) :
    ReturnsInHanded {} Try.checked os 8 .any (Rows.headReadsSpec.pre6 enc Try.prog Try.f8 Rows.headReadsRow.domain false) (Rows.headReadsSpec.post enc Try.prog Try.f8 false true false false) := by
  refine returnsInHanded_of_change (C := Try.checked) own started (by kernel_rfl) Try.func8
    (ChangeSpec.witness6 (enc := enc) (C := Try.checked) false ⟨#[], #[.int .u64 0, .int .u8 0], []⟩ 8 (by kernel_rfl) (by kernel_rfl) (by kernel_rfl) (by kernel_rfl)) ?_
  intro W base args ds gs before hval0 hW hcnd _
  have hval : ∀ (j : Nat) t v, Try.f8.params[j]? = some t → args[j]? = some v → Value.okWide Try.prog W .any base t v := hval0
  have hW' := hW
  obtain ⟨p, q, hA0, hV, rfl, hfz, hnd⟩ := hW
  have hA : DataW.TrodAll enc Try.prog W 0 (fun _ => true) true Try.f8.params.toList args.toList ds p := hA0
  rw [Try.params8] at hA hval
  obtain ⟨v0, vs0, d0, ds0, p0, q0, hargs, rfl, rfl, h0, r0⟩ := trodAll_cons hA
  obtain ⟨v1, vs1, d1, ds1, p1, q1, rfl, rfl, rfl, h1, r1⟩ := trodAll_cons r0
  obtain ⟨rfl, rfl, rfl⟩ := trodAll_nil r1
  obtain rfl : args = #[v0, v1] := by cases args; simp_all
  obtain ⟨rfl, rfl⟩ := trodVars_none hV
  obtain ⟨a0, rfl, rfl, rfl, w0⟩ := open_int Try.underlying28 (hval 0 28 v0 rfl rfl) h0
  obtain ⟨a1, rfl, rfl, rfl, w1⟩ := open_int Try.underlying5 (hval 1 5 v1 rfl rfl) h1
  clear hA0 hval0
  refine (law_HeadReads' a0 a1 W w0 w1).mono fun e W' ⟨he, bel⟩ => ?_
  subst he
  exact ⟨_, rfl, _, _, _, [], _, [], hW', trodAll_mk1 (shut_bool Try.underlying4 _), (trodAll_cons_mk (shut_int Try.underlying28 w0) (trodAll_cons_mk (shut_int Try.underlying5 w1) trodAll_mk0)), rfl, bel.frame _, fun h => by cases h⟩

set_option maxRecDepth 100000
theorem k1 : Rows.headReadsRow.wf (OpenSpec.ofChange Rows.headReadsSpec) = true := by kernel_rfl
theorem k4 : Try.f8.params.all (Try.prog.readableRec ·) = true := by kernel_rfl
theorem k5 : namedTie Try.prog Rows.headReadsRow.named Rows.headReadsSpec.vars = true := by kernel_rfl
theorem k6 : (Rows.headReadsRow.stops == []) = true := by kernel_rfl
theorem k8 : (Rows.headReadsRow.knobs == []) = true := by kernel_rfl
theorem k10 : (Rows.headReadsRow.inPlace == Try.prog.inPlace 8) = true := by kernel_rfl
theorem k11 : (Rows.headReadsRow.unfollowed == Try.prog.unfollowed 8) = true := by kernel_rfl
theorem k12 : (Rows.headReadsRow.recurses == Try.prog.recurses 8) = true := by kernel_rfl
theorem k13 : (Rows.headReadsRow.named == Try.prog.varsNamed 8) = true := by kernel_rfl
theorem k14 : (Rows.headReadsRow.maps == (Try.f8.params.toList ++ Rows.headReadsSpec.plain.varTypes Try.prog).any (Try.prog.mapsRec ·)) = true := by kernel_rfl
theorem k15 : (Rows.headReadsRow.ifaces == (Try.f8.params.toList ++ Rows.headReadsSpec.plain.varTypes Try.prog).any (Try.prog.ifacesRec ·)) = true := by kernel_rfl
theorem k16 : (Rows.headReadsRow.mapsOut == Try.prog.mapsAmong Try.f8.resultTypes.toList) = true := by kernel_rfl
theorem k17 : (Rows.headReadsRow.loops == (Try.f8.params.toList ++ Rows.headReadsSpec.plain.varTypes Try.prog).any (Try.prog.loopsFrom ·)) = true := by kernel_rfl
theorem k18 : (Rows.headReadsRow.wideKeys == (Try.f8.params.toList ++ Rows.headReadsSpec.plain.varTypes Try.prog ++ Try.f8.resultTypes.toList).any (Try.prog.wideKeysFrom ·)) = true := by kernel_rfl
theorem k19 : Rows.headReadsSpec.vars.all (Try.prog.varReadable ·) = true := by kernel_rfl
theorem k20 : Try.f8.resultTypes.all (fun t => Try.prog.readableRec t && decide (t < Try.prog.types.size)) = true := by kernel_rfl
theorem k21 : (Rows.headReadsRow.ifacesOut == Try.f8.resultTypes.toList.any (Try.prog.ifacesRec ·)) = true := by kernel_rfl
theorem k22 : (Rows.headReadsRow.loopsOut == Try.f8.resultTypes.toList.any (Try.prog.loopsFrom ·)) = true := by kernel_rfl
theorem k23p : Rows.headReadsRow.plainKeys = true := by kernel_rfl
theorem k24 : Rows.headReadsRow.shortTexts.isNone = true := by kernel_rfl
theorem k27p : Rows.headReadsRow.lifted = false := by kernel_rfl
theorem k28p : (some Make.cut == some Rows.headReadsRow.make) = true := by kernel_rfl
theorem k29 : (Rows.headReadsRow.kinds == (if Rows.headReadsRow.domain.isEmpty then [] else Try.f8.params.toList.map fun t => match Try.prog.underlying t with | some (.int k) => some k | _ => none)) = true := by kernel_rfl
theorem k30 : (Rows.headReadsRow.pinned == Rows.headReadsRow.pinnedBy) = true := by kernel_rfl
theorem k31 : (Rows.headReadsRow.veiled == (Try.f8.params.toList ++ Rows.headReadsSpec.plain.varTypes Try.prog ++ Try.f8.resultTypes.toList).any (Try.prog.veiledRec ·)) = true := by kernel_rfl
theorem k32 : Rows.headReadsRow.veiledFits Try.prog Try.f8.params.toList (Try.f8.params.toList ++ Rows.headReadsSpec.plain.varTypes Try.prog ++ Try.f8.resultTypes.toList) = true := by kernel_rfl
theorem hname : Try.prog.funcNamed Rows.headReadsRow.func = some 8 := by kernel_rfl
theorem hwrap : Try.f8.isWrapper Try.prog Rows.headReadsRow.wrapper Rows.headReadsRow.mainSum := by unfold Func.isWrapper; rw [if_neg (of_decide_eq_false (by kernel_rfl))]; exact ⟨rfl, rfl⟩
theorem k23 : (Rows.headReadsRow.plainKeys == Try.prog.plainKeys) = true := by rw [k23p]; exact fact_plainKeys
theorem k27 : (Rows.headReadsRow.lifted == Try.prog.liftsFinal) = true := by rw [k27p, fact_liftsFinal]; rfl
theorem k28 : (Try.prog.make == some Rows.headReadsRow.make) = true := by rw [fact_make]; exact k28p
theorem hinst : Try.f8.isInstance Try.prog Rows.headReadsRow.origin Rows.headReadsRow.targs := of_decide_eq_true (by kernel_rfl)
theorem closed : joinedFacts Try.prog 8 Try.f8 Rows.headReadsSpec Rows.headReadsRow = true :=
  joined_of (P := Try.prog) (f := 8) (fn := Try.f8) (s := Rows.headReadsSpec) (c := Rows.headReadsRow) k1 fact_laidOut fact_mapsRowed k4 k5 k6 fact_stops k8 fact_stopKnobs k10 k11 k12 k13 k14 k15 k16 k17 k18 k19 k20 k21 k22 k23 k24 fact_stopsHeard fact_mayEnter k27 k28 k29 k30 k31 k32

theorem over : Rows.headReadsRow.holds Try.pinned (OpenSpec.ofChange Rows.headReadsSpec) :=
  OpenClaim.holds_of_wide 8 Try.f8 rfl rfl rfl rfl rfl rfl rfl ⟨rfl, rfl, rfl, rfl, rfl⟩ rfl rfl rfl rfl rfl hname Try.func8 closed hinst hwrap
    (fun os started H enc _ => lifted os started H enc)

/-- The statement. -/
theorem proved : Rows.HeadReadsSaid := over
#print axioms proved
end Go.Proofs.Ytpmbjlmplfejgaa.headReads
