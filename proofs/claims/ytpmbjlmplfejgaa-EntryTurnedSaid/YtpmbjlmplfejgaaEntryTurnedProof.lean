/-
  A log of which one bit was turned is not read as that log: EntryTurned is always true; no conditions.
-/
import Derived.Test.YtpmbjlmplfejgaaRows
import Derived.Test.YtpmbjlmplfejgaaFacts
import Derived.Test.YtpmbjlmplfejgaaEntJ
import Derived.WalkKit
import Derived.ProofKit
import Derived.OpenShut
import Derived.ShutString
import Derived.ChangeOld
import Derived.Below
import Derived.Lib.SmallJoins
import Derived.Deep.Slices
namespace Go.Proofs.Ytpmbjlmplfejgaa.entryTurned
open Go.ChangeShapes Go.WideShapes Go.ChangeAt Go.RowKit Go.Joins Go.Deep
open Go.ChangeMaps (open_string shut_string)
set_option linter.unusedVariables false

theorem own : ownKnob Try.prog.godebug = none := fact_own
theorem laidOut : laidOutB Try.prog = true := fact_laidOut

set_option maxRecDepth 100000 in
theorem lifted (os : Os) (started : os.Started) (H : Type) (enc : TypeId × Value → H) :
    ReturnsInHanded {} Try.checked os 11 .any (Rows.entryTurnedSpec.pre6 enc Try.prog Try.f11 Rows.entryTurnedRow.domain false) (Rows.entryTurnedSpec.post enc Try.prog Try.f11 false true false false) := by
  refine returnsInHanded_of_change (C := Try.checked) own started (by kernel_rfl) Try.func11
    (ChangeSpec.witness6 (enc := enc) (C := Try.checked) false ⟨#[], #[.slice none 0 0, .int .u8 0, .int .u8 0], []⟩ 8 (by kernel_rfl) (by kernel_rfl) (by kernel_rfl) (by kernel_rfl)) ?_
  intro W base args ds gs before hval0 hW hcnd _
  have hval : ∀ (j : Nat) t v, Try.f11.params[j]? = some t → args[j]? = some v → Value.okWide Try.prog W .any base t v := hval0
  have hW' := hW
  obtain ⟨p, q, hA0, hV, rfl, hfz, hnd⟩ := hW
  have hA : DataW.TrodAll enc Try.prog W 0 (fun _ => true) true Try.f11.params.toList args.toList ds p := hA0
  rw [Try.params11] at hA hval
  obtain ⟨v0, vs0, d0, ds0, p0, q0, hargs, rfl, rfl, h0, r0⟩ := trodAll_cons hA
  obtain ⟨v1, vs1, d1, ds1, p1, q1, rfl, rfl, rfl, h1, r1⟩ := trodAll_cons r0
  obtain ⟨v2, vs2, d2, ds2, p2, q2, rfl, rfl, rfl, h2, r2⟩ := trodAll_cons r1
  obtain ⟨rfl, rfl, rfl⟩ := trodAll_nil r2
  obtain rfl : args = #[v0, v1, v2] := by cases args; simp_all
  obtain ⟨rfl, rfl⟩ := trodVars_none hV
  have k0 := h0
  have lt0 : ∀ x ∈ p0, x.block < W.heap.size := by obtain ⟨m, hm⟩ := k0; exact DataW.trod_lt m _ _ _ hm
  obtain ⟨A0, len0, cap0, rfl⟩ := okWide_slice Try.underlying53 (hval 0 53 v0 rfl rfl)
  obtain ⟨es0, row0⟩ : ∃ es, IsEnts W A0 len0 cap0 es := by
    obtain ⟨fuel, hf⟩ := h0
    obtain ⟨A, len, cap, es, hcs, hr⟩ := open_ents hf
    simp [Value.cells] at hcs
    obtain ⟨rfl, rfl, rfl⟩ := hcs
    exact ⟨es, hr⟩
  obtain ⟨a1, rfl, rfl, rfl, w1⟩ := open_int Try.underlying5 (hval 1 5 v1 rfl rfl) h1
  obtain ⟨a2, rfl, rfl, rfl, w2⟩ := open_int Try.underlying5 (hval 2 5 v2 rfl rfl) h2
  clear hA0 hval0
  refine (law_EntryTurned' row0 w1 w2).mono fun e W' ⟨he, bel⟩ => ?_
  subst he
  exact ⟨_, rfl, _, _, _, [], _, [], hW', trodAll_mk1 (shut_bool Try.underlying4 _), (trodAll_cons_mk (Below.trod laidOut (by kernel_rfl) (of_decide_eq_true (by kernel_rfl)) k0 bel lt0) (trodAll_cons_mk (shut_int Try.underlying5 w1) (trodAll_cons_mk (shut_int Try.underlying5 w2) trodAll_mk0))), rfl, bel.frame _, fun h => by cases h⟩

set_option maxRecDepth 100000
theorem k1 : Rows.entryTurnedRow.wf (OpenSpec.ofChange Rows.entryTurnedSpec) = true := by kernel_rfl
theorem k4 : Try.f11.params.all (Try.prog.readableRec ·) = true := by kernel_rfl
theorem k5 : namedTie Try.prog Rows.entryTurnedRow.named Rows.entryTurnedSpec.vars = true := by kernel_rfl
theorem k6 : (Rows.entryTurnedRow.stops == []) = true := by kernel_rfl
theorem k8 : (Rows.entryTurnedRow.knobs == []) = true := by kernel_rfl
theorem k10 : (Rows.entryTurnedRow.inPlace == Try.prog.inPlace 11) = true := by kernel_rfl
theorem k11 : (Rows.entryTurnedRow.unfollowed == Try.prog.unfollowed 11) = true := by kernel_rfl
theorem k12 : (Rows.entryTurnedRow.recurses == Try.prog.recurses 11) = true := by kernel_rfl
theorem k13 : (Rows.entryTurnedRow.named == Try.prog.varsNamed 11) = true := by kernel_rfl
theorem k14 : (Rows.entryTurnedRow.maps == (Try.f11.params.toList ++ Rows.entryTurnedSpec.plain.varTypes Try.prog).any (Try.prog.mapsRec ·)) = true := by kernel_rfl
theorem k15 : (Rows.entryTurnedRow.ifaces == (Try.f11.params.toList ++ Rows.entryTurnedSpec.plain.varTypes Try.prog).any (Try.prog.ifacesRec ·)) = true := by kernel_rfl
theorem k16 : (Rows.entryTurnedRow.mapsOut == Try.prog.mapsAmong Try.f11.resultTypes.toList) = true := by kernel_rfl
theorem k17 : (Rows.entryTurnedRow.loops == (Try.f11.params.toList ++ Rows.entryTurnedSpec.plain.varTypes Try.prog).any (Try.prog.loopsFrom ·)) = true := by kernel_rfl
theorem k18 : (Rows.entryTurnedRow.wideKeys == (Try.f11.params.toList ++ Rows.entryTurnedSpec.plain.varTypes Try.prog ++ Try.f11.resultTypes.toList).any (Try.prog.wideKeysFrom ·)) = true := by kernel_rfl
theorem k19 : Rows.entryTurnedSpec.vars.all (Try.prog.varReadable ·) = true := by kernel_rfl
theorem k20 : Try.f11.resultTypes.all (fun t => Try.prog.readableRec t && decide (t < Try.prog.types.size)) = true := by kernel_rfl
theorem k21 : (Rows.entryTurnedRow.ifacesOut == Try.f11.resultTypes.toList.any (Try.prog.ifacesRec ·)) = true := by kernel_rfl
theorem k22 : (Rows.entryTurnedRow.loopsOut == Try.f11.resultTypes.toList.any (Try.prog.loopsFrom ·)) = true := by kernel_rfl
theorem k23p : Rows.entryTurnedRow.plainKeys = true := by kernel_rfl
theorem k24 : Rows.entryTurnedRow.shortTexts.isNone = true := by kernel_rfl
theorem k27p : Rows.entryTurnedRow.lifted = false := by kernel_rfl
theorem k28p : (some Make.cut == some Rows.entryTurnedRow.make) = true := by kernel_rfl
theorem k29 : (Rows.entryTurnedRow.kinds == (if Rows.entryTurnedRow.domain.isEmpty then [] else Try.f11.params.toList.map fun t => match Try.prog.underlying t with | some (.int k) => some k | _ => none)) = true := by kernel_rfl
theorem k30 : (Rows.entryTurnedRow.pinned == Rows.entryTurnedRow.pinnedBy) = true := by kernel_rfl
theorem k31 : (Rows.entryTurnedRow.veiled == (Try.f11.params.toList ++ Rows.entryTurnedSpec.plain.varTypes Try.prog ++ Try.f11.resultTypes.toList).any (Try.prog.veiledRec ·)) = true := by kernel_rfl
theorem k32 : Rows.entryTurnedRow.veiledFits Try.prog Try.f11.params.toList (Try.f11.params.toList ++ Rows.entryTurnedSpec.plain.varTypes Try.prog ++ Try.f11.resultTypes.toList) = true := by kernel_rfl
theorem hname : Try.prog.funcNamed Rows.entryTurnedRow.func = some 11 := by kernel_rfl
theorem hwrap : Try.f11.isWrapper Try.prog Rows.entryTurnedRow.wrapper Rows.entryTurnedRow.mainSum := by unfold Func.isWrapper; rw [if_neg (of_decide_eq_false (by kernel_rfl))]; exact ⟨rfl, rfl⟩
theorem k23 : (Rows.entryTurnedRow.plainKeys == Try.prog.plainKeys) = true := by rw [k23p]; exact fact_plainKeys
theorem k27 : (Rows.entryTurnedRow.lifted == Try.prog.liftsFinal) = true := by rw [k27p, fact_liftsFinal]; rfl
theorem k28 : (Try.prog.make == some Rows.entryTurnedRow.make) = true := by rw [fact_make]; exact k28p
theorem hinst : Try.f11.isInstance Try.prog Rows.entryTurnedRow.origin Rows.entryTurnedRow.targs := of_decide_eq_true (by kernel_rfl)
theorem closed : joinedFacts Try.prog 11 Try.f11 Rows.entryTurnedSpec Rows.entryTurnedRow = true :=
  joined_of (P := Try.prog) (f := 11) (fn := Try.f11) (s := Rows.entryTurnedSpec) (c := Rows.entryTurnedRow) k1 fact_laidOut fact_mapsRowed k4 k5 k6 fact_stops k8 fact_stopKnobs k10 k11 k12 k13 k14 k15 k16 k17 k18 k19 k20 k21 k22 k23 k24 fact_stopsHeard fact_mayEnter k27 k28 k29 k30 k31 k32

theorem over : Rows.entryTurnedRow.holds Try.pinned (OpenSpec.ofChange Rows.entryTurnedSpec) :=
  OpenClaim.holds_of_wide 11 Try.f11 rfl rfl rfl rfl rfl rfl rfl ⟨rfl, rfl, rfl, rfl, rfl⟩ rfl rfl rfl rfl rfl hname Try.func11 closed hinst hwrap
    (fun os started H enc _ => lifted os started H enc)

/-- The statement. -/
theorem proved : Rows.EntryTurnedSaid := over
#print axioms proved
end Go.Proofs.Ytpmbjlmplfejgaa.entryTurned
