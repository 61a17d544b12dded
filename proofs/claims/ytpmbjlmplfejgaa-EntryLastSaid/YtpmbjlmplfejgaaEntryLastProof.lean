/-
  entry.Last leaves, of several entries of one address, the last one, as the reference has it: EntryLast is true for every log; no conditions.
-/
import Derived.Test.YtpmbjlmplfejgaaRows
import Derived.Test.YtpmbjlmplfejgaaFacts
import Derived.Test.YtpmbjlmplfejgaaEntH
import Derived.WalkKit
import Derived.ProofKit
import Derived.OpenShut
import Derived.ShutString
import Derived.ChangeOld
import Derived.Below
import Derived.Lib.SmallJoins
import Derived.Deep.Slices
namespace Go.Proofs.Ytpmbjlmplfejgaa.entryLast
open Go.ChangeShapes Go.WideShapes Go.ChangeAt Go.RowKit Go.Joins Go.Deep
open Go.ChangeMaps (open_string shut_string)
set_option linter.unusedVariables false

theorem own : ownKnob Try.prog.godebug = none := fact_own
theorem laidOut : laidOutB Try.prog = true := fact_laidOut

set_option maxRecDepth 100000 in
theorem lifted (os : Os) (started : os.Started) (H : Type) (enc : TypeId × Value → H) :
    ReturnsInHanded {} Try.checked os 14 .any (Rows.entryLastSpec.pre6 enc Try.prog Try.f14 Rows.entryLastRow.domain false) (Rows.entryLastSpec.post enc Try.prog Try.f14 false true false false) := by
  refine returnsInHanded_of_change (C := Try.checked) own started (by kernel_rfl) Try.func14
    (ChangeSpec.witness6 (enc := enc) (C := Try.checked) false ⟨#[], #[.slice none 0 0], []⟩ 8 (by kernel_rfl) (by kernel_rfl) (by kernel_rfl) (by kernel_rfl)) ?_
  intro W base args ds gs before hval0 hW hcnd _
  have hval : ∀ (j : Nat) t v, Try.f14.params[j]? = some t → args[j]? = some v → Value.okWide Try.prog W .any base t v := hval0
  have hW' := hW
  obtain ⟨p, q, hA0, hV, rfl, hfz, hnd⟩ := hW
  have hA : DataW.TrodAll enc Try.prog W 0 (fun _ => true) true Try.f14.params.toList args.toList ds p := hA0
  rw [Try.params14] at hA hval
  obtain ⟨v0, vs0, d0, ds0, p0, q0, hargs, rfl, rfl, h0, r0⟩ := trodAll_cons hA
  obtain ⟨rfl, rfl, rfl⟩ := trodAll_nil r0
  obtain rfl : args = #[v0] := by cases args; simp_all
  obtain ⟨rfl, rfl⟩ := trodVars_none hV
  have k0 := h0
  have lt0 : ∀ x ∈ p0, x.block < W.heap.size := by obtain ⟨m, hm⟩ := k0; exact DataW.trod_lt m _ _ _ hm
  obtain ⟨A0, len0, cap0, rfl⟩ := okWide_slice Try.underlying53 (hval 0 53 v0 rfl rfl)
  obtain ⟨es0, row0⟩ : ∃ es, IsEnts W A0 len0 cap0 es := by
    obtain ⟨fuel, hf⟩ := h0
    obtain ⟨A, len, cap, es, hcs, hr⟩ := open_ents hf
    simp [Value.cells] at hcs
    obtain ⟨rfl, rfl, rfl⟩ := hcs
    exact ⟨es, hr⟩
  clear hA0 hval0
  refine (law_EntryLast' row0).mono fun e W' ⟨he, bel⟩ => ?_
  subst he
  exact ⟨_, rfl, _, _, _, [], _, [], hW', trodAll_mk1 (shut_bool Try.underlying4 _), (trodAll_cons_mk (Below.trod laidOut (by kernel_rfl) (of_decide_eq_true (by kernel_rfl)) k0 bel lt0) trodAll_mk0), rfl, bel.frame _, fun h => by cases h⟩

set_option maxRecDepth 100000
theorem k1 : Rows.entryLastRow.wf (OpenSpec.ofChange Rows.entryLastSpec) = true := by kernel_rfl
theorem k4 : Try.f14.params.all (Try.prog.readableRec ·) = true := by kernel_rfl
theorem k5 : namedTie Try.prog Rows.entryLastRow.named Rows.entryLastSpec.vars = true := by kernel_rfl
theorem k6 : (Rows.entryLastRow.stops == []) = true := by kernel_rfl
theorem k8 : (Rows.entryLastRow.knobs == []) = true := by kernel_rfl
theorem k10 : (Rows.entryLastRow.inPlace == Try.prog.inPlace 14) = true := by kernel_rfl
theorem k11 : (Rows.entryLastRow.unfollowed == Try.prog.unfollowed 14) = true := by kernel_rfl
theorem k12 : (Rows.entryLastRow.recurses == Try.prog.recurses 14) = true := by kernel_rfl
theorem k13 : (Rows.entryLastRow.named == Try.prog.varsNamed 14) = true := by kernel_rfl
theorem k14 : (Rows.entryLastRow.maps == (Try.f14.params.toList ++ Rows.entryLastSpec.plain.varTypes Try.prog).any (Try.prog.mapsRec ·)) = true := by kernel_rfl
theorem k15 : (Rows.entryLastRow.ifaces == (Try.f14.params.toList ++ Rows.entryLastSpec.plain.varTypes Try.prog).any (Try.prog.ifacesRec ·)) = true := by kernel_rfl
theorem k16 : (Rows.entryLastRow.mapsOut == Try.prog.mapsAmong Try.f14.resultTypes.toList) = true := by kernel_rfl
theorem k17 : (Rows.entryLastRow.loops == (Try.f14.params.toList ++ Rows.entryLastSpec.plain.varTypes Try.prog).any (Try.prog.loopsFrom ·)) = true := by kernel_rfl
theorem k18 : (Rows.entryLastRow.wideKeys == (Try.f14.params.toList ++ Rows.entryLastSpec.plain.varTypes Try.prog ++ Try.f14.resultTypes.toList).any (Try.prog.wideKeysFrom ·)) = true := by kernel_rfl
theorem k19 : Rows.entryLastSpec.vars.all (Try.prog.varReadable ·) = true := by kernel_rfl
theorem k20 : Try.f14.resultTypes.all (fun t => Try.prog.readableRec t && decide (t < Try.prog.types.size)) = true := by kernel_rfl
theorem k21 : (Rows.entryLastRow.ifacesOut == Try.f14.resultTypes.toList.any (Try.prog.ifacesRec ·)) = true := by kernel_rfl
theorem k22 : (Rows.entryLastRow.loopsOut == Try.f14.resultTypes.toList.any (Try.prog.loopsFrom ·)) = true := by kernel_rfl
theorem k23p : Rows.entryLastRow.plainKeys = true := by kernel_rfl
theorem k24 : Rows.entryLastRow.shortTexts.isNone = true := by kernel_rfl
theorem k27p : Rows.entryLastRow.lifted = false := by kernel_rfl
theorem k28p : (some Make.cut == some Rows.entryLastRow.make) = true := by kernel_rfl
theorem k29 : (Rows.entryLastRow.kinds == (if Rows.entryLastRow.domain.isEmpty then [] else Try.f14.params.toList.map fun t => match Try.prog.underlying t with | some (.int k) => some k | _ => none)) = true := by kernel_rfl
theorem k30 : (Rows.entryLastRow.pinned == Rows.entryLastRow.pinnedBy) = true := by kernel_rfl
theorem k31 : (Rows.entryLastRow.veiled == (Try.f14.params.toList ++ Rows.entryLastSpec.plain.varTypes Try.prog ++ Try.f14.resultTypes.toList).any (Try.prog.veiledRec ·)) = true := by kernel_rfl
theorem k32 : Rows.entryLastRow.veiledFits Try.prog Try.f14.params.toList (Try.f14.params.toList ++ Rows.entryLastSpec.plain.varTypes Try.prog ++ Try.f14.resultTypes.toList) = true := by kernel_rfl
theorem hname : Try.prog.funcNamed Rows.entryLastRow.func = some 14 := by kernel_rfl
theorem hwrap : Try.f14.isWrapper Try.prog Rows.entryLastRow.wrapper Rows.entryLastRow.mainSum := by unfold Func.isWrapper; rw [if_neg (of_decide_eq_false (by kernel_rfl))]; exact ⟨rfl, rfl⟩
theorem k23 : (Rows.entryLastRow.plainKeys == Try.prog.plainKeys) = true := by rw [k23p]; exact fact_plainKeys
theorem k27 : (Rows.entryLastRow.lifted == Try.prog.liftsFinal) = true := by rw [k27p, fact_liftsFinal]; rfl
theorem k28 : (Try.prog.make == some Rows.entryLastRow.make) = true := by rw [fact_make]; exact k28p
theorem hinst : Try.f14.isInstance Try.prog Rows.entryLastRow.origin Rows.entryLastRow.targs := of_decide_eq_true (by kernel_rfl)
theorem closed : joinedFacts Try.prog 14 Try.f14 Rows.entryLastSpec Rows.entryLastRow = true :=
  joined_of (P := Try.prog) (f := 14) (fn := Try.f14) (s := Rows.entryLastSpec) (c := Rows.entryLastRow) k1 fact_laidOut fact_mapsRowed k4 k5 k6 fact_stops k8 fact_stopKnobs k10 k11 k12 k13 k14 k15 k16 k17 k18 k19 k20 k21 k22 k23 k24 fact_stopsHeard fact_mayEnter k27 k28 k29 k30 k31 k32

theorem over : Rows.entryLastRow.holds Try.pinned (OpenSpec.ofChange Rows.entryLastSpec) :=
  OpenClaim.holds_of_wide 14 Try.f14 rfl rfl rfl rfl rfl rfl rfl ⟨rfl, rfl, rfl, rfl, rfl⟩ rfl rfl rfl rfl rfl hname Try.func14 closed hinst hwrap
    (fun os started H enc _ => lifted os started H enc)

/-- The statement. -/
theorem proved : Rows.EntryLastSaid := over
#print axioms proved
end Go.Proofs.Ytpmbjlmplfejgaa.entryLast
