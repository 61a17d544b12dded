/-
  The statement SuperReads holds of every slice of words: its proof, off the walk of SupF.
-/
import Derived.Test.YtpmbjlmplfejgaaRows
import Derived.Test.YtpmbjlmplfejgaaFacts
import Derived.Test.YtpmbjlmplfejgaaSupF
import Derived.WalkKit
import Derived.ProofKit
import Derived.OpenShut
import Derived.ShutString
import Derived.ChangeOld
import Derived.Below
import Derived.Lib.SmallJoins
import Derived.Deep.Slices
namespace Go.Proofs.Ytpmbjlmplfejgaa.superReads
open Go.ChangeShapes Go.WideShapes Go.ChangeAt Go.RowKit Go.Joins Go.Deep
open Go.ChangeMaps (open_string shut_string)
set_option linter.unusedVariables false

theorem own : ownKnob Try.prog.godebug = none := fact_own
theorem laidOut : laidOutB Try.prog = true := fact_laidOut

set_option maxRecDepth 100000 in
theorem lifted (os : Os) (started : os.Started) (H : Type) (enc : TypeId × Value → H) :
    ReturnsInHanded {} Try.checked os 12 .any (Rows.superReadsSpec.pre6 enc Try.prog Try.f12 Rows.superReadsRow.domain false) (Rows.superReadsSpec.post enc Try.prog Try.f12 false true false false) := by
  refine returnsInHanded_of_change (C := Try.checked) own started (by kernel_rfl) Try.func12
    (ChangeSpec.witness6 (enc := enc) (C := Try.checked) false ⟨#[], #[.slice none 0 0], []⟩ 8 (by kernel_rfl) (by kernel_rfl) (by kernel_rfl) (by kernel_rfl)) ?_
  intro W base args ds gs before hval0 hW hcnd _
  have hval : ∀ (j : Nat) t v, Try.f12.params[j]? = some t → args[j]? = some v → Value.okWide Try.prog W .any base t v := hval0
  have hW' := hW
  obtain ⟨p, q, hA0, hV, rfl, hfz, hnd⟩ := hW
  have hA : DataW.TrodAll enc Try.prog W 0 (fun _ => true) true Try.f12.params.toList args.toList ds p := hA0
  rw [Try.params12] at hA hval
  obtain ⟨v0, vs0, d0, ds0, p0, q0, hargs, rfl, rfl, h0, r0⟩ := trodAll_cons hA
  obtain ⟨rfl, rfl, rfl⟩ := trodAll_nil r0
  obtain rfl : args = #[v0] := by cases args; simp_all
  obtain ⟨rfl, rfl⟩ := trodVars_none hV
  have k0 := h0
  have lt0 : ∀ x ∈ p0, x.block < W.heap.size := by obtain ⟨m, hm⟩ := k0; exact DataW.trod_lt m _ _ _ hm
  obtain ⟨A0, len0, cap0, rfl⟩ := okWide_slice Try.underlying27 (hval 0 27 v0 rfl rfl)
  obtain ⟨z0, row0⟩ : ∃ zs, IsRow .u64 W A0 len0 cap0 zs := by
    obtain ⟨fuel, hf⟩ := h0
    rcases open_ints Try.underlying27 Try.underlying28 (by kernel_rfl) hf with ⟨hcs, _⟩ | ⟨x, l, c, zs, hcs, _, hl, hm, hz, _, hcell, hwz⟩
    · simp [Value.cells] at hcs
      obtain ⟨rfl, rfl, rfl⟩ := hcs
      exact ⟨[], .inl ⟨rfl, rfl, rfl, rfl⟩⟩
    · simp [Value.cells] at hcs
      obtain ⟨rfl, rfl, rfl⟩ := hcs
      exact ⟨zs, .inr ⟨_, rfl, hl, hm, by simpa using hz, hcell, hwz⟩⟩
  clear hA0 hval0
  refine (law_SuperReads' row0).mono fun e W' ⟨he, bel⟩ => ?_
  subst he
  exact ⟨_, rfl, _, _, _, [], _, [], hW', trodAll_mk1 (shut_bool Try.underlying4 _), (trodAll_cons_mk (Below.trod laidOut (by kernel_rfl) (of_decide_eq_true (by kernel_rfl)) k0 bel lt0) trodAll_mk0), rfl, bel.frame _, fun h => by cases h⟩

set_option maxRecDepth 100000
theorem k1 : Rows.superReadsRow.wf (OpenSpec.ofChange Rows.superReadsSpec) = true := by kernel_rfl
theorem k4 : Try.f12.params.all (Try.prog.readableRec ·) = true := by kernel_rfl
theorem k5 : namedTie Try.prog Rows.superReadsRow.named Rows.superReadsSpec.vars = true := by kernel_rfl
theorem k6 : (Rows.superReadsRow.stops == []) = true := by kernel_rfl
theorem k8 : (Rows.superReadsRow.knobs == []) = true := by kernel_rfl
theorem k10 : (Rows.superReadsRow.inPlace == Try.prog.inPlace 12) = true := by kernel_rfl
theorem k11 : (Rows.superReadsRow.unfollowed == Try.prog.unfollowed 12) = true := by kernel_rfl
theorem k12 : (Rows.superReadsRow.recurses == Try.prog.recurses 12) = true := by kernel_rfl
theorem k13 : (Rows.superReadsRow.named == Try.prog.varsNamed 12) = true := by kernel_rfl
theorem k14 : (Rows.superReadsRow.maps == (Try.f12.params.toList ++ Rows.superReadsSpec.plain.varTypes Try.prog).any (Try.prog.mapsRec ·)) = true := by kernel_rfl
theorem k15 : (Rows.superReadsRow.ifaces == (Try.f12.params.toList ++ Rows.superReadsSpec.plain.varTypes Try.prog).any (Try.prog.ifacesRec ·)) = true := by kernel_rfl
theorem k16 : (Rows.superReadsRow.mapsOut == Try.prog.mapsAmong Try.f12.resultTypes.toList) = true := by kernel_rfl
theorem k17 : (Rows.superReadsRow.loops == (Try.f12.params.toList ++ Rows.superReadsSpec.plain.varTypes Try.prog).any (Try.prog.loopsFrom ·)) = true := by kernel_rfl
theorem k18 : (Rows.superReadsRow.wideKeys == (Try.f12.params.toList ++ Rows.superReadsSpec.plain.varTypes Try.prog ++ Try.f12.resultTypes.toList).any (Try.prog.wideKeysFrom ·)) = true := by kernel_rfl
theorem k19 : Rows.superReadsSpec.vars.all (Try.prog.varReadable ·) = true := by kernel_rfl
theorem k20 : Try.f12.resultTypes.all (fun t => Try.prog.readableRec t && decide (t < Try.prog.types.size)) = true := by kernel_rfl
theorem k21 : (Rows.superReadsRow.ifacesOut == Try.f12.resultTypes.toList.any (Try.prog.ifacesRec ·)) = true := by kernel_rfl
theorem k22 : (Rows.superReadsRow.loopsOut == Try.f12.resultTypes.toList.any (Try.prog.loopsFrom ·)) = true := by kernel_rfl
theorem k23p : Rows.superReadsRow.plainKeys = true := by kernel_rfl
theorem k24 : Rows.superReadsRow.shortTexts.isNone = true := by kernel_rfl
theorem k27p : Rows.superReadsRow.lifted = false := by kernel_rfl
theorem k28p : (some Make.cut == some Rows.superReadsRow.make) = true := by kernel_rfl
theorem k29 : (Rows.superReadsRow.kinds == (if Rows.superReadsRow.domain.isEmpty then [] else Try.f12.params.toList.map fun t => match Try.prog.underlying t with | some (.int k) => some k | _ => none)) = true := by kernel_rfl
theorem k30 : (Rows.superReadsRow.pinned == Rows.superReadsRow.pinnedBy) = true := by kernel_rfl
theorem k31 : (Rows.superReadsRow.veiled == (Try.f12.params.toList ++ Rows.superReadsSpec.plain.varTypes Try.prog ++ Try.f12.resultTypes.toList).any (Try.prog.veiledRec ·)) = true := by kernel_rfl
theorem k32 : Rows.superReadsRow.veiledFits Try.prog Try.f12.params.toList (Try.f12.params.toList ++ Rows.superReadsSpec.plain.varTypes Try.prog ++ Try.f12.resultTypes.toList) = true := by kernel_rfl
theorem hname : Try.prog.funcNamed Rows.superReadsRow.func = some 12 := by kernel_rfl
theorem hwrap : Try.f12.isWrapper Try.prog Rows.superReadsRow.wrapper Rows.superReadsRow.mainSum := by unfold Func.isWrapper; rw [if_neg (of_decide_eq_false (by kernel_rfl))]; exact ⟨rfl, rfl⟩
theorem k23 : (Rows.superReadsRow.plainKeys == Try.prog.plainKeys) = true := by rw [k23p]; exact fact_plainKeys
theorem k27 : (Rows.superReadsRow.lifted == Try.prog.liftsFinal) = true := by rw [k27p, fact_liftsFinal]; rfl
theorem k28 : (Try.prog.make == some Rows.superReadsRow.make) = true := by rw [fact_make]; exact k28p
theorem hinst : Try.f12.isInstance Try.prog Rows.superReadsRow.origin Rows.superReadsRow.targs := of_decide_eq_true (by kernel_rfl)
theorem closed : joinedFacts Try.prog 12 Try.f12 Rows.superReadsSpec Rows.superReadsRow = true :=
  joined_of (P := Try.prog) (f := 12) (fn := Try.f12) (s := Rows.superReadsSpec) (c := Rows.superReadsRow) k1 fact_laidOut fact_mapsRowed k4 k5 k6 fact_stops k8 fact_stopKnobs k10 k11 k12 k13 k14 k15 k16 k17 k18 k19 k20 k21 k22 k23 k24 fact_stopsHeard fact_mayEnter k27 k28 k29 k30 k31 k32

theorem over : Rows.superReadsRow.holds Try.pinned (OpenSpec.ofChange Rows.superReadsSpec) :=
  OpenClaim.holds_of_wide 12 Try.f12 rfl rfl rfl rfl rfl rfl rfl ⟨rfl, rfl, rfl, rfl, rfl⟩ rfl rfl rfl rfl rfl hname Try.func12 closed hinst hwrap
    (fun os started H enc _ => lifted os started H enc)

/-- The statement. -/
theorem proved : Rows.SuperReadsSaid := over
#print axioms proved
end Go.Proofs.Ytpmbjlmplfejgaa.superReads
