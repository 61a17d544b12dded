/-
  entry.Read answers as the reference for every seal and every words: EntryReads is always true; no conditions.
-/
import Derived.Test.YtpmbjlmplfejgaaRows
import Derived.Test.YtpmbjlmplfejgaaFacts
import Derived.Test.YtpmbjlmplfejgaaEntI
import Derived.WalkKit
import Derived.ProofKit
import Derived.OpenShut
import Derived.ShutString
import Derived.ChangeOld
import Derived.Below
import Derived.Lib.SmallJoins
import Derived.Deep.Slices
namespace Go.Proofs.Ytpmbjlmplfejgaa.entryReads
open Go.ChangeShapes Go.WideShapes Go.ChangeAt Go.RowKit Go.Joins Go.Deep
open Go.ChangeMaps (open_string shut_string)
set_option linter.unusedVariables false

theorem own : ownKnob Try.prog.godebug = none := fact_own
theorem laidOut : laidOutB Try.prog = true := fact_laidOut

set_option maxRecDepth 100000 in
theorem lifted (os : Os) (started : os.Started) (H : Type) (enc : TypeId × Value → H) :
    ReturnsInHanded {} Try.checked os 10 .any (Rows.entryReadsSpec.pre6 enc Try.prog Try.f10 Rows.entryReadsRow.domain false) (Rows.entryReadsSpec.post enc Try.prog Try.f10 false true false false) := by
  refine returnsInHanded_of_change (C := Try.checked) own started (by kernel_rfl) Try.func10
    (ChangeSpec.witness6 (enc := enc) (C := Try.checked) false ⟨#[], #[.int .u64 0, .slice none 0 0], []⟩ 8 (by kernel_rfl) (by kernel_rfl) (by kernel_rfl) (by kernel_rfl)) ?_
  intro W base args ds gs before hval0 hW hcnd _
  have hval : ∀ (j : Nat) t v, Try.f10.params[j]? = some t → args[j]? = some v → Value.okWide Try.prog W .any base t v := hval0
  have hW' := hW
  obtain ⟨p, q, hA0, hV, rfl, hfz, hnd⟩ := hW
  have hA : DataW.TrodAll enc Try.prog W 0 (fun _ => true) true Try.f10.params.toList args.toList ds p := hA0
  rw [Try.params10] at hA hval
  obtain ⟨v0, vs0, d0, ds0, p0, q0, hargs, rfl, rfl, h0, r0⟩ := trodAll_cons hA
  obtain ⟨v1, vs1, d1, ds1, p1, q1, rfl, rfl, rfl, h1, r1⟩ := trodAll_cons r0
  obtain ⟨rfl, rfl, rfl⟩ := trodAll_nil r1
  obtain rfl : args = #[v0, v1] := by cases args; simp_all
  obtain ⟨rfl, rfl⟩ := trodVars_none hV
  obtain ⟨a0, rfl, rfl, rfl, w0⟩ := open_int Try.underlying28 (hval 0 28 v0 rfl rfl) h0
  have k1 := h1
  have lt1 : ∀ x ∈ p1, x.block < W.heap.size := by obtain ⟨m, hm⟩ := k1; exact DataW.trod_lt m _ _ _ hm
  obtain ⟨A1, len1, cap1, rfl⟩ := okWide_slice Try.underlying27 (hval 1 27 v1 rfl rfl)
  obtain ⟨z1, row1⟩ : ∃ zs, IsRow .u64 W A1 len1 cap1 zs := by
    obtain ⟨fuel, hf⟩ := h1
    rcases open_ints Try.underlying27 Try.underlying28 (by kernel_rfl) hf with ⟨hcs, _⟩ | ⟨x, l, c, zs, hcs, _, hl, hm, hz, _, hcell, hwz⟩
    · simp [Value.cells] at hcs
      obtain ⟨rfl, rfl, rfl⟩ := hcs
      exact ⟨[], .inl ⟨rfl, rfl, rfl, rfl⟩⟩
    · simp [Value.cells] at hcs
      obtain ⟨rfl, rfl, rfl⟩ := hcs
      exact ⟨zs, .inr ⟨_, rfl, hl, hm, by simpa using hz, hcell, hwz⟩⟩
  clear hA0 hval0
  refine (law_EntryReads' w0 row1).mono fun e W' ⟨he, bel⟩ => ?_
  subst he
  exact ⟨_, rfl, _, _, _, [], _, [], hW', trodAll_mk1 (shut_bool Try.underlying4 _), (trodAll_cons_mk (shut_int Try.underlying28 w0) (trodAll_cons_mk (Below.trod laidOut (by kernel_rfl) (of_decide_eq_true (by kernel_rfl)) k1 bel lt1) trodAll_mk0)), rfl, bel.frame _, fun h => by cases h⟩

set_option maxRecDepth 100000
theorem k1 : Rows.entryReadsRow.wf (OpenSpec.ofChange Rows.entryReadsSpec) = true := by kernel_rfl
theorem k4 : Try.f10.params.all (Try.prog.readableRec ·) = true := by kernel_rfl
theorem k5 : namedTie Try.prog Rows.entryReadsRow.named Rows.entryReadsSpec.vars = true := by kernel_rfl
theorem k6 : (Rows.entryReadsRow.stops == []) = true := by kernel_rfl
theorem k8 : (Rows.entryReadsRow.knobs == []) = true := by kernel_rfl
theorem k10 : (Rows.entryReadsRow.inPlace == Try.prog.inPlace 10) = true := by kernel_rfl
theorem k11 : (Rows.entryReadsRow.unfollowed == Try.prog.unfollowed 10) = true := by kernel_rfl
theorem k12 : (Rows.entryReadsRow.recurses == Try.prog.recurses 10) = true := by kernel_rfl
theorem k13 : (Rows.entryReadsRow.named == Try.prog.varsNamed 10) = true := by kernel_rfl
theorem k14 : (Rows.entryReadsRow.maps == (Try.f10.params.toList ++ Rows.entryReadsSpec.plain.varTypes Try.prog).any (Try.prog.mapsRec ·)) = true := by kernel_rfl
theorem k15 : (Rows.entryReadsRow.ifaces == (Try.f10.params.toList ++ Rows.entryReadsSpec.plain.varTypes Try.prog).any (Try.prog.ifacesRec ·)) = true := by kernel_rfl
theorem k16 : (Rows.entryReadsRow.mapsOut == Try.prog.mapsAmong Try.f10.resultTypes.toList) = true := by kernel_rfl
theorem k17 : (Rows.entryReadsRow.loops == (Try.f10.params.toList ++ Rows.entryReadsSpec.plain.varTypes Try.prog).any (Try.prog.loopsFrom ·)) = true := by kernel_rfl
theorem k18 : (Rows.entryReadsRow.wideKeys == (Try.f10.params.toList ++ Rows.entryReadsSpec.plain.varTypes Try.prog ++ Try.f10.resultTypes.toList).any (Try.prog.wideKeysFrom ·)) = true := by kernel_rfl
theorem k19 : Rows.entryReadsSpec.vars.all (Try.prog.varReadable ·) = true := by kernel_rfl
theorem k20 : Try.f10.resultTypes.all (fun t => Try.prog.readableRec t && decide (t < Try.prog.types.size)) = true := by kernel_rfl
theorem k21 : (Rows.entryReadsRow.ifacesOut == Try.f10.resultTypes.toList.any (Try.prog.ifacesRec ·)) = true := by kernel_rfl
theorem k22 : (Rows.entryReadsRow.loopsOut == Try.f10.resultTypes.toList.any (Try.prog.loopsFrom ·)) = true := by kernel_rfl
theorem k23p : Rows.entryReadsRow.plainKeys = true := by kernel_rfl
theorem k24 : Rows.entryReadsRow.shortTexts.isNone = true := by kernel_rfl
theorem k27p : Rows.entryReadsRow.lifted = false := by kernel_rfl
theorem k28p : (some Make.cut == some Rows.entryReadsRow.make) = true := by kernel_rfl
theorem k29 : (Rows.entryReadsRow.kinds == (if Rows.entryReadsRow.domain.isEmpty then [] else Try.f10.params.toList.map fun t => match Try.prog.underlying t with | some (.int k) => some k | _ => none)) = true := by kernel_rfl
theorem k30 : (Rows.entryReadsRow.pinned == Rows.entryReadsRow.pinnedBy) = true := by kernel_rfl
theorem k31 : (Rows.entryReadsRow.veiled == (Try.f10.params.toList ++ Rows.entryReadsSpec.plain.varTypes Try.prog ++ Try.f10.resultTypes.toList).any (Try.prog.veiledRec ·)) = true := by kernel_rfl
theorem k32 : Rows.entryReadsRow.veiledFits Try.prog Try.f10.params.toList (Try.f10.params.toList ++ Rows.entryReadsSpec.plain.varTypes Try.prog ++ Try.f10.resultTypes.toList) = true := by kernel_rfl
theorem hname : Try.prog.funcNamed Rows.entryReadsRow.func = some 10 := by kernel_rfl
theorem hwrap : Try.f10.isWrapper Try.prog Rows.entryReadsRow.wrapper Rows.entryReadsRow.mainSum := by unfold Func.isWrapper; rw [if_neg (of_decide_eq_false (by kernel_rfl))]; exact ⟨rfl, rfl⟩
theorem k23 : (Rows.entryReadsRow.plainKeys == Try.prog.plainKeys) = true := by rw [k23p]; exact fact_plainKeys
theorem k27 : (Rows.entryReadsRow.lifted == Try.prog.liftsFinal) = true := by rw [k27p, fact_liftsFinal]; rfl
theorem k28 : (Try.prog.make == some Rows.entryReadsRow.make) = true := by rw [fact_make]; exact k28p
theorem hinst : Try.f10.isInstance Try.prog Rows.entryReadsRow.origin Rows.entryReadsRow.targs := of_decide_eq_true (by kernel_rfl)
theorem closed : joinedFacts Try.prog 10 Try.f10 Rows.entryReadsSpec Rows.entryReadsRow = true :=
  joined_of (P := Try.prog) (f := 10) (fn := Try.f10) (s := Rows.entryReadsSpec) (c := Rows.entryReadsRow) k1 fact_laidOut fact_mapsRowed k4 k5 k6 fact_stops k8 fact_stopKnobs k10 k11 k12 k13 k14 k15 k16 k17 k18 k19 k20 k21 k22 k23 k24 fact_stopsHeard fact_mayEnter k27 k28 k29 k30 k31 k32

theorem over : Rows.entryReadsRow.holds Try.pinned (OpenSpec.ofChange Rows.entryReadsSpec) :=
  OpenClaim.holds_of_wide 10 Try.f10 rfl rfl rfl rfl rfl rfl rfl ⟨rfl, rfl, rfl, rfl, rfl⟩ rfl rfl rfl rfl rfl hname Try.func10 closed hinst hwrap
    (fun os started H enc _ => lifted os started H enc)

/-- The statement. -/
theorem proved : Rows.EntryReadsSaid := over
#print axioms proved
end Go.Proofs.Ytpmbjlmplfejgaa.entryReads
