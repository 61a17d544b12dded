/-
  entry.Words and entry.Seal are the reference's for every log, and what they write is read back: EntryWords is always true; no conditions.
-/
import Derived.Test.YtpmbjlmplfejgaaRows
import Derived.Test.YtpmbjlmplfejgaaFacts
import Derived.Test.YtpmbjlmplfejgaaEntI
import Derived.WalkKit
import Derived.ProofKit
import Derived.OpenShut
import Derived.ShutString
import Derived.ChangeOld
import Derived.Below
import Derived.Lib.SmallJoins
import Derived.Deep.Slices
namespace Go.Proofs.Ytpmbjlmplfejgaa.entryWords
open Go.ChangeShapes Go.WideShapes Go.ChangeAt Go.RowKit Go.Joins Go.Deep
open Go.ChangeMaps (open_string shut_string)
set_option linter.unusedVariables false

theorem own : ownKnob Try.prog.godebug = none := fact_own
theorem laidOut : laidOutB Try.prog = true := fact_laidOut

set_option maxRecDepth 100000 in
theorem lifted (os : Os) (started : os.Started) (H : Type) (enc : TypeId × Value → H) :
    ReturnsInHanded {} Try.checked os 9 .any (Rows.entryWordsSpec.pre6 enc Try.prog Try.f9 Rows.entryWordsRow.domain false) (Rows.entryWordsSpec.post enc Try.prog Try.f9 false true false false) := by
  refine returnsInHanded_of_change (C := Try.checked) own started (by kernel_rfl) Try.func9
    (ChangeSpec.witness6 (enc := enc) (C := Try.checked) false ⟨#[], #[.slice none 0 0, .slice none 0 0], []⟩ 8 (by kernel_rfl) (by kernel_rfl) (by kernel_rfl) (by kernel_rfl)) ?_
  intro W base args ds gs before hval0 hW hcnd _
  have hval : ∀ (j : Nat) t v, Try.f9.params[j]? = some t → args[j]? = some v → Value.okWide Try.prog W .any base t v := hval0
  have hW' := hW
  obtain ⟨p, q, hA0, hV, rfl, hfz, hnd⟩ := hW
  have hA : DataW.TrodAll enc Try.prog W 0 (fun _ => true) true Try.f9.params.toList args.toList ds p := hA0
  rw [Try.params9] at hA hval
  obtain ⟨v0, vs0, d0, ds0, p0, q0, hargs, rfl, rfl, h0, r0⟩ := trodAll_cons hA
  obtain ⟨v1, vs1, d1, ds1, p1, q1, rfl, rfl, rfl, h1, r1⟩ := trodAll_cons r0
  obtain ⟨rfl, rfl, rfl⟩ := trodAll_nil r1
  obtain rfl : args = #[v0, v1] := by cases args; simp_all
  obtain ⟨rfl, rfl⟩ := trodVars_none hV
  have k0 := h0
  have lt0 : ∀ x ∈ p0, x.block < W.heap.size := by obtain ⟨m, hm⟩ := k0; exact DataW.trod_lt m _ _ _ hm
  obtain ⟨A0, len0, cap0, rfl⟩ := okWide_slice Try.underlying53 (hval 0 53 v0 rfl rfl)
  obtain ⟨es0, row0⟩ : ∃ es, IsEnts W A0 len0 cap0 es := by
    obtain ⟨fuel, hf⟩ := h0
    obtain ⟨A, len, cap, es, hcs, hr⟩ := open_ents hf
    simp [Value.cells] at hcs
    obtain ⟨rfl, rfl, rfl⟩ := hcs
    exact ⟨es, hr⟩
  have k1 := h1
  have lt1 : ∀ x ∈ p1, x.block < W.heap.size := by obtain ⟨m, hm⟩ := k1; exact DataW.trod_lt m _ _ _ hm
  obtain ⟨A1, len1, cap1, rfl⟩ := okWide_slice Try.underlying27 (hval 1 27 v1 rfl rfl)
  obtain ⟨z1, row1⟩ : ∃ zs, IsRow .u64 W A1 len1 cap1 zs := by
    obtain ⟨fuel, hf⟩ := h1
    rcases open_ints Try.underlying27 Try.underlying28 (by kernel_rfl) hf with ⟨hcs, _⟩ | ⟨x, l, c, zs, hcs, _, hl, hm, hz, _, hcell, hwz⟩
    · simp [Value.cells] at hcs
      obtain ⟨rfl, rfl, rfl⟩ := hcs
      exact ⟨[], .inl ⟨rfl, rfl, rfl, rfl⟩⟩
    · simp [Value.cells] at hcs
      obtain ⟨rfl, rfl, rfl⟩ := hcs
      exact ⟨zs, .inr ⟨_, rfl, hl, hm, by simpa using hz, hcell, hwz⟩⟩
  clear hA0 hval0
  refine (law_EntryWords' row0 row1).mono fun e W' ⟨he, bel⟩ => ?_
  subst he
  exact ⟨_, rfl, _, _, _, [], _, [], hW', trodAll_mk1 (shut_bool Try.underlying4 _), (trodAll_cons_mk (Below.trod laidOut (by kernel_rfl) (of_decide_eq_true (by kernel_rfl)) k0 bel lt0) (trodAll_cons_mk (Below.trod laidOut (by kernel_rfl) (of_decide_eq_true (by kernel_rfl)) k1 bel lt1) trodAll_mk0)), rfl, bel.frame _, fun h => by cases h⟩

set_option maxRecDepth 100000
theorem k1 : Rows.entryWordsRow.wf (OpenSpec.ofChange Rows.entryWordsSpec) = true := by kernel_rfl
theorem k4 : Try.f9.params.all (Try.prog.readableRec ·) = true := by kernel_rfl
theorem k5 : namedTie Try.prog Rows.entryWordsRow.named Rows.entryWordsSpec.vars = true := by kernel_rfl
theorem k6 : (Rows.entryWordsRow.stops == []) = true := by kernel_rfl
theorem k8 : (Rows.entryWordsRow.knobs == []) = true := by kernel_rfl
theorem k10 : (Rows.entryWordsRow.inPlace == Try.prog.inPlace 9) = true := by kernel_rfl
theorem k11 : (Rows.entryWordsRow.unfollowed == Try.prog.unfollowed 9) = true := by kernel_rfl
theorem k12 : (Rows.entryWordsRow.recurses == Try.prog.recurses 9) = true := by kernel_rfl
theorem k13 : (Rows.entryWordsRow.named == Try.prog.varsNamed 9) = true := by kernel_rfl
theorem k14 : (Rows.entryWordsRow.maps == (Try.f9.params.toList ++ Rows.entryWordsSpec.plain.varTypes Try.prog).any (Try.prog.mapsRec ·)) = true := by kernel_rfl
theorem k15 : (Rows.entryWordsRow.ifaces == (Try.f9.params.toList ++ Rows.entryWordsSpec.plain.varTypes Try.prog).any (Try.prog.ifacesRec ·)) = true := by kernel_rfl
theorem k16 : (Rows.entryWordsRow.mapsOut == Try.prog.mapsAmong Try.f9.resultTypes.toList) = true := by kernel_rfl
theorem k17 : (Rows.entryWordsRow.loops == (Try.f9.params.toList ++ Rows.entryWordsSpec.plain.varTypes Try.prog).any (Try.prog.loopsFrom ·)) = true := by kernel_rfl
theorem k18 : (Rows.entryWordsRow.wideKeys == (Try.f9.params.toList ++ Rows.entryWordsSpec.plain.varTypes Try.prog ++ Try.f9.resultTypes.toList).any (Try.prog.wideKeysFrom ·)) = true := by kernel_rfl
theorem k19 : Rows.entryWordsSpec.vars.all (Try.prog.varReadable ·) = true := by kernel_rfl
theorem k20 : Try.f9.resultTypes.all (fun t => Try.prog.readableRec t && decide (t < Try.prog.types.size)) = true := by kernel_rfl
theorem k21 : (Rows.entryWordsRow.ifacesOut == Try.f9.resultTypes.toList.any (Try.prog.ifacesRec ·)) = true := by kernel_rfl
theorem k22 : (Rows.entryWordsRow.loopsOut == Try.f9.resultTypes.toList.any (Try.prog.loopsFrom ·)) = true := by kernel_rfl
theorem k23p : Rows.entryWordsRow.plainKeys = true := by kernel_rfl
theorem k24 : Rows.entryWordsRow.shortTexts.isNone = true := by kernel_rfl
theorem k27p : Rows.entryWordsRow.lifted = false := by kernel_rfl
theorem k28p : (some Make.cut == some Rows.entryWordsRow.make) = true := by kernel_rfl
theorem k29 : (Rows.entryWordsRow.kinds == (if Rows.entryWordsRow.domain.isEmpty then [] else Try.f9.params.toList.map fun t => match Try.prog.underlying t with | some (.int k) => some k | _ => none)) = true := by kernel_rfl
theorem k30 : (Rows.entryWordsRow.pinned == Rows.entryWordsRow.pinnedBy) = true := by kernel_rfl
theorem k31 : (Rows.entryWordsRow.veiled == (Try.f9.params.toList ++ Rows.entryWordsSpec.plain.varTypes Try.prog ++ Try.f9.resultTypes.toList).any (Try.prog.veiledRec ·)) = true := by kernel_rfl
theorem k32 : Rows.entryWordsRow.veiledFits Try.prog Try.f9.params.toList (Try.f9.params.toList ++ Rows.entryWordsSpec.plain.varTypes Try.prog ++ Try.f9.resultTypes.toList) = true := by kernel_rfl
theorem hname : Try.prog.funcNamed Rows.entryWordsRow.func = some 9 := by kernel_rfl
theorem hwrap : Try.f9.isWrapper Try.prog Rows.entryWordsRow.wrapper Rows.entryWordsRow.mainSum := by unfold Func.isWrapper; rw [if_neg (of_decide_eq_false (by kernel_rfl))]; exact ⟨rfl, rfl⟩
theorem k23 : (Rows.entryWordsRow.plainKeys == Try.prog.plainKeys) = true := by rw [k23p]; exact fact_plainKeys
theorem k27 : (Rows.entryWordsRow.lifted == Try.prog.liftsFinal) = true := by rw [k27p, fact_liftsFinal]; rfl
theorem k28 : (Try.prog.make == some Rows.entryWordsRow.make) = true := by rw [fact_make]; exact k28p
theorem hinst : Try.f9.isInstance Try.prog Rows.entryWordsRow.origin Rows.entryWordsRow.targs := of_decide_eq_true (by kernel_rfl)
theorem closed : joinedFacts Try.prog 9 Try.f9 Rows.entryWordsSpec Rows.entryWordsRow = true :=
  joined_of (P := Try.prog) (f := 9) (fn := Try.f9) (s := Rows.entryWordsSpec) (c := Rows.entryWordsRow) k1 fact_laidOut fact_mapsRowed k4 k5 k6 fact_stops k8 fact_stopKnobs k10 k11 k12 k13 k14 k15 k16 k17 k18 k19 k20 k21 k22 k23 k24 fact_stopsHeard fact_mayEnter k27 k28 k29 k30 k31 k32

theorem over : Rows.entryWordsRow.holds Try.pinned (OpenSpec.ofChange Rows.entryWordsSpec) :=
  OpenClaim.holds_of_wide 9 Try.f9 rfl rfl rfl rfl rfl rfl rfl ⟨rfl, rfl, rfl, rfl, rfl⟩ rfl rfl rfl rfl rfl hname Try.func9 closed hinst hwrap
    (fun os started H enc _ => lifted os started H enc)

/-- The statement. -/
theorem proved : Rows.EntryWordsSaid := over
#print axioms proved
end Go.Proofs.Ytpmbjlmplfejgaa.entryWords
