/-
  The statement SumTurned: whatever words come in, and whichever word and bit is turned, the law's function returns true, and its arguments read behind the call as they read before. No condition.
-/
import Derived.Test.YtpmbjlmplfejgaaRows
import Derived.Test.YtpmbjlmplfejgaaFacts
import Derived.Test.YtpmbjlmplfejgaaSumE
import Derived.WalkKit
import Derived.ProofKit
import Derived.OpenShut
import Derived.ShutString
import Derived.ChangeOld
import Derived.Below
namespace Go.Proofs.Ytpmbjlmplfejgaa.sumTurned
open Go.ChangeShapes Go.WideShapes Go.ChangeAt Go.RowKit
open Go.ChangeMaps (open_string shut_string)
set_option linter.unusedVariables false

theorem own : ownKnob Try.prog.godebug = none := fact_own
theorem laidOut : laidOutB Try.prog = true := fact_laidOut

/-- WHAT THE WALK IS TOLD OF A SLICE OF INTEGERS THAT CAME IN: it is nil; or it leads to a row of 'cap' cells, the numbers 'zs' (the first 'len' are its elements, the rest its spare room), each fitting its kind. -/
def IsRow (k : IntKind) (w : World) (a : Option Addr) (len cap : Nat) (zs : List Int) : Prop :=
  (a = none ∧ len = 0 ∧ cap = 0 ∧ zs = []) ∨
  ∃ x, a = some x ∧ len ≤ cap ∧ cap ≤ maxLen ∧ zs.length = cap ∧ (∀ i, i < zs.length → w.cell? (x.add i) = some (.int k (zs.getD i 0))) ∧ ∀ n ∈ zs, (Lit.int k n).wf = true

/-! ### STEP 1: THE WALK: the Go text returns true, AND WRITES NOTHING THAT WAS THERE: 'Below w.heap.size w w'' (Derived/Below.lean: '.refl', '.alloc', '.drew', '.setCell' at a new block, '.trans'). Open each 'IsRow' by 'rcases' AHEAD of 'go_enter'; part every test ahead of the walk. -/
theorem walk (a0 : Option Addr) (len0 cap0 : Nat) (z0 : List Int) (a1 : Int) (a2 : Int) (w : World) (w0 : IsRow .u64 w a0 len0 cap0 z0) (w1 : (Lit.int .u16 a1).wf = true) (w2 : (Lit.int .u8 a2).wf = true) :
    Calls Try.prog 5 #[.slice a0 len0 cap0, .int .u16 a1, .int .u8 a2] w fun e w' => e = .returned (.bool true) ∧ Below w.heap.size w w' := by
  obtain ⟨hr, hcap, hwf⟩ := rd_row w0
  have b1 := wf_u16 w1
  have b2 := wf_u8 w2
  obtain ⟨m1, rfl⟩ := Int.eq_ofNat_of_zero_le b1.1
  obtain ⟨m2, rfl⟩ := Int.eq_ofNat_of_zero_le b2.1
  exact law_SumTurned _ _ _ _ _ _ _ hr (row_none w0) (inR_u64 hwf) (by omega) (by omega)

/-! ### THE ROW's STEP: WRITTEN OUT: LEAVE IT -/
set_option maxRecDepth 100000 in
theorem lifted (os : Os) (started : os.Started) (H : Type) (enc : TypeId × Value → H) :
    ReturnsInHanded {} Try.checked os 5 .any (Rows.sumTurnedSpec.pre6 enc Try.prog Try.f5 Rows.sumTurnedRow.domain false) (Rows.sumTurnedSpec.post enc Try.prog Try.f5 false true false false) := by
  refine returnsInHanded_of_change (C := Try.checked) own started (by kernel_rfl) Try.func5
    (ChangeSpec.witness6 (enc := enc) (C := Try.checked) false ⟨#[], #[.slice none 0 0, .int .u16 0, .int .u8 0], []⟩ 8 (by kernel_rfl) (by kernel_rfl) (by kernel_rfl) (by kernel_rfl)) ?_
  intro W base args ds gs before hval0 hW hcnd _
  have hval : ∀ (j : Nat) t v, Try.f5.params[j]? = some t → args[j]? = some v → Value.okWide Try.prog W .any base t v := hval0
  have hW' := hW
  obtain ⟨p, q, hA0, hV, rfl, hfz, hnd⟩ := hW
  have hA : DataW.TrodAll enc Try.prog W 0 (fun _ => true) true Try.f5.params.toList args.toList ds p := hA0
  rw [Try.params5] at hA hval
  obtain ⟨v0, vs0, d0, ds0, p0, q0, hargs, rfl, rfl, h0, r0⟩ := trodAll_cons hA
  obtain ⟨v1, vs1, d1, ds1, p1, q1, rfl, rfl, rfl, h1, r1⟩ := trodAll_cons r0
  obtain ⟨v2, vs2, d2, ds2, p2, q2, rfl, rfl, rfl, h2, r2⟩ := trodAll_cons r1
  obtain ⟨rfl, rfl, rfl⟩ := trodAll_nil r2
  obtain rfl : args = #[v0, v1, v2] := by cases args; simp_all
  obtain ⟨rfl, rfl⟩ := trodVars_none hV
  obtain ⟨a0, len0, cap0, rfl⟩ := okWide_slice Try.underlying27 (hval 0 27 v0 rfl rfl)
  have k0 := h0
  have lt0 : ∀ x ∈ p0, x.block < W.heap.size := by obtain ⟨m, hm⟩ := k0; exact DataW.trod_lt m _ _ _ hm
  obtain ⟨z0, w0⟩ : ∃ zs, IsRow .u64 W a0 len0 cap0 zs := by
    obtain ⟨fuel, hf⟩ := h0
    rcases open_ints Try.underlying27 Try.underlying28 (by kernel_rfl) hf with ⟨hcs, _⟩ | ⟨x, l, c, zs, hcs, _, hl, hm, hz, _, hcell, hwz⟩
    · simp [Value.cells] at hcs
      obtain ⟨rfl, rfl, rfl⟩ := hcs
      exact ⟨[], .inl ⟨rfl, rfl, rfl, rfl⟩⟩
    · simp [Value.cells] at hcs
      obtain ⟨rfl, rfl, rfl⟩ := hcs
      exact ⟨zs, .inr ⟨_, rfl, hl, hm, by simpa using hz, hcell, hwz⟩⟩
  obtain ⟨a1, rfl, rfl, rfl, w1⟩ := open_int Try.underlying35 (hval 1 35 v1 rfl rfl) h1
  obtain ⟨a2, rfl, rfl, rfl, w2⟩ := open_int Try.underlying5 (hval 2 5 v2 rfl rfl) h2
  clear hA0 hval0
  refine (walk a0 len0 cap0 z0 a1 a2 W w0 w1 w2).mono fun e W' ⟨he, bel⟩ => ?_
  subst he
  exact ⟨_, rfl, _, _, _, [], _, [], hW', trodAll_mk1 (shut_bool Try.underlying4 _), (trodAll_cons_mk (Below.trod laidOut (by kernel_rfl) (of_decide_eq_true (by kernel_rfl)) k0 bel lt0) (trodAll_cons_mk (shut_int Try.underlying35 w1) (trodAll_cons_mk (shut_int Try.underlying5 w2) trodAll_mk0))), rfl, bel.frame _, fun h => by cases h⟩

set_option maxRecDepth 100000
theorem k1 : Rows.sumTurnedRow.wf (OpenSpec.ofChange Rows.sumTurnedSpec) = true := by kernel_rfl
theorem k4 : Try.f5.params.all (Try.prog.readableRec ·) = true := by kernel_rfl
theorem k5 : namedTie Try.prog Rows.sumTurnedRow.named Rows.sumTurnedSpec.vars = true := by kernel_rfl
theorem k6 : (Rows.sumTurnedRow.stops == []) = true := by kernel_rfl
theorem k8 : (Rows.sumTurnedRow.knobs == []) = true := by kernel_rfl
theorem k10 : (Rows.sumTurnedRow.inPlace == Try.prog.inPlace 5) = true := by kernel_rfl
theorem k11 : (Rows.sumTurnedRow.unfollowed == Try.prog.unfollowed 5) = true := by kernel_rfl
theorem k12 : (Rows.sumTurnedRow.recurses == Try.prog.recurses 5) = true := by kernel_rfl
theorem k13 : (Rows.sumTurnedRow.named == Try.prog.varsNamed 5) = true := by kernel_rfl
theorem k14 : (Rows.sumTurnedRow.maps == (Try.f5.params.toList ++ Rows.sumTurnedSpec.plain.varTypes Try.prog).any (Try.prog.mapsRec ·)) = true := by kernel_rfl
theorem k15 : (Rows.sumTurnedRow.ifaces == (Try.f5.params.toList ++ Rows.sumTurnedSpec.plain.varTypes Try.prog).any (Try.prog.ifacesRec ·)) = true := by kernel_rfl
theorem k16 : (Rows.sumTurnedRow.mapsOut == Try.prog.mapsAmong Try.f5.resultTypes.toList) = true := by kernel_rfl
theorem k17 : (Rows.sumTurnedRow.loops == (Try.f5.params.toList ++ Rows.sumTurnedSpec.plain.varTypes Try.prog).any (Try.prog.loopsFrom ·)) = true := by kernel_rfl
theorem k18 : (Rows.sumTurnedRow.wideKeys == (Try.f5.params.toList ++ Rows.sumTurnedSpec.plain.varTypes Try.prog ++ Try.f5.resultTypes.toList).any (Try.prog.wideKeysFrom ·)) = true := by kernel_rfl
theorem k19 : Rows.sumTurnedSpec.vars.all (Try.prog.varReadable ·) = true := by kernel_rfl
theorem k20 : Try.f5.resultTypes.all (fun t => Try.prog.readableRec t && decide (t < Try.prog.types.size)) = true := by kernel_rfl
theorem k21 : (Rows.sumTurnedRow.ifacesOut == Try.f5.resultTypes.toList.any (Try.prog.ifacesRec ·)) = true := by kernel_rfl
theorem k22 : (Rows.sumTurnedRow.loopsOut == Try.f5.resultTypes.toList.any (Try.prog.loopsFrom ·)) = true := by kernel_rfl
theorem k23p : Rows.sumTurnedRow.plainKeys = true := by kernel_rfl
theorem k24 : Rows.sumTurnedRow.shortTexts.isNone = true := by kernel_rfl
theorem k27p : Rows.sumTurnedRow.lifted = false := by kernel_rfl
theorem k28p : (some Make.cut == some Rows.sumTurnedRow.make) = true := by kernel_rfl
theorem k29 : (Rows.sumTurnedRow.kinds == (if Rows.sumTurnedRow.domain.isEmpty then [] else Try.f5.params.toList.map fun t => match Try.prog.underlying t with | some (.int k) => some k | _ => none)) = true := by kernel_rfl
theorem k30 : (Rows.sumTurnedRow.pinned == Rows.sumTurnedRow.pinnedBy) = true := by kernel_rfl
theorem k31 : (Rows.sumTurnedRow.veiled == (Try.f5.params.toList ++ Rows.sumTurnedSpec.plain.varTypes Try.prog ++ Try.f5.resultTypes.toList).any (Try.prog.veiledRec ·)) = true := by kernel_rfl
theorem k32 : Rows.sumTurnedRow.veiledFits Try.prog Try.f5.params.toList (Try.f5.params.toList ++ Rows.sumTurnedSpec.plain.varTypes Try.prog ++ Try.f5.resultTypes.toList) = true := by kernel_rfl
theorem hname : Try.prog.funcNamed Rows.sumTurnedRow.func = some 5 := by kernel_rfl
theorem hwrap : Try.f5.isWrapper Try.prog Rows.sumTurnedRow.wrapper Rows.sumTurnedRow.mainSum := by unfold Func.isWrapper; rw [if_neg (of_decide_eq_false (by kernel_rfl))]; exact ⟨rfl, rfl⟩
theorem k23 : (Rows.sumTurnedRow.plainKeys == Try.prog.plainKeys) = true := by rw [k23p]; exact fact_plainKeys
theorem k27 : (Rows.sumTurnedRow.lifted == Try.prog.liftsFinal) = true := by rw [k27p, fact_liftsFinal]; rfl
theorem k28 : (Try.prog.make == some Rows.sumTurnedRow.make) = true := by rw [fact_make]; exact k28p
theorem hinst : Try.f5.isInstance Try.prog Rows.sumTurnedRow.origin Rows.sumTurnedRow.targs := of_decide_eq_true (by kernel_rfl)
theorem closed : joinedFacts Try.prog 5 Try.f5 Rows.sumTurnedSpec Rows.sumTurnedRow = true :=
  joined_of (P := Try.prog) (f := 5) (fn := Try.f5) (s := Rows.sumTurnedSpec) (c := Rows.sumTurnedRow) k1 fact_laidOut fact_mapsRowed k4 k5 k6 fact_stops k8 fact_stopKnobs k10 k11 k12 k13 k14 k15 k16 k17 k18 k19 k20 k21 k22 k23 k24 fact_stopsHeard fact_mayEnter k27 k28 k29 k30 k31 k32

theorem over : Rows.sumTurnedRow.holds Try.pinned (OpenSpec.ofChange Rows.sumTurnedSpec) :=
  OpenClaim.holds_of_wide 5 Try.f5 rfl rfl rfl rfl rfl rfl rfl ⟨rfl, rfl, rfl, rfl, rfl⟩ rfl rfl rfl rfl rfl hname Try.func5 closed hinst hwrap
    (fun os started H enc _ => lifted os started H enc)

/-- ████ THE STATEMENT ████ -/
theorem proved : Rows.SumTurnedSaid := over
#print axioms proved
end Go.Proofs.Ytpmbjlmplfejgaa.sumTurned
