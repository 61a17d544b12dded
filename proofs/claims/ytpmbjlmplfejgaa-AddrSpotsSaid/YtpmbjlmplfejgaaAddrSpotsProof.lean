/-
  Whether any span is whole, where any block begins, and which begins at any address, is as the reference has it: AddrSpots is always true; no conditions.
-/
import Derived.Test.YtpmbjlmplfejgaaRows
import Derived.Test.YtpmbjlmplfejgaaFacts
import Derived.Test.YtpmbjlmplfejgaaAddrLl
import Derived.WalkKit
import Derived.ProofKit
import Derived.OpenShut
import Derived.ShutString
import Derived.ChangeOld
import Derived.Below
import Derived.Lib.SmallJoins
import Derived.Deep.Slices
namespace Go.Proofs.Ytpmbjlmplfejgaa.addrSpots
open Go.ChangeShapes Go.WideShapes Go.ChangeAt Go.RowKit Go.Joins Go.Deep
open Go.ChangeMaps (open_string shut_string)
set_option linter.unusedVariables false

theorem own : ownKnob Try.prog.godebug = none := fact_own
theorem laidOut : laidOutB Try.prog = true := fact_laidOut

set_option maxRecDepth 100000 in
theorem lifted (os : Os) (started : os.Started) (H : Type) (enc : TypeId × Value → H) :
    ReturnsInHanded {} Try.checked os 15 .any (Rows.addrSpotsSpec.pre6 enc Try.prog Try.f15 Rows.addrSpotsRow.domain false) (Rows.addrSpotsSpec.post enc Try.prog Try.f15 false true false false) := by
  refine returnsInHanded_of_change (C := Try.checked) own started (by kernel_rfl) Try.func15
    (ChangeSpec.witness6 (enc := enc) (C := Try.checked) false ⟨#[], #[.agg #[.int .i64 0, .int .i64 0, .int .i64 0], .slice none 0 0, .int .i64 0, .int .i64 0, .int .i64 0], []⟩ 8 (by kernel_rfl) (by kernel_rfl) (by kernel_rfl) (by kernel_rfl)) ?_
  intro W base args ds gs before hval0 hW hcnd _
  have hval : ∀ (j : Nat) t v, Try.f15.params[j]? = some t → args[j]? = some v → Value.okWide Try.prog W .any base t v := hval0
  have hW' := hW
  obtain ⟨p, q, hA0, hV, rfl, hfz, hnd⟩ := hW
  have hA : DataW.TrodAll enc Try.prog W 0 (fun _ => true) true Try.f15.params.toList args.toList ds p := hA0
  rw [Try.params15] at hA hval
  obtain ⟨v0, vs0, d0, ds0, p0, q0, hargs, rfl, rfl, h0, r0⟩ := trodAll_cons hA
  obtain ⟨v1, vs1, d1, ds1, p1, q1, rfl, rfl, rfl, h1, r1⟩ := trodAll_cons r0
  obtain ⟨v2, vs2, d2, ds2, p2, q2, rfl, rfl, rfl, h2, r2⟩ := trodAll_cons r1
  obtain ⟨v3, vs3, d3, ds3, p3, q3, rfl, rfl, rfl, h3, r3⟩ := trodAll_cons r2
  obtain ⟨v4, vs4, d4, ds4, p4, q4, rfl, rfl, rfl, h4, r4⟩ := trodAll_cons r3
  obtain ⟨rfl, rfl, rfl⟩ := trodAll_nil r4
  obtain rfl : args = #[v0, v1, v2, v3, v4] := by cases args; simp_all
  obtain ⟨rfl, rfl⟩ := trodVars_none hV
  have k0 := h0
  have lt0 : ∀ x ∈ p0, x.block < W.heap.size := by obtain ⟨m, hm⟩ := k0; exact DataW.trod_lt m _ _ _ hm
  obtain ⟨c0_0, c0_1, c0_2, y0_0, y0_1, y0_2, m0, rfl, e0, e0', hy0_0, hy0_1, hy0_2⟩ := open_agg3 Try.underlying38 (by kernel_rfl) (by kernel_rfl) (hval 0 38 v0 rfl rfl) h0
  obtain ⟨s0_0, g0_0, _, w0_0⟩ := DataW.trod_int (k := .i64) (by kernel_rfl) hy0_0
  simp only [List.cons.injEq, and_true] at g0_0
  subst g0_0
  obtain ⟨s0_1, g0_1, _, w0_1⟩ := DataW.trod_int (k := .i64) (by kernel_rfl) hy0_1
  simp only [List.cons.injEq, and_true] at g0_1
  subst g0_1
  obtain ⟨s0_2, g0_2, _, w0_2⟩ := DataW.trod_int (k := .i64) (by kernel_rfl) hy0_2
  simp only [List.cons.injEq, and_true] at g0_2
  subst g0_2
  have k1 := h1
  have lt1 : ∀ x ∈ p1, x.block < W.heap.size := by obtain ⟨m, hm⟩ := k1; exact DataW.trod_lt m _ _ _ hm
  obtain ⟨A1, len1, cap1, rfl⟩ := okWide_slice Try.underlying74 (hval 1 74 v1 rfl rfl)
  obtain ⟨hs1, row1⟩ : ∃ hs, IsHeads W A1 len1 cap1 hs := by
    obtain ⟨fuel, hf⟩ := h1
    obtain ⟨A, len, cap, hs, hcs, hr⟩ := open_heads hf
    simp [Value.cells] at hcs
    obtain ⟨rfl, rfl, rfl⟩ := hcs
    exact ⟨hs, hr⟩
  obtain ⟨a2, rfl, rfl, rfl, w2⟩ := open_int Try.underlying3 (hval 2 3 v2 rfl rfl) h2
  obtain ⟨a3, rfl, rfl, rfl, w3⟩ := open_int Try.underlying3 (hval 3 3 v3 rfl rfl) h3
  obtain ⟨a4, rfl, rfl, rfl, w4⟩ := open_int Try.underlying3 (hval 4 3 v4 rfl rfl) h4
  clear hA0 hval0
  refine (law_AddrSpots' row1 w2).mono fun e W' ⟨he, bel⟩ => ?_
  subst he
  exact ⟨_, rfl, _, _, _, [], _, [], hW', trodAll_mk1 (shut_bool Try.underlying4 _), (trodAll_cons_mk (Below.trod laidOut (by kernel_rfl) (of_decide_eq_true (by kernel_rfl)) k0 bel lt0) (trodAll_cons_mk (Below.trod laidOut (by kernel_rfl) (of_decide_eq_true (by kernel_rfl)) k1 bel lt1) (trodAll_cons_mk (shut_int Try.underlying3 w2) (trodAll_cons_mk (shut_int Try.underlying3 w3) (trodAll_cons_mk (shut_int Try.underlying3 w4) trodAll_mk0))))), rfl, bel.frame _, fun h => by cases h⟩

set_option maxRecDepth 100000
theorem k1 : Rows.addrSpotsRow.wf (OpenSpec.ofChange Rows.addrSpotsSpec) = true := by kernel_rfl
theorem k4 : Try.f15.params.all (Try.prog.readableRec ·) = true := by kernel_rfl
theorem k5 : namedTie Try.prog Rows.addrSpotsRow.named Rows.addrSpotsSpec.vars = true := by kernel_rfl
theorem k6 : (Rows.addrSpotsRow.stops == []) = true := by kernel_rfl
theorem k8 : (Rows.addrSpotsRow.knobs == []) = true := by kernel_rfl
theorem k10 : (Rows.addrSpotsRow.inPlace == Try.prog.inPlace 15) = true := by kernel_rfl
theorem k11 : (Rows.addrSpotsRow.unfollowed == Try.prog.unfollowed 15) = true := by kernel_rfl
theorem k12 : (Rows.addrSpotsRow.recurses == Try.prog.recurses 15) = true := by kernel_rfl
theorem k13 : (Rows.addrSpotsRow.named == Try.prog.varsNamed 15) = true := by kernel_rfl
theorem k14 : (Rows.addrSpotsRow.maps == (Try.f15.params.toList ++ Rows.addrSpotsSpec.plain.varTypes Try.prog).any (Try.prog.mapsRec ·)) = true := by kernel_rfl
theorem k15 : (Rows.addrSpotsRow.ifaces == (Try.f15.params.toList ++ Rows.addrSpotsSpec.plain.varTypes Try.prog).any (Try.prog.ifacesRec ·)) = true := by kernel_rfl
theorem k16 : (Rows.addrSpotsRow.mapsOut == Try.prog.mapsAmong Try.f15.resultTypes.toList) = true := by kernel_rfl
theorem k17 : (Rows.addrSpotsRow.loops == (Try.f15.params.toList ++ Rows.addrSpotsSpec.plain.varTypes Try.prog).any (Try.prog.loopsFrom ·)) = true := by kernel_rfl
theorem k18 : (Rows.addrSpotsRow.wideKeys == (Try.f15.params.toList ++ Rows.addrSpotsSpec.plain.varTypes Try.prog ++ Try.f15.resultTypes.toList).any (Try.prog.wideKeysFrom ·)) = true := by kernel_rfl
theorem k19 : Rows.addrSpotsSpec.vars.all (Try.prog.varReadable ·) = true := by kernel_rfl
theorem k20 : Try.f15.resultTypes.all (fun t => Try.prog.readableRec t && decide (t < Try.prog.types.size)) = true := by kernel_rfl
theorem k21 : (Rows.addrSpotsRow.ifacesOut == Try.f15.resultTypes.toList.any (Try.prog.ifacesRec ·)) = true := by kernel_rfl
theorem k22 : (Rows.addrSpotsRow.loopsOut == Try.f15.resultTypes.toList.any (Try.prog.loopsFrom ·)) = true := by kernel_rfl
theorem k23p : Rows.addrSpotsRow.plainKeys = true := by kernel_rfl
theorem k24 : Rows.addrSpotsRow.shortTexts.isNone = true := by kernel_rfl
theorem k27p : Rows.addrSpotsRow.lifted = false := by kernel_rfl
theorem k28p : (some Make.cut == some Rows.addrSpotsRow.make) = true := by kernel_rfl
theorem k29 : (Rows.addrSpotsRow.kinds == (if Rows.addrSpotsRow.domain.isEmpty then [] else Try.f15.params.toList.map fun t => match Try.prog.underlying t with | some (.int k) => some k | _ => none)) = true := by kernel_rfl
theorem k30 : (Rows.addrSpotsRow.pinned == Rows.addrSpotsRow.pinnedBy) = true := by kernel_rfl
theorem k31 : (Rows.addrSpotsRow.veiled == (Try.f15.params.toList ++ Rows.addrSpotsSpec.plain.varTypes Try.prog ++ Try.f15.resultTypes.toList).any (Try.prog.veiledRec ·)) = true := by kernel_rfl
theorem k32 : Rows.addrSpotsRow.veiledFits Try.prog Try.f15.params.toList (Try.f15.params.toList ++ Rows.addrSpotsSpec.plain.varTypes Try.prog ++ Try.f15.resultTypes.toList) = true := by kernel_rfl
theorem hname : Try.prog.funcNamed Rows.addrSpotsRow.func = some 15 := by kernel_rfl
theorem hwrap : Try.f15.isWrapper Try.prog Rows.addrSpotsRow.wrapper Rows.addrSpotsRow.mainSum := by unfold Func.isWrapper; rw [if_neg (of_decide_eq_false (by kernel_rfl))]; exact ⟨rfl, rfl⟩
theorem k23 : (Rows.addrSpotsRow.plainKeys == Try.prog.plainKeys) = true := by rw [k23p]; exact fact_plainKeys
theorem k27 : (Rows.addrSpotsRow.lifted == Try.prog.liftsFinal) = true := by rw [k27p, fact_liftsFinal]; rfl
theorem k28 : (Try.prog.make == some Rows.addrSpotsRow.make) = true := by rw [fact_make]; exact k28p
theorem hinst : Try.f15.isInstance Try.prog Rows.addrSpotsRow.origin Rows.addrSpotsRow.targs := of_decide_eq_true (by kernel_rfl)
theorem closed : joinedFacts Try.prog 15 Try.f15 Rows.addrSpotsSpec Rows.addrSpotsRow = true :=
  joined_of (P := Try.prog) (f := 15) (fn := Try.f15) (s := Rows.addrSpotsSpec) (c := Rows.addrSpotsRow) k1 fact_laidOut fact_mapsRowed k4 k5 k6 fact_stops k8 fact_stopKnobs k10 k11 k12 k13 k14 k15 k16 k17 k18 k19 k20 k21 k22 k23 k24 fact_stopsHeard fact_mayEnter k27 k28 k29 k30 k31 k32

theorem over : Rows.addrSpotsRow.holds Try.pinned (OpenSpec.ofChange Rows.addrSpotsSpec) :=
  OpenClaim.holds_of_wide 15 Try.f15 rfl rfl rfl rfl rfl rfl rfl ⟨rfl, rfl, rfl, rfl, rfl⟩ rfl rfl rfl rfl rfl hname Try.func15 closed hinst hwrap
    (fun os started H enc _ => lifted os started H enc)

/-- The statement. -/
theorem proved : Rows.AddrSpotsSaid := over
#print axioms proved
end Go.Proofs.Ytpmbjlmplfejgaa.addrSpots
