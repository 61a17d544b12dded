/-
  A fresh image of any geometry is read as its, has free heads, no bits, no logs, and replayed is itself: ImageFresh is always true; no conditions.
-/
import Derived.Test.YtpmbjlmplfejgaaRows
import Derived.Test.YtpmbjlmplfejgaaFacts
import Derived.Test.YtpmbjlmplfejgaaImaM
import Derived.WalkKit
import Derived.ProofKit
import Derived.OpenShut
import Derived.ShutString
import Derived.ChangeOld
import Derived.Below
import Derived.Lib.SmallJoins
import Derived.Deep.Slices
namespace Go.Proofs.Ytpmbjlmplfejgaa.imageFresh
open Go.ChangeShapes Go.WideShapes Go.ChangeAt Go.RowKit Go.Joins Go.Deep
open Go.ChangeMaps (open_string shut_string)
set_option linter.unusedVariables false

theorem own : ownKnob Try.prog.godebug = none := fact_own
theorem laidOut : laidOutB Try.prog = true := fact_laidOut

set_option maxRecDepth 100000 in
theorem lifted (os : Os) (started : os.Started) (H : Type) (enc : TypeId × Value → H) :
    ReturnsInHanded {} Try.checked os 19 .any (Rows.imageFreshSpec.pre6 enc Try.prog Try.f19 Rows.imageFreshRow.domain false) (Rows.imageFreshSpec.post enc Try.prog Try.f19 false true false false) := by
  refine returnsInHanded_of_change (C := Try.checked) own started (by kernel_rfl) Try.func19
    (ChangeSpec.witness6 (enc := enc) (C := Try.checked) false ⟨#[], #[.agg #[.int .i64 0, .int .i64 0, .int .i64 0]], []⟩ 8 (by kernel_rfl) (by kernel_rfl) (by kernel_rfl) (by kernel_rfl)) ?_
  intro W base args ds gs before hval0 hW hcnd _
  have hval : ∀ (j : Nat) t v, Try.f19.params[j]? = some t → args[j]? = some v → Value.okWide Try.prog W .any base t v := hval0
  have hW' := hW
  obtain ⟨p, q, hA0, hV, rfl, hfz, hnd⟩ := hW
  have hA : DataW.TrodAll enc Try.prog W 0 (fun _ => true) true Try.f19.params.toList args.toList ds p := hA0
  rw [Try.params19] at hA hval
  obtain ⟨v0, vs0, d0, ds0, p0, q0, hargs, rfl, rfl, h0, r0⟩ := trodAll_cons hA
  obtain ⟨rfl, rfl, rfl⟩ := trodAll_nil r0
  obtain rfl : args = #[v0] := by cases args; simp_all
  obtain ⟨rfl, rfl⟩ := trodVars_none hV
  have k0 := h0
  have lt0 : ∀ x ∈ p0, x.block < W.heap.size := by obtain ⟨m, hm⟩ := k0; exact DataW.trod_lt m _ _ _ hm
  obtain ⟨c0_0, c0_1, c0_2, y0_0, y0_1, y0_2, m0, rfl, e0, e0', hy0_0, hy0_1, hy0_2⟩ := open_agg3 Try.underlying38 (by kernel_rfl) (by kernel_rfl) (hval 0 38 v0 rfl rfl) h0
  obtain ⟨s0_0, g0_0, _, w0_0⟩ := DataW.trod_int (k := .i64) (by kernel_rfl) hy0_0
  simp only [List.cons.injEq, and_true] at g0_0
  subst g0_0
  obtain ⟨s0_1, g0_1, _, w0_1⟩ := DataW.trod_int (k := .i64) (by kernel_rfl) hy0_1
  simp only [List.cons.injEq, and_true] at g0_1
  subst g0_1
  obtain ⟨s0_2, g0_2, _, w0_2⟩ := DataW.trod_int (k := .i64) (by kernel_rfl) hy0_2
  simp only [List.cons.injEq, and_true] at g0_2
  subst g0_2
  clear hA0 hval0
  refine (law_ImageFresh s0_0 s0_1 s0_2 W).mono fun e W' ⟨he, bel⟩ => ?_
  subst he
  exact ⟨_, rfl, _, _, _, [], _, [], hW', trodAll_mk1 (shut_bool Try.underlying4 _), (trodAll_cons_mk (Below.trod laidOut (by kernel_rfl) (of_decide_eq_true (by kernel_rfl)) k0 bel lt0) trodAll_mk0), rfl, bel.frame _, fun h => by cases h⟩

set_option maxRecDepth 100000
theorem k1 : Rows.imageFreshRow.wf (OpenSpec.ofChange Rows.imageFreshSpec) = true := by kernel_rfl
theorem k4 : Try.f19.params.all (Try.prog.readableRec ·) = true := by kernel_rfl
theorem k5 : namedTie Try.prog Rows.imageFreshRow.named Rows.imageFreshSpec.vars = true := by kernel_rfl
theorem k6 : (Rows.imageFreshRow.stops == []) = true := by kernel_rfl
theorem k8 : (Rows.imageFreshRow.knobs == []) = true := by kernel_rfl
theorem k10 : (Rows.imageFreshRow.inPlace == Try.prog.inPlace 19) = true := by kernel_rfl
theorem k11 : (Rows.imageFreshRow.unfollowed == Try.prog.unfollowed 19) = true := by kernel_rfl
theorem k12 : (Rows.imageFreshRow.recurses == Try.prog.recurses 19) = true := by kernel_rfl
theorem k13 : (Rows.imageFreshRow.named == Try.prog.varsNamed 19) = true := by kernel_rfl
theorem k14 : (Rows.imageFreshRow.maps == (Try.f19.params.toList ++ Rows.imageFreshSpec.plain.varTypes Try.prog).any (Try.prog.mapsRec ·)) = true := by kernel_rfl
theorem k15 : (Rows.imageFreshRow.ifaces == (Try.f19.params.toList ++ Rows.imageFreshSpec.plain.varTypes Try.prog).any (Try.prog.ifacesRec ·)) = true := by kernel_rfl
theorem k16 : (Rows.imageFreshRow.mapsOut == Try.prog.mapsAmong Try.f19.resultTypes.toList) = true := by kernel_rfl
theorem k17 : (Rows.imageFreshRow.loops == (Try.f19.params.toList ++ Rows.imageFreshSpec.plain.varTypes Try.prog).any (Try.prog.loopsFrom ·)) = true := by kernel_rfl
theorem k18 : (Rows.imageFreshRow.wideKeys == (Try.f19.params.toList ++ Rows.imageFreshSpec.plain.varTypes Try.prog ++ Try.f19.resultTypes.toList).any (Try.prog.wideKeysFrom ·)) = true := by kernel_rfl
theorem k19 : Rows.imageFreshSpec.vars.all (Try.prog.varReadable ·) = true := by kernel_rfl
theorem k20 : Try.f19.resultTypes.all (fun t => Try.prog.readableRec t && decide (t < Try.prog.types.size)) = true := by kernel_rfl
theorem k21 : (Rows.imageFreshRow.ifacesOut == Try.f19.resultTypes.toList.any (Try.prog.ifacesRec ·)) = true := by kernel_rfl
theorem k22 : (Rows.imageFreshRow.loopsOut == Try.f19.resultTypes.toList.any (Try.prog.loopsFrom ·)) = true := by kernel_rfl
theorem k23p : Rows.imageFreshRow.plainKeys = true := by kernel_rfl
theorem k24 : Rows.imageFreshRow.shortTexts.isNone = true := by kernel_rfl
theorem k27p : Rows.imageFreshRow.lifted = false := by kernel_rfl
theorem k28p : (some Make.cut == some Rows.imageFreshRow.make) = true := by kernel_rfl
theorem k29 : (Rows.imageFreshRow.kinds == (if Rows.imageFreshRow.domain.isEmpty then [] else Try.f19.params.toList.map fun t => match Try.prog.underlying t with | some (.int k) => some k | _ => none)) = true := by kernel_rfl
theorem k30 : (Rows.imageFreshRow.pinned == Rows.imageFreshRow.pinnedBy) = true := by kernel_rfl
theorem k31 : (Rows.imageFreshRow.veiled == (Try.f19.params.toList ++ Rows.imageFreshSpec.plain.varTypes Try.prog ++ Try.f19.resultTypes.toList).any (Try.prog.veiledRec ·)) = true := by kernel_rfl
theorem k32 : Rows.imageFreshRow.veiledFits Try.prog Try.f19.params.toList (Try.f19.params.toList ++ Rows.imageFreshSpec.plain.varTypes Try.prog ++ Try.f19.resultTypes.toList) = true := by kernel_rfl
theorem hname : Try.prog.funcNamed Rows.imageFreshRow.func = some 19 := by kernel_rfl
theorem hwrap : Try.f19.isWrapper Try.prog Rows.imageFreshRow.wrapper Rows.imageFreshRow.mainSum := by unfold Func.isWrapper; rw [if_neg (of_decide_eq_false (by kernel_rfl))]; exact ⟨rfl, rfl⟩
theorem k23 : (Rows.imageFreshRow.plainKeys == Try.prog.plainKeys) = true := by rw [k23p]; exact fact_plainKeys
theorem k27 : (Rows.imageFreshRow.lifted == Try.prog.liftsFinal) = true := by rw [k27p, fact_liftsFinal]; rfl
theorem k28 : (Try.prog.make == some Rows.imageFreshRow.make) = true := by rw [fact_make]; exact k28p
theorem hinst : Try.f19.isInstance Try.prog Rows.imageFreshRow.origin Rows.imageFreshRow.targs := of_decide_eq_true (by kernel_rfl)
theorem closed : joinedFacts Try.prog 19 Try.f19 Rows.imageFreshSpec Rows.imageFreshRow = true :=
  joined_of (P := Try.prog) (f := 19) (fn := Try.f19) (s := Rows.imageFreshSpec) (c := Rows.imageFreshRow) k1 fact_laidOut fact_mapsRowed k4 k5 k6 fact_stops k8 fact_stopKnobs k10 k11 k12 k13 k14 k15 k16 k17 k18 k19 k20 k21 k22 k23 k24 fact_stopsHeard fact_mayEnter k27 k28 k29 k30 k31 k32

theorem over : Rows.imageFreshRow.holds Try.pinned (OpenSpec.ofChange Rows.imageFreshSpec) :=
  OpenClaim.holds_of_wide 19 Try.f19 rfl rfl rfl rfl rfl rfl rfl ⟨rfl, rfl, rfl, rfl, rfl⟩ rfl rfl rfl rfl rfl hname Try.func19 closed hinst hwrap
    (fun os started H enc _ => lifted os started H enc)

/-- The statement. -/
theorem proved : Rows.ImageFreshSaid := over
#print axioms proved
end Go.Proofs.Ytpmbjlmplfejgaa.imageFresh
