/-
  What a log may write is never the superblock's, a lane's, or a root's that there isn't: ImageApart is always true; no conditions.
-/
import Derived.Test.YtpmbjlmplfejgaaRows
import Derived.Test.YtpmbjlmplfejgaaFacts
import Derived.Test.YtpmbjlmplfejgaaImaH
import Derived.WalkKit
import Derived.ProofKit
import Derived.OpenShut
import Derived.ShutString
import Derived.ChangeOld
import Derived.Below
import Derived.Lib.SmallJoins
import Derived.Deep.Slices
namespace Go.Proofs.Ytpmbjlmplfejgaa.imageApart
open Go.ChangeShapes Go.WideShapes Go.ChangeAt Go.RowKit Go.Joins Go.Deep
open Go.ChangeMaps (open_string shut_string)
set_option linter.unusedVariables false

theorem own : ownKnob Try.prog.godebug = none := fact_own
theorem laidOut : laidOutB Try.prog = true := fact_laidOut

set_option maxRecDepth 100000 in
theorem lifted (os : Os) (started : os.Started) (H : Type) (enc : TypeId × Value → H) :
    ReturnsInHanded {} Try.checked os 18 .any (Rows.imageApartSpec.pre6 enc Try.prog Try.f18 Rows.imageApartRow.domain false) (Rows.imageApartSpec.post enc Try.prog Try.f18 false true false false) := by
  refine returnsInHanded_of_change (C := Try.checked) own started (by kernel_rfl) Try.func18
    (ChangeSpec.witness6 (enc := enc) (C := Try.checked) false ⟨#[], #[.agg #[.int .i64 0, .int .i64 0, .int .i64 0], .int .i64 0], []⟩ 8 (by kernel_rfl) (by kernel_rfl) (by kernel_rfl) (by kernel_rfl)) ?_
  intro W base args ds gs before hval0 hW hcnd _
  have hval : ∀ (j : Nat) t v, Try.f18.params[j]? = some t → args[j]? = some v → Value.okWide Try.prog W .any base t v := hval0
  have hW' := hW
  obtain ⟨p, q, hA0, hV, rfl, hfz, hnd⟩ := hW
  have hA : DataW.TrodAll enc Try.prog W 0 (fun _ => true) true Try.f18.params.toList args.toList ds p := hA0
  rw [Try.params18] at hA hval
  obtain ⟨v0, vs0, d0, ds0, p0, q0, hargs, rfl, rfl, h0, r0⟩ := trodAll_cons hA
  obtain ⟨v1, vs1, d1, ds1, p1, q1, rfl, rfl, rfl, h1, r1⟩ := trodAll_cons r0
  obtain ⟨rfl, rfl, rfl⟩ := trodAll_nil r1
  obtain rfl : args = #[v0, v1] := by cases args; simp_all
  obtain ⟨rfl, rfl⟩ := trodVars_none hV
  have k0 := h0
  have lt0 : ∀ x ∈ p0, x.block < W.heap.size := by obtain ⟨m, hm⟩ := k0; exact DataW.trod_lt m _ _ _ hm
  obtain ⟨c0_0, c0_1, c0_2, y0_0, y0_1, y0_2, m0, rfl, e0, e0', hy0_0, hy0_1, hy0_2⟩ := open_agg3 Try.underlying38 (by kernel_rfl) (by kernel_rfl) (hval 0 38 v0 rfl rfl) h0
  obtain ⟨s0_0, g0_0, _, w0_0⟩ := DataW.trod_int (k := .i64) (by kernel_rfl) hy0_0
  simp only [List.cons.injEq, and_true] at g0_0
  subst g0_0
  obtain ⟨s0_1, g0_1, _, w0_1⟩ := DataW.trod_int (k := .i64) (by kernel_rfl) hy0_1
  simp only [List.cons.injEq, and_true] at g0_1
  subst g0_1
  obtain ⟨s0_2, g0_2, _, w0_2⟩ := DataW.trod_int (k := .i64) (by kernel_rfl) hy0_2
  simp only [List.cons.injEq, and_true] at g0_2
  subst g0_2
  obtain ⟨a1, rfl, rfl, rfl, w1⟩ := open_int Try.underlying3 (hval 1 3 v1 rfl rfl) h1
  clear hA0 hval0
  refine (law_ImageApart s0_0 s0_1 s0_2 a1 W (wf_i64 w1).2).mono fun e W' ⟨he, bel⟩ => ?_
  subst he
  exact ⟨_, rfl, _, _, _, [], _, [], hW', trodAll_mk1 (shut_bool Try.underlying4 _), (trodAll_cons_mk (Below.trod laidOut (by kernel_rfl) (of_decide_eq_true (by kernel_rfl)) k0 bel lt0) (trodAll_cons_mk (shut_int Try.underlying3 w1) trodAll_mk0)), rfl, bel.frame _, fun h => by cases h⟩

set_option maxRecDepth 100000
theorem k1 : Rows.imageApartRow.wf (OpenSpec.ofChange Rows.imageApartSpec) = true := by kernel_rfl
theorem k4 : Try.f18.params.all (Try.prog.readableRec ·) = true := by kernel_rfl
theorem k5 : namedTie Try.prog Rows.imageApartRow.named Rows.imageApartSpec.vars = true := by kernel_rfl
theorem k6 : (Rows.imageApartRow.stops == []) = true := by kernel_rfl
theorem k8 : (Rows.imageApartRow.knobs == []) = true := by kernel_rfl
theorem k10 : (Rows.imageApartRow.inPlace == Try.prog.inPlace 18) = true := by kernel_rfl
theorem k11 : (Rows.imageApartRow.unfollowed == Try.prog.unfollowed 18) = true := by kernel_rfl
theorem k12 : (Rows.imageApartRow.recurses == Try.prog.recurses 18) = true := by kernel_rfl
theorem k13 : (Rows.imageApartRow.named == Try.prog.varsNamed 18) = true := by kernel_rfl
theorem k14 : (Rows.imageApartRow.maps == (Try.f18.params.toList ++ Rows.imageApartSpec.plain.varTypes Try.prog).any (Try.prog.mapsRec ·)) = true := by kernel_rfl
theorem k15 : (Rows.imageApartRow.ifaces == (Try.f18.params.toList ++ Rows.imageApartSpec.plain.varTypes Try.prog).any (Try.prog.ifacesRec ·)) = true := by kernel_rfl
theorem k16 : (Rows.imageApartRow.mapsOut == Try.prog.mapsAmong Try.f18.resultTypes.toList) = true := by kernel_rfl
theorem k17 : (Rows.imageApartRow.loops == (Try.f18.params.toList ++ Rows.imageApartSpec.plain.varTypes Try.prog).any (Try.prog.loopsFrom ·)) = true := by kernel_rfl
theorem k18 : (Rows.imageApartRow.wideKeys == (Try.f18.params.toList ++ Rows.imageApartSpec.plain.varTypes Try.prog ++ Try.f18.resultTypes.toList).any (Try.prog.wideKeysFrom ·)) = true := by kernel_rfl
theorem k19 : Rows.imageApartSpec.vars.all (Try.prog.varReadable ·) = true := by kernel_rfl
theorem k20 : Try.f18.resultTypes.all (fun t => Try.prog.readableRec t && decide (t < Try.prog.types.size)) = true := by kernel_rfl
theorem k21 : (Rows.imageApartRow.ifacesOut == Try.f18.resultTypes.toList.any (Try.prog.ifacesRec ·)) = true := by kernel_rfl
theorem k22 : (Rows.imageApartRow.loopsOut == Try.f18.resultTypes.toList.any (Try.prog.loopsFrom ·)) = true := by kernel_rfl
theorem k23p : Rows.imageApartRow.plainKeys = true := by kernel_rfl
theorem k24 : Rows.imageApartRow.shortTexts.isNone = true := by kernel_rfl
theorem k27p : Rows.imageApartRow.lifted = false := by kernel_rfl
theorem k28p : (some Make.cut == some Rows.imageApartRow.make) = true := by kernel_rfl
theorem k29 : (Rows.imageApartRow.kinds == (if Rows.imageApartRow.domain.isEmpty then [] else Try.f18.params.toList.map fun t => match Try.prog.underlying t with | some (.int k) => some k | _ => none)) = true := by kernel_rfl
theorem k30 : (Rows.imageApartRow.pinned == Rows.imageApartRow.pinnedBy) = true := by kernel_rfl
theorem k31 : (Rows.imageApartRow.veiled == (Try.f18.params.toList ++ Rows.imageApartSpec.plain.varTypes Try.prog ++ Try.f18.resultTypes.toList).any (Try.prog.veiledRec ·)) = true := by kernel_rfl
theorem k32 : Rows.imageApartRow.veiledFits Try.prog Try.f18.params.toList (Try.f18.params.toList ++ Rows.imageApartSpec.plain.varTypes Try.prog ++ Try.f18.resultTypes.toList) = true := by kernel_rfl
theorem hname : Try.prog.funcNamed Rows.imageApartRow.func = some 18 := by kernel_rfl
theorem hwrap : Try.f18.isWrapper Try.prog Rows.imageApartRow.wrapper Rows.imageApartRow.mainSum := by unfold Func.isWrapper; rw [if_neg (of_decide_eq_false (by kernel_rfl))]; exact ⟨rfl, rfl⟩
theorem k23 : (Rows.imageApartRow.plainKeys == Try.prog.plainKeys) = true := by rw [k23p]; exact fact_plainKeys
theorem k27 : (Rows.imageApartRow.lifted == Try.prog.liftsFinal) = true := by rw [k27p, fact_liftsFinal]; rfl
theorem k28 : (Try.prog.make == some Rows.imageApartRow.make) = true := by rw [fact_make]; exact k28p
theorem hinst : Try.f18.isInstance Try.prog Rows.imageApartRow.origin Rows.imageApartRow.targs := of_decide_eq_true (by kernel_rfl)
theorem closed : joinedFacts Try.prog 18 Try.f18 Rows.imageApartSpec Rows.imageApartRow = true :=
  joined_of (P := Try.prog) (f := 18) (fn := Try.f18) (s := Rows.imageApartSpec) (c := Rows.imageApartRow) k1 fact_laidOut fact_mapsRowed k4 k5 k6 fact_stops k8 fact_stopKnobs k10 k11 k12 k13 k14 k15 k16 k17 k18 k19 k20 k21 k22 k23 k24 fact_stopsHeard fact_mayEnter k27 k28 k29 k30 k31 k32

theorem over : Rows.imageApartRow.holds Try.pinned (OpenSpec.ofChange Rows.imageApartSpec) :=
  OpenClaim.holds_of_wide 18 Try.f18 rfl rfl rfl rfl rfl rfl rfl ⟨rfl, rfl, rfl, rfl, rfl⟩ rfl rfl rfl rfl rfl hname Try.func18 closed hinst hwrap
    (fun os started H enc _ => lifted os started H enc)

/-- The statement. -/
theorem proved : Rows.ImageApartSaid := over
#print axioms proved
end Go.Proofs.Ytpmbjlmplfejgaa.imageApart
