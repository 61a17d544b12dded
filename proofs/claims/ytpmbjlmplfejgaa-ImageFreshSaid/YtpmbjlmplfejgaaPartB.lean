/- geom.Where and the reference's. -/
import Derived.Test.YtpmbjlmplfejgaaPartA
import Derived.WalkMore
namespace Go.Proofs.Ytpmbjlmplfejgaa
open Go.RowKit
set_option linter.unusedVariables false
set_option linter.unusedSimpArgs false

abbrev plc (p : Int × Int × Int) : Value := .agg #[.int .i64 p.1, .int .i64 p.2.1, .int .i64 p.2.2]
def whereV (s l r a : Int) : Int × Int × Int :=
  if gMay s l r = false ∨ a < 0 then (5, -1, 0)
  else if a < 8 then (0, 0, a)
  else if a < 8 + r then (1, a - 8, 0)
  else if a < 16 then (1, -1, a - 8)
  else if a - 16 < 40 * l then (2, (a - 16) / 40, (a - 16) % 40)
  else if a - 16 - 40 * l < 8 * s then (3, (a - 16 - 40 * l) / 8, (a - 16 - 40 * l) % 8)
  else if a - 16 - 40 * l - 8 * s < 64 * s then (4, (a - 16 - 40 * l - 8 * s) / 64, (a - 16 - 40 * l - 8 * s) % 64)
  else (5, -1, 0)
theorem sq (w : World) (A B C : Obj) : ((w.alloc A).alloc B).heap.size = w.heap.size + 1 + 1 := by simp
theorem sq1 (w : World) (A : Obj) : (w.alloc A).heap.size = w.heap.size + 1 := by simp
set_option maxHeartbeats 2000000 in
set_option maxRecDepth 100000 in
theorem where_neg (s l r a : Int) (w : World) (ha : a < 0) : Calls Try.prog 116 #[geo s l r, .int .i64 a] w fun e w' => e = .returned (plc (whereV s l r a)) ∧ Kp w w' := by
  have HV : Hid (whereV s l r a = (5, -1, 0)) := by unfold Hid whereV; rw [if_pos (.inr ha)]
  go_enter Try.func116, Try.ntmps116
  go_wp2
  go_step3
  go_wp2
  rw [Exit.noGoto_ret]
  have hk : Kp ((w.alloc (.cells #[.int .i64 s, .int .i64 l, .int .i64 r] 38)).alloc (.cells #[.int .i64 5, .int .i64 (-1), .int .i64 0] 97)) (((w.alloc (.cells #[.int .i64 s, .int .i64 l, .int .i64 r] 38)).alloc (.cells #[.int .i64 5, .int .i64 (-1), .int .i64 0] 97)).alloc (.cells #[.int .i64 5, .int .i64 (-1), .int .i64 0] 97)) := Kp.self.alloc _
  obtain ⟨c0, c1, c2⟩ := box3 hk
  rw [sq1] at c0 c1 c2
  exact bodyPost_ret (v := plc (5, -1, 0)) (by simp [results, Try.results116, go_sem, c0, c1, c2]) rfl ⟨by rw [HV.out], ((Kp.self.alloc _).alloc _).alloc _⟩

set_option maxHeartbeats 2000000 in
set_option maxRecDepth 100000 in
theorem where_bad (s l r a : Int) (w : World) (ha : ¬ a < 0) (hg : gMay s l r = false) : Calls Try.prog 116 #[geo s l r, .int .i64 a] w fun e w' => e = .returned (plc (whereV s l r a)) ∧ Kp w w' := by
  have HV : Hid (whereV s l r a = (5, -1, 0)) := by unfold Hid whereV; rw [if_pos (.inl hg)]
  have HM := fun W => Lib.hid (may_any s l r W)
  rw [hg] at HM
  clear hg
  go_enter Try.func116, Try.ntmps116
  go_wp2
  go_step3
  go_wp2_with fail
  refine (HM _).out.mono ?_
  rintro e w1 ⟨rfl, hk⟩
  obtain ⟨d0, d1, d2⟩ := box3 hk
  obtain ⟨c0, c1, c2⟩ := box3 ((Kp.self.alloc _).trans hk)
  obtain ⟨f0, f1, f2⟩ := boxf3 ((Kp.self.alloc _).trans hk)
  rw [sq1] at c0 c1 c2 f0 f1 f2
  rw [sq _ _ _ (.cells #[] 0)] at d0 d1 d2
  have HK : Hid (Kp w w1) := (((Kp.self.alloc _).alloc _).alloc _).trans hk
  clear hk HM
  go_wp2
  rw [Exit.noGoto_ret]
  obtain ⟨k0, k1, k2, hk4⟩ := set3 (.int .i64 5) (.int .i64 (-1)) (.int .i64 0) HK.out (Nat.le_succ _) c0 c1 c2
  generalize ((w1.setCell ⟨w.heap.size + 1, 0, none⟩ (.int .i64 5)).setCell ⟨w.heap.size + 1, 1, none⟩ (.int .i64 (-1))).setCell ⟨w.heap.size + 1, 2, none⟩ (.int .i64 0) = w5 at *
  exact bodyPost_ret (v := plc (5, -1, 0)) (by simp [results, Try.results116, go_sem, k0, k1, k2]) rfl ⟨by rw [HV.out], hk4⟩

set_option maxHeartbeats 2000000 in
set_option maxRecDepth 100000 in
theorem where_super (s l r a : Int) (w : World) (hg : gMay s l r = true) (ha : ¬ a < 0) (h8 : a < 8) : Calls Try.prog 116 #[geo s l r, .int .i64 a] w fun e w' => e = .returned (plc (whereV s l r a)) ∧ Kp w w' := by
  have HV : Hid (whereV s l r a = (0, a / 8, a % 8)) := by
    unfold Hid whereV
    have hm := may_bd hg
    rw [if_neg (by rw [hg]; simp; omega), if_pos h8]
    try (refine Prod.ext ?_ (Prod.ext ?_ ?_) <;> (simp only; try omega))
  have hm := may_bd hg
  have HM := fun W => Lib.hid (may_any s l r W)
  rw [hg] at HM
  clear hg
  go_enter Try.func116, Try.ntmps116
  go_wp2
  go_step3
  go_wp2_with fail
  refine (HM _).out.mono ?_
  rintro e w1 ⟨rfl, hk⟩
  obtain ⟨d0, d1, d2⟩ := box3 hk
  obtain ⟨c0, c1, c2⟩ := box3 ((Kp.self.alloc _).trans hk)
  obtain ⟨f0, f1, f2⟩ := boxf3 ((Kp.self.alloc _).trans hk)
  obtain ⟨g0, g1, g2⟩ := box3 (((Kp.self.alloc _).trans (Kp.self.alloc _)).trans hk)
  rw [sq1] at c0 c1 c2 f0 f1 f2
  rw [sq _ _ _ (.cells #[] 0)] at d0 d1 d2
  have HK : Hid (Kp w w1) := (((Kp.self.alloc _).alloc _).alloc _).trans hk
  clear hk HM
  go_wp2
  go_step3
  go_wp2_with fail
  refine (areas_any _ _ _ _).mono ?_
  rintro e W ⟨rfl, hk⟩
  have HKW : Hid (Kp w W) := Kp.trans HK.out hk
  have F0 := hk.frozen_ c0 f0
  have F1 := hk.frozen_ c1 f1
  have F2 := hk.frozen_ c2 f2
  have C0 := hk.cell c0
  have C1 := hk.cell c1
  have C2 := hk.cell c2
  have D0 := hk.cell d0
  have D1 := hk.cell d1
  have D2 := hk.cell d2
  have G2 := hk.cell g2
  clear hk HK c0 c1 c2 d0 d1 d2 g0 g1 g2 f0 f1 f2
  have C0n : ∀ o0, (W.alloc o0).cell? ⟨w.heap.size + 1, 0, none⟩ = some (.int .i64 0) := fun o0 => (Kp.self.alloc o0).cell C0
  have C1n : ∀ o0, (W.alloc o0).cell? ⟨w.heap.size + 1, 1, none⟩ = some (.int .i64 0) := fun o0 => (Kp.self.alloc o0).cell C1
  have C2n : ∀ o0, (W.alloc o0).cell? ⟨w.heap.size + 1, 2, none⟩ = some (.int .i64 0) := fun o0 => (Kp.self.alloc o0).cell C2
  have F0n : ∀ o0, (W.alloc o0).frozen? ⟨w.heap.size + 1, 0, none⟩ = false := fun o0 => (Kp.self.alloc o0).frozen_ C0 F0
  have F1n : ∀ o0, (W.alloc o0).frozen? ⟨w.heap.size + 1, 1, none⟩ = false := fun o0 => (Kp.self.alloc o0).frozen_ C1 F1
  have F2n : ∀ o0, (W.alloc o0).frozen? ⟨w.heap.size + 1, 2, none⟩ = false := fun o0 => (Kp.self.alloc o0).frozen_ C2 F2
  have G2n : ∀ o0 o1, ((W.alloc o0).alloc o1).cell? ⟨w.heap.size, 2, none⟩ = some (.int .i64 r) := fun o0 o1 => ((Kp.self.alloc o0).alloc o1).cell G2
  have HKN : Hid (∀ o0, Kp w (W.alloc o0)) := fun o0 => HKW.out.trans (Kp.self.alloc o0)
  clear HKW C0 C1 C2 F0 F1 F2 D0 D1 D2 G2
  have i0 := idxA0 s l
  have i1 := idxA1 s l
  have i2 := idxA2 s l
  have i3 := idxA3 s l
  have i4 := idxA4 s l
  dsimp only [areasV] at *
  go_wp2_with fail
  refine wp_loop_rounds 1 ?_
  rw [rounds_succ]
  go_wp2
  have cA : (W.alloc (.cells #[.int .i64 1, .int .i64 8] 175)).cell? ⟨W.heap.size, 1, none⟩ = some (.int .i64 8) := by have h := box_cell (Kp.self (w := (W.alloc (.cells #[.int .i64 1, .int .i64 8] 175)))) 1 rfl; simp at h ⊢; try exact h
  have HKn := Lib.hid (HKN.out (.cells #[.int .i64 1, .int .i64 8] 175))
  have C0 := C0n (.cells #[.int .i64 1, .int .i64 8] 175)
  have C1 := C1n (.cells #[.int .i64 1, .int .i64 8] 175)
  have C2 := C2n (.cells #[.int .i64 1, .int .i64 8] 175)
  have F0 := F0n (.cells #[.int .i64 1, .int .i64 8] 175)
  have F1 := F1n (.cells #[.int .i64 1, .int .i64 8] 175)
  have F2 := F2n (.cells #[.int .i64 1, .int .i64 8] 175)
  clear C0n C1n C2n F0n F1n F2n G2n HKN i0 i1 i2 i3 i4
  generalize (W.alloc (.cells #[.int .i64 1, .int .i64 8] 175)) = Wn at *
  have q1 := fun W : KW Wn => W.cell cA
  refine wp_region_kw_tail 10 Wn Kp.self (by kernel_rfl) (by kernel_rfl) ?_
  simp only [List.take_succ_cons, List.take_zero, List.drop_succ_cons, List.drop_zero]
  repeat (any_goals (first | go_big_quiet_step (fail) | quiet_step (fail)))
  refine wpQuiet_nil ?_
  rintro w6 ⟨Wx, e⟩
  have hk6 : Kp Wn w6 := e ▸ Wx.2
  clear e Wx q1
  have F0 := hk6.frozen_ C0 F0
  have F1 := hk6.frozen_ C1 F1
  have F2 := hk6.frozen_ C2 F2
  have C0 := hk6.cell C0
  have C1 := hk6.cell C1
  have C2 := hk6.cell C2
  have HK6 : Hid (Kp w w6) := Kp.trans HKn.out hk6
  clear hk6
  go_wp2
  rw [Exit.noGoto_ret]
  obtain ⟨k0, k1, k2, hk4⟩ := set3 (.int .i64 (0)) (.int .i64 (a / 8)) (.int .i64 (a % 8)) HK6.out (Nat.le_succ _) C0 C1 C2
  generalize ((w6.setCell ⟨w.heap.size + 1, 0, none⟩ (.int .i64 (0))).setCell ⟨w.heap.size + 1, 1, none⟩ (.int .i64 (a / 8))).setCell ⟨w.heap.size + 1, 2, none⟩ (.int .i64 (a % 8)) = w5 at *
  exact bodyPost_ret (v := plc (0, a / 8, a % 8)) (by simp [results, Try.results116, go_sem, k0, k1, k2]) rfl ⟨by rw [HV.out], hk4⟩

set_option maxHeartbeats 2000000 in
set_option maxRecDepth 100000 in
theorem where_root (s l r a : Int) (w : World) (hg : gMay s l r = true) (ha : ¬ a - 8 < 0) (h8 : a - 8 < r) : Calls Try.prog 116 #[geo s l r, .int .i64 a] w fun e w' => e = .returned (plc (whereV s l r a)) ∧ Kp w w' := by
  have HV : Hid (whereV s l r a = (1, a - 8, 0)) := by
    unfold Hid whereV
    have hm := may_bd hg
    rw [if_neg (by rw [hg]; simp; omega), if_neg (by omega), if_pos (by omega)]
    try (refine Prod.ext ?_ (Prod.ext ?_ ?_) <;> (simp only; try omega))
  have hm := may_bd hg
  have HM := fun W => Lib.hid (may_any s l r W)
  rw [hg] at HM
  clear hg
  go_enter Try.func116, Try.ntmps116
  go_wp2
  go_step3
  go_wp2_with fail
  refine (HM _).out.mono ?_
  rintro e w1 ⟨rfl, hk⟩
  obtain ⟨d0, d1, d2⟩ := box3 hk
  obtain ⟨c0, c1, c2⟩ := box3 ((Kp.self.alloc _).trans hk)
  obtain ⟨f0, f1, f2⟩ := boxf3 ((Kp.self.alloc _).trans hk)
  obtain ⟨g0, g1, g2⟩ := box3 (((Kp.self.alloc _).trans (Kp.self.alloc _)).trans hk)
  rw [sq1] at c0 c1 c2 f0 f1 f2
  rw [sq _ _ _ (.cells #[] 0)] at d0 d1 d2
  have HK : Hid (Kp w w1) := (((Kp.self.alloc _).alloc _).alloc _).trans hk
  clear hk HM
  go_wp2
  go_step3
  go_wp2_with fail
  refine (areas_any _ _ _ _).mono ?_
  rintro e W ⟨rfl, hk⟩
  have HKW : Hid (Kp w W) := Kp.trans HK.out hk
  have F0 := hk.frozen_ c0 f0
  have F1 := hk.frozen_ c1 f1
  have F2 := hk.frozen_ c2 f2
  have C0 := hk.cell c0
  have C1 := hk.cell c1
  have C2 := hk.cell c2
  have D0 := hk.cell d0
  have D1 := hk.cell d1
  have D2 := hk.cell d2
  have G2 := hk.cell g2
  clear hk HK c0 c1 c2 d0 d1 d2 g0 g1 g2 f0 f1 f2
  have C0n : ∀ o0 o1, ((W.alloc o0).alloc o1).cell? ⟨w.heap.size + 1, 0, none⟩ = some (.int .i64 0) := fun o0 o1 => ((Kp.self.alloc o0).alloc o1).cell C0
  have C1n : ∀ o0 o1, ((W.alloc o0).alloc o1).cell? ⟨w.heap.size + 1, 1, none⟩ = some (.int .i64 0) := fun o0 o1 => ((Kp.self.alloc o0).alloc o1).cell C1
  have C2n : ∀ o0 o1, ((W.alloc o0).alloc o1).cell? ⟨w.heap.size + 1, 2, none⟩ = some (.int .i64 0) := fun o0 o1 => ((Kp.self.alloc o0).alloc o1).cell C2
  have F0n : ∀ o0 o1, ((W.alloc o0).alloc o1).frozen? ⟨w.heap.size + 1, 0, none⟩ = false := fun o0 o1 => ((Kp.self.alloc o0).alloc o1).frozen_ C0 F0
  have F1n : ∀ o0 o1, ((W.alloc o0).alloc o1).frozen? ⟨w.heap.size + 1, 1, none⟩ = false := fun o0 o1 => ((Kp.self.alloc o0).alloc o1).frozen_ C1 F1
  have F2n : ∀ o0 o1, ((W.alloc o0).alloc o1).frozen? ⟨w.heap.size + 1, 2, none⟩ = false := fun o0 o1 => ((Kp.self.alloc o0).alloc o1).frozen_ C2 F2
  have G2n : ∀ o0 o1, ((W.alloc o0).alloc o1).cell? ⟨w.heap.size, 2, none⟩ = some (.int .i64 r) := fun o0 o1 => ((Kp.self.alloc o0).alloc o1).cell G2
  have HKN : Hid (∀ o0 o1, Kp w ((W.alloc o0).alloc o1)) := fun o0 o1 => HKW.out.trans ((Kp.self.alloc o0).alloc o1)
  clear HKW C0 C1 C2 F0 F1 F2 D0 D1 D2 G2
  have i0 := idxA0 s l
  have i1 := idxA1 s l
  have i2 := idxA2 s l
  have i3 := idxA3 s l
  have i4 := idxA4 s l
  dsimp only [areasV] at *
  go_wp2_with fail
  refine wp_loop_rounds 2 ?_
  rw [rounds_succ]
  go_wp2
  rw [rounds_succ]
  go_wp2
  have cA : ((W.alloc (.cells #[.int .i64 1, .int .i64 8] 175)).alloc (.cells #[.int .i64 1, .int .i64 8] 175)).cell? ⟨W.heap.size + 1, 1, none⟩ = some (.int .i64 8) := by have h := box_cell (Kp.self (w := ((W.alloc (.cells #[.int .i64 1, .int .i64 8] 175)).alloc (.cells #[.int .i64 1, .int .i64 8] 175)))) 1 rfl; simp at h ⊢; try exact h
  have HKn := Lib.hid (HKN.out (.cells #[.int .i64 1, .int .i64 8] 175) (.cells #[.int .i64 1, .int .i64 8] 175))
  have C0 := C0n (.cells #[.int .i64 1, .int .i64 8] 175) (.cells #[.int .i64 1, .int .i64 8] 175)
  have C1 := C1n (.cells #[.int .i64 1, .int .i64 8] 175) (.cells #[.int .i64 1, .int .i64 8] 175)
  have C2 := C2n (.cells #[.int .i64 1, .int .i64 8] 175) (.cells #[.int .i64 1, .int .i64 8] 175)
  have F0 := F0n (.cells #[.int .i64 1, .int .i64 8] 175) (.cells #[.int .i64 1, .int .i64 8] 175)
  have F1 := F1n (.cells #[.int .i64 1, .int .i64 8] 175) (.cells #[.int .i64 1, .int .i64 8] 175)
  have F2 := F2n (.cells #[.int .i64 1, .int .i64 8] 175) (.cells #[.int .i64 1, .int .i64 8] 175)
  clear C0n C1n C2n F0n F1n F2n G2n HKN i0 i1 i2 i3 i4
  generalize ((W.alloc (.cells #[.int .i64 1, .int .i64 8] 175)).alloc (.cells #[.int .i64 1, .int .i64 8] 175)) = Wn at *
  rw [Exit.noGoto_ret]
  obtain ⟨k0, k1, k2, hk4⟩ := set3 (.int .i64 (1)) (.int .i64 (a - 8)) (.int .i64 (0)) HKn.out (Nat.le_succ _) C0 C1 C2
  generalize ((Wn.setCell ⟨w.heap.size + 1, 0, none⟩ (.int .i64 (1))).setCell ⟨w.heap.size + 1, 1, none⟩ (.int .i64 (a - 8))).setCell ⟨w.heap.size + 1, 2, none⟩ (.int .i64 (0)) = w5 at *
  exact bodyPost_ret (v := plc (1, a - 8, 0)) (by simp [results, Try.results116, go_sem, k0, k1, k2]) rfl ⟨by rw [HV.out], hk4⟩

set_option maxHeartbeats 2000000 in
set_option maxRecDepth 100000 in
theorem where_noroot (s l r a : Int) (w : World) (hg : gMay s l r = true) (ha : ¬ a - 8 < r) (h8 : a - 8 < 8) : Calls Try.prog 116 #[geo s l r, .int .i64 a] w fun e w' => e = .returned (plc (whereV s l r a)) ∧ Kp w w' := by
  have HV : Hid (whereV s l r a = (1, -1, a - 8)) := by
    unfold Hid whereV
    have hm := may_bd hg
    rw [if_neg (by rw [hg]; simp; omega), if_neg (by omega), if_neg (by omega), if_pos (by omega)]
    try (refine Prod.ext ?_ (Prod.ext ?_ ?_) <;> (simp only; try omega))
  have hm := may_bd hg
  have HM := fun W => Lib.hid (may_any s l r W)
  rw [hg] at HM
  clear hg
  go_enter Try.func116, Try.ntmps116
  go_wp2
  go_step3
  go_wp2_with fail
  refine (HM _).out.mono ?_
  rintro e w1 ⟨rfl, hk⟩
  obtain ⟨d0, d1, d2⟩ := box3 hk
  obtain ⟨c0, c1, c2⟩ := box3 ((Kp.self.alloc _).trans hk)
  obtain ⟨f0, f1, f2⟩ := boxf3 ((Kp.self.alloc _).trans hk)
  obtain ⟨g0, g1, g2⟩ := box3 (((Kp.self.alloc _).trans (Kp.self.alloc _)).trans hk)
  rw [sq1] at c0 c1 c2 f0 f1 f2
  rw [sq _ _ _ (.cells #[] 0)] at d0 d1 d2
  have HK : Hid (Kp w w1) := (((Kp.self.alloc _).alloc _).alloc _).trans hk
  clear hk HM
  go_wp2
  go_step3
  go_wp2_with fail
  refine (areas_any _ _ _ _).mono ?_
  rintro e W ⟨rfl, hk⟩
  have HKW : Hid (Kp w W) := Kp.trans HK.out hk
  have F0 := hk.frozen_ c0 f0
  have F1 := hk.frozen_ c1 f1
  have F2 := hk.frozen_ c2 f2
  have C0 := hk.cell c0
  have C1 := hk.cell c1
  have C2 := hk.cell c2
  have D0 := hk.cell d0
  have D1 := hk.cell d1
  have D2 := hk.cell d2
  have G2 := hk.cell g2
  clear hk HK c0 c1 c2 d0 d1 d2 g0 g1 g2 f0 f1 f2
  have C0n : ∀ o0 o1, ((W.alloc o0).alloc o1).cell? ⟨w.heap.size + 1, 0, none⟩ = some (.int .i64 0) := fun o0 o1 => ((Kp.self.alloc o0).alloc o1).cell C0
  have C1n : ∀ o0 o1, ((W.alloc o0).alloc o1).cell? ⟨w.heap.size + 1, 1, none⟩ = some (.int .i64 0) := fun o0 o1 => ((Kp.self.alloc o0).alloc o1).cell C1
  have C2n : ∀ o0 o1, ((W.alloc o0).alloc o1).cell? ⟨w.heap.size + 1, 2, none⟩ = some (.int .i64 0) := fun o0 o1 => ((Kp.self.alloc o0).alloc o1).cell C2
  have F0n : ∀ o0 o1, ((W.alloc o0).alloc o1).frozen? ⟨w.heap.size + 1, 0, none⟩ = false := fun o0 o1 => ((Kp.self.alloc o0).alloc o1).frozen_ C0 F0
  have F1n : ∀ o0 o1, ((W.alloc o0).alloc o1).frozen? ⟨w.heap.size + 1, 1, none⟩ = false := fun o0 o1 => ((Kp.self.alloc o0).alloc o1).frozen_ C1 F1
  have F2n : ∀ o0 o1, ((W.alloc o0).alloc o1).frozen? ⟨w.heap.size + 1, 2, none⟩ = false := fun o0 o1 => ((Kp.self.alloc o0).alloc o1).frozen_ C2 F2
  have G2n : ∀ o0 o1, ((W.alloc o0).alloc o1).cell? ⟨w.heap.size, 2, none⟩ = some (.int .i64 r) := fun o0 o1 => ((Kp.self.alloc o0).alloc o1).cell G2
  have HKN : Hid (∀ o0 o1, Kp w ((W.alloc o0).alloc o1)) := fun o0 o1 => HKW.out.trans ((Kp.self.alloc o0).alloc o1)
  clear HKW C0 C1 C2 F0 F1 F2 D0 D1 D2 G2
  have i0 := idxA0 s l
  have i1 := idxA1 s l
  have i2 := idxA2 s l
  have i3 := idxA3 s l
  have i4 := idxA4 s l
  dsimp only [areasV] at *
  go_wp2_with fail
  refine wp_loop_rounds 2 ?_
  rw [rounds_succ]
  go_wp2
  rw [rounds_succ]
  go_wp2
  have cA : ((W.alloc (.cells #[.int .i64 1, .int .i64 8] 175)).alloc (.cells #[.int .i64 1, .int .i64 8] 175)).cell? ⟨W.heap.size + 1, 1, none⟩ = some (.int .i64 8) := by have h := box_cell (Kp.self (w := ((W.alloc (.cells #[.int .i64 1, .int .i64 8] 175)).alloc (.cells #[.int .i64 1, .int .i64 8] 175)))) 1 rfl; simp at h ⊢; try exact h
  have HKn := Lib.hid (HKN.out (.cells #[.int .i64 1, .int .i64 8] 175) (.cells #[.int .i64 1, .int .i64 8] 175))
  have C0 := C0n (.cells #[.int .i64 1, .int .i64 8] 175) (.cells #[.int .i64 1, .int .i64 8] 175)
  have C1 := C1n (.cells #[.int .i64 1, .int .i64 8] 175) (.cells #[.int .i64 1, .int .i64 8] 175)
  have C2 := C2n (.cells #[.int .i64 1, .int .i64 8] 175) (.cells #[.int .i64 1, .int .i64 8] 175)
  have F0 := F0n (.cells #[.int .i64 1, .int .i64 8] 175) (.cells #[.int .i64 1, .int .i64 8] 175)
  have F1 := F1n (.cells #[.int .i64 1, .int .i64 8] 175) (.cells #[.int .i64 1, .int .i64 8] 175)
  have F2 := F2n (.cells #[.int .i64 1, .int .i64 8] 175) (.cells #[.int .i64 1, .int .i64 8] 175)
  clear C0n C1n C2n F0n F1n F2n G2n HKN i0 i1 i2 i3 i4
  generalize ((W.alloc (.cells #[.int .i64 1, .int .i64 8] 175)).alloc (.cells #[.int .i64 1, .int .i64 8] 175)) = Wn at *
  rw [Exit.noGoto_ret]
  obtain ⟨k0, k1, k2, hk4⟩ := set3 (.int .i64 (1)) (.int .i64 (-1)) (.int .i64 (a - 8)) HKn.out (Nat.le_succ _) C0 C1 C2
  generalize ((Wn.setCell ⟨w.heap.size + 1, 0, none⟩ (.int .i64 (1))).setCell ⟨w.heap.size + 1, 1, none⟩ (.int .i64 (-1))).setCell ⟨w.heap.size + 1, 2, none⟩ (.int .i64 (a - 8)) = w5 at *
  exact bodyPost_ret (v := plc (1, -1, a - 8)) (by simp [results, Try.results116, go_sem, k0, k1, k2]) rfl ⟨by rw [HV.out], hk4⟩

set_option maxHeartbeats 2000000 in
set_option maxRecDepth 100000 in
theorem where_lane (s l r a : Int) (w : World) (hg : gMay s l r = true) (ha : ¬ a - 8 - 8 < 0) (h8 : a - 8 - 8 < l * 40) : Calls Try.prog 116 #[geo s l r, .int .i64 a] w fun e w' => e = .returned (plc (whereV s l r a)) ∧ Kp w w' := by
  have HV : Hid (whereV s l r a = (2, (a - 8 - 8) / 40, (a - 8 - 8) % 40)) := by
    unfold Hid whereV
    have hm := may_bd hg
    rw [if_neg (by rw [hg]; simp; omega), if_neg (by omega), if_neg (by omega), if_neg (by omega), if_pos (by omega)]
    try (refine Prod.ext ?_ (Prod.ext ?_ ?_) <;> (simp only; try omega))
  have hm := may_bd hg
  have HM := fun W => Lib.hid (may_any s l r W)
  rw [hg] at HM
  clear hg
  go_enter Try.func116, Try.ntmps116
  go_wp2
  go_step3
  go_wp2_with fail
  refine (HM _).out.mono ?_
  rintro e w1 ⟨rfl, hk⟩
  obtain ⟨d0, d1, d2⟩ := box3 hk
  obtain ⟨c0, c1, c2⟩ := box3 ((Kp.self.alloc _).trans hk)
  obtain ⟨f0, f1, f2⟩ := boxf3 ((Kp.self.alloc _).trans hk)
  obtain ⟨g0, g1, g2⟩ := box3 (((Kp.self.alloc _).trans (Kp.self.alloc _)).trans hk)
  rw [sq1] at c0 c1 c2 f0 f1 f2
  rw [sq _ _ _ (.cells #[] 0)] at d0 d1 d2
  have HK : Hid (Kp w w1) := (((Kp.self.alloc _).alloc _).alloc _).trans hk
  clear hk HM
  go_wp2
  go_step3
  go_wp2_with fail
  refine (areas_any _ _ _ _).mono ?_
  rintro e W ⟨rfl, hk⟩
  have HKW : Hid (Kp w W) := Kp.trans HK.out hk
  have F0 := hk.frozen_ c0 f0
  have F1 := hk.frozen_ c1 f1
  have F2 := hk.frozen_ c2 f2
  have C0 := hk.cell c0
  have C1 := hk.cell c1
  have C2 := hk.cell c2
  have D0 := hk.cell d0
  have D1 := hk.cell d1
  have D2 := hk.cell d2
  have G2 := hk.cell g2
  clear hk HK c0 c1 c2 d0 d1 d2 g0 g1 g2 f0 f1 f2
  have C0n : ∀ o0 o1 o2, (((W.alloc o0).alloc o1).alloc o2).cell? ⟨w.heap.size + 1, 0, none⟩ = some (.int .i64 0) := fun o0 o1 o2 => (((Kp.self.alloc o0).alloc o1).alloc o2).cell C0
  have C1n : ∀ o0 o1 o2, (((W.alloc o0).alloc o1).alloc o2).cell? ⟨w.heap.size + 1, 1, none⟩ = some (.int .i64 0) := fun o0 o1 o2 => (((Kp.self.alloc o0).alloc o1).alloc o2).cell C1
  have C2n : ∀ o0 o1 o2, (((W.alloc o0).alloc o1).alloc o2).cell? ⟨w.heap.size + 1, 2, none⟩ = some (.int .i64 0) := fun o0 o1 o2 => (((Kp.self.alloc o0).alloc o1).alloc o2).cell C2
  have F0n : ∀ o0 o1 o2, (((W.alloc o0).alloc o1).alloc o2).frozen? ⟨w.heap.size + 1, 0, none⟩ = false := fun o0 o1 o2 => (((Kp.self.alloc o0).alloc o1).alloc o2).frozen_ C0 F0
  have F1n : ∀ o0 o1 o2, (((W.alloc o0).alloc o1).alloc o2).frozen? ⟨w.heap.size + 1, 1, none⟩ = false := fun o0 o1 o2 => (((Kp.self.alloc o0).alloc o1).alloc o2).frozen_ C1 F1
  have F2n : ∀ o0 o1 o2, (((W.alloc o0).alloc o1).alloc o2).frozen? ⟨w.heap.size + 1, 2, none⟩ = false := fun o0 o1 o2 => (((Kp.self.alloc o0).alloc o1).alloc o2).frozen_ C2 F2
  have G2n : ∀ o0 o1, ((W.alloc o0).alloc o1).cell? ⟨w.heap.size, 2, none⟩ = some (.int .i64 r) := fun o0 o1 => ((Kp.self.alloc o0).alloc o1).cell G2
  have HKN : Hid (∀ o0 o1 o2, Kp w (((W.alloc o0).alloc o1).alloc o2)) := fun o0 o1 o2 => HKW.out.trans (((Kp.self.alloc o0).alloc o1).alloc o2)
  clear HKW C0 C1 C2 F0 F1 F2 D0 D1 D2 G2
  have i0 := idxA0 s l
  have i1 := idxA1 s l
  have i2 := idxA2 s l
  have i3 := idxA3 s l
  have i4 := idxA4 s l
  dsimp only [areasV] at *
  go_wp2_with fail
  refine wp_loop_rounds 3 ?_
  rw [rounds_succ]
  go_wp2
  rw [rounds_succ]
  go_wp2
  rw [rounds_succ]
  go_wp2
  have cA : (((W.alloc (.cells #[.int .i64 1, .int .i64 8] 175)).alloc (.cells #[.int .i64 1, .int .i64 8] 175)).alloc (.cells #[.int .i64 l, .int .i64 40] 175)).cell? ⟨W.heap.size + 1 + 1, 1, none⟩ = some (.int .i64 40) := by have h := box_cell (Kp.self (w := (((W.alloc (.cells #[.int .i64 1, .int .i64 8] 175)).alloc (.cells #[.int .i64 1, .int .i64 8] 175)).alloc (.cells #[.int .i64 l, .int .i64 40] 175)))) 1 rfl; simp at h ⊢; try exact h
  have HKn := Lib.hid (HKN.out (.cells #[.int .i64 1, .int .i64 8] 175) (.cells #[.int .i64 1, .int .i64 8] 175) (.cells #[.int .i64 l, .int .i64 40] 175))
  have C0 := C0n (.cells #[.int .i64 1, .int .i64 8] 175) (.cells #[.int .i64 1, .int .i64 8] 175) (.cells #[.int .i64 l, .int .i64 40] 175)
  have C1 := C1n (.cells #[.int .i64 1, .int .i64 8] 175) (.cells #[.int .i64 1, .int .i64 8] 175) (.cells #[.int .i64 l, .int .i64 40] 175)
  have C2 := C2n (.cells #[.int .i64 1, .int .i64 8] 175) (.cells #[.int .i64 1, .int .i64 8] 175) (.cells #[.int .i64 l, .int .i64 40] 175)
  have F0 := F0n (.cells #[.int .i64 1, .int .i64 8] 175) (.cells #[.int .i64 1, .int .i64 8] 175) (.cells #[.int .i64 l, .int .i64 40] 175)
  have F1 := F1n (.cells #[.int .i64 1, .int .i64 8] 175) (.cells #[.int .i64 1, .int .i64 8] 175) (.cells #[.int .i64 l, .int .i64 40] 175)
  have F2 := F2n (.cells #[.int .i64 1, .int .i64 8] 175) (.cells #[.int .i64 1, .int .i64 8] 175) (.cells #[.int .i64 l, .int .i64 40] 175)
  clear C0n C1n C2n F0n F1n F2n G2n HKN i0 i1 i2 i3 i4
  generalize (((W.alloc (.cells #[.int .i64 1, .int .i64 8] 175)).alloc (.cells #[.int .i64 1, .int .i64 8] 175)).alloc (.cells #[.int .i64 l, .int .i64 40] 175)) = Wn at *
  have q1 := fun W : KW Wn => W.cell cA
  refine wp_region_kw_tail 10 Wn Kp.self (by kernel_rfl) (by kernel_rfl) ?_
  simp only [List.take_succ_cons, List.take_zero, List.drop_succ_cons, List.drop_zero]
  repeat (any_goals (first | go_big_quiet_step (fail) | quiet_step (fail)))
  refine wpQuiet_nil ?_
  rintro w6 ⟨Wx, e⟩
  have hk6 : Kp Wn w6 := e ▸ Wx.2
  clear e Wx q1
  have F0 := hk6.frozen_ C0 F0
  have F1 := hk6.frozen_ C1 F1
  have F2 := hk6.frozen_ C2 F2
  have C0 := hk6.cell C0
  have C1 := hk6.cell C1
  have C2 := hk6.cell C2
  have HK6 : Hid (Kp w w6) := Kp.trans HKn.out hk6
  clear hk6
  go_wp2
  rw [Exit.noGoto_ret]
  obtain ⟨k0, k1, k2, hk4⟩ := set3 (.int .i64 (2)) (.int .i64 ((a - 8 - 8) / 40)) (.int .i64 ((a - 8 - 8) % 40)) HK6.out (Nat.le_succ _) C0 C1 C2
  generalize ((w6.setCell ⟨w.heap.size + 1, 0, none⟩ (.int .i64 (2))).setCell ⟨w.heap.size + 1, 1, none⟩ (.int .i64 ((a - 8 - 8) / 40))).setCell ⟨w.heap.size + 1, 2, none⟩ (.int .i64 ((a - 8 - 8) % 40)) = w5 at *
  exact bodyPost_ret (v := plc (2, (a - 8 - 8) / 40, (a - 8 - 8) % 40)) (by simp [results, Try.results116, go_sem, k0, k1, k2]) rfl ⟨by rw [HV.out], hk4⟩

set_option maxHeartbeats 2000000 in
set_option maxRecDepth 100000 in
theorem where_head (s l r a : Int) (w : World) (hg : gMay s l r = true) (ha : ¬ a - 8 - 8 - l * 40 < 0) (h8 : a - 8 - 8 - l * 40 < s * 8) : Calls Try.prog 116 #[geo s l r, .int .i64 a] w fun e w' => e = .returned (plc (whereV s l r a)) ∧ Kp w w' := by
  have HV : Hid (whereV s l r a = (3, (a - 8 - 8 - l * 40) / 8, (a - 8 - 8 - l * 40) % 8)) := by
    unfold Hid whereV
    have hm := may_bd hg
    rw [if_neg (by rw [hg]; simp; omega), if_neg (by omega), if_neg (by omega), if_neg (by omega), if_neg (by omega), if_pos (by omega)]
    try (refine Prod.ext ?_ (Prod.ext ?_ ?_) <;> (simp only; try omega))
  have hm := may_bd hg
  have HM := fun W => Lib.hid (may_any s l r W)
  rw [hg] at HM
  clear hg
  go_enter Try.func116, Try.ntmps116
  go_wp2
  go_step3
  go_wp2_with fail
  refine (HM _).out.mono ?_
  rintro e w1 ⟨rfl, hk⟩
  obtain ⟨d0, d1, d2⟩ := box3 hk
  obtain ⟨c0, c1, c2⟩ := box3 ((Kp.self.alloc _).trans hk)
  obtain ⟨f0, f1, f2⟩ := boxf3 ((Kp.self.alloc _).trans hk)
  obtain ⟨g0, g1, g2⟩ := box3 (((Kp.self.alloc _).trans (Kp.self.alloc _)).trans hk)
  rw [sq1] at c0 c1 c2 f0 f1 f2
  rw [sq _ _ _ (.cells #[] 0)] at d0 d1 d2
  have HK : Hid (Kp w w1) := (((Kp.self.alloc _).alloc _).alloc _).trans hk
  clear hk HM
  go_wp2
  go_step3
  go_wp2_with fail
  refine (areas_any _ _ _ _).mono ?_
  rintro e W ⟨rfl, hk⟩
  have HKW : Hid (Kp w W) := Kp.trans HK.out hk
  have F0 := hk.frozen_ c0 f0
  have F1 := hk.frozen_ c1 f1
  have F2 := hk.frozen_ c2 f2
  have C0 := hk.cell c0
  have C1 := hk.cell c1
  have C2 := hk.cell c2
  have D0 := hk.cell d0
  have D1 := hk.cell d1
  have D2 := hk.cell d2
  have G2 := hk.cell g2
  clear hk HK c0 c1 c2 d0 d1 d2 g0 g1 g2 f0 f1 f2
  have C0n : ∀ o0 o1 o2 o3, ((((W.alloc o0).alloc o1).alloc o2).alloc o3).cell? ⟨w.heap.size + 1, 0, none⟩ = some (.int .i64 0) := fun o0 o1 o2 o3 => ((((Kp.self.alloc o0).alloc o1).alloc o2).alloc o3).cell C0
  have C1n : ∀ o0 o1 o2 o3, ((((W.alloc o0).alloc o1).alloc o2).alloc o3).cell? ⟨w.heap.size + 1, 1, none⟩ = some (.int .i64 0) := fun o0 o1 o2 o3 => ((((Kp.self.alloc o0).alloc o1).alloc o2).alloc o3).cell C1
  have C2n : ∀ o0 o1 o2 o3, ((((W.alloc o0).alloc o1).alloc o2).alloc o3).cell? ⟨w.heap.size + 1, 2, none⟩ = some (.int .i64 0) := fun o0 o1 o2 o3 => ((((Kp.self.alloc o0).alloc o1).alloc o2).alloc o3).cell C2
  have F0n : ∀ o0 o1 o2 o3, ((((W.alloc o0).alloc o1).alloc o2).alloc o3).frozen? ⟨w.heap.size + 1, 0, none⟩ = false := fun o0 o1 o2 o3 => ((((Kp.self.alloc o0).alloc o1).alloc o2).alloc o3).frozen_ C0 F0
  have F1n : ∀ o0 o1 o2 o3, ((((W.alloc o0).alloc o1).alloc o2).alloc o3).frozen? ⟨w.heap.size + 1, 1, none⟩ = false := fun o0 o1 o2 o3 => ((((Kp.self.alloc o0).alloc o1).alloc o2).alloc o3).frozen_ C1 F1
  have F2n : ∀ o0 o1 o2 o3, ((((W.alloc o0).alloc o1).alloc o2).alloc o3).frozen? ⟨w.heap.size + 1, 2, none⟩ = false := fun o0 o1 o2 o3 => ((((Kp.self.alloc o0).alloc o1).alloc o2).alloc o3).frozen_ C2 F2
  have G2n : ∀ o0 o1, ((W.alloc o0).alloc o1).cell? ⟨w.heap.size, 2, none⟩ = some (.int .i64 r) := fun o0 o1 => ((Kp.self.alloc o0).alloc o1).cell G2
  have HKN : Hid (∀ o0 o1 o2 o3, Kp w ((((W.alloc o0).alloc o1).alloc o2).alloc o3)) := fun o0 o1 o2 o3 => HKW.out.trans ((((Kp.self.alloc o0).alloc o1).alloc o2).alloc o3)
  clear HKW C0 C1 C2 F0 F1 F2 D0 D1 D2 G2
  have i0 := idxA0 s l
  have i1 := idxA1 s l
  have i2 := idxA2 s l
  have i3 := idxA3 s l
  have i4 := idxA4 s l
  dsimp only [areasV] at *
  go_wp2_with fail
  refine wp_loop_rounds 4 ?_
  rw [rounds_succ]
  go_wp2
  rw [rounds_succ]
  go_wp2
  rw [rounds_succ]
  go_wp2
  rw [rounds_succ]
  go_wp2
  have cA : ((((W.alloc (.cells #[.int .i64 1, .int .i64 8] 175)).alloc (.cells #[.int .i64 1, .int .i64 8] 175)).alloc (.cells #[.int .i64 l, .int .i64 40] 175)).alloc (.cells #[.int .i64 s, .int .i64 8] 175)).cell? ⟨W.heap.size + 1 + 1 + 1, 1, none⟩ = some (.int .i64 8) := by have h := box_cell (Kp.self (w := ((((W.alloc (.cells #[.int .i64 1, .int .i64 8] 175)).alloc (.cells #[.int .i64 1, .int .i64 8] 175)).alloc (.cells #[.int .i64 l, .int .i64 40] 175)).alloc (.cells #[.int .i64 s, .int .i64 8] 175)))) 1 rfl; simp at h ⊢; try exact h
  have HKn := Lib.hid (HKN.out (.cells #[.int .i64 1, .int .i64 8] 175) (.cells #[.int .i64 1, .int .i64 8] 175) (.cells #[.int .i64 l, .int .i64 40] 175) (.cells #[.int .i64 s, .int .i64 8] 175))
  have C0 := C0n (.cells #[.int .i64 1, .int .i64 8] 175) (.cells #[.int .i64 1, .int .i64 8] 175) (.cells #[.int .i64 l, .int .i64 40] 175) (.cells #[.int .i64 s, .int .i64 8] 175)
  have C1 := C1n (.cells #[.int .i64 1, .int .i64 8] 175) (.cells #[.int .i64 1, .int .i64 8] 175) (.cells #[.int .i64 l, .int .i64 40] 175) (.cells #[.int .i64 s, .int .i64 8] 175)
  have C2 := C2n (.cells #[.int .i64 1, .int .i64 8] 175) (.cells #[.int .i64 1, .int .i64 8] 175) (.cells #[.int .i64 l, .int .i64 40] 175) (.cells #[.int .i64 s, .int .i64 8] 175)
  have F0 := F0n (.cells #[.int .i64 1, .int .i64 8] 175) (.cells #[.int .i64 1, .int .i64 8] 175) (.cells #[.int .i64 l, .int .i64 40] 175) (.cells #[.int .i64 s, .int .i64 8] 175)
  have F1 := F1n (.cells #[.int .i64 1, .int .i64 8] 175) (.cells #[.int .i64 1, .int .i64 8] 175) (.cells #[.int .i64 l, .int .i64 40] 175) (.cells #[.int .i64 s, .int .i64 8] 175)
  have F2 := F2n (.cells #[.int .i64 1, .int .i64 8] 175) (.cells #[.int .i64 1, .int .i64 8] 175) (.cells #[.int .i64 l, .int .i64 40] 175) (.cells #[.int .i64 s, .int .i64 8] 175)
  clear C0n C1n C2n F0n F1n F2n G2n HKN i0 i1 i2 i3 i4
  generalize ((((W.alloc (.cells #[.int .i64 1, .int .i64 8] 175)).alloc (.cells #[.int .i64 1, .int .i64 8] 175)).alloc (.cells #[.int .i64 l, .int .i64 40] 175)).alloc (.cells #[.int .i64 s, .int .i64 8] 175)) = Wn at *
  have q1 := fun W : KW Wn => W.cell cA
  refine wp_region_kw_tail 10 Wn Kp.self (by kernel_rfl) (by kernel_rfl) ?_
  simp only [List.take_succ_cons, List.take_zero, List.drop_succ_cons, List.drop_zero]
  repeat (any_goals (first | go_big_quiet_step (fail) | quiet_step (fail)))
  refine wpQuiet_nil ?_
  rintro w6 ⟨Wx, e⟩
  have hk6 : Kp Wn w6 := e ▸ Wx.2
  clear e Wx q1
  have F0 := hk6.frozen_ C0 F0
  have F1 := hk6.frozen_ C1 F1
  have F2 := hk6.frozen_ C2 F2
  have C0 := hk6.cell C0
  have C1 := hk6.cell C1
  have C2 := hk6.cell C2
  have HK6 : Hid (Kp w w6) := Kp.trans HKn.out hk6
  clear hk6
  go_wp2
  rw [Exit.noGoto_ret]
  obtain ⟨k0, k1, k2, hk4⟩ := set3 (.int .i64 (3)) (.int .i64 ((a - 8 - 8 - l * 40) / 8)) (.int .i64 ((a - 8 - 8 - l * 40) % 8)) HK6.out (Nat.le_succ _) C0 C1 C2
  generalize ((w6.setCell ⟨w.heap.size + 1, 0, none⟩ (.int .i64 (3))).setCell ⟨w.heap.size + 1, 1, none⟩ (.int .i64 ((a - 8 - 8 - l * 40) / 8))).setCell ⟨w.heap.size + 1, 2, none⟩ (.int .i64 ((a - 8 - 8 - l * 40) % 8)) = w5 at *
  exact bodyPost_ret (v := plc (3, (a - 8 - 8 - l * 40) / 8, (a - 8 - 8 - l * 40) % 8)) (by simp [results, Try.results116, go_sem, k0, k1, k2]) rfl ⟨by rw [HV.out], hk4⟩

set_option maxHeartbeats 2000000 in
set_option maxRecDepth 100000 in
theorem where_heap (s l r a : Int) (w : World) (hg : gMay s l r = true) (ha : ¬ a - 8 - 8 - l * 40 - s * 8 < 0) (h8 : a - 8 - 8 - l * 40 - s * 8 < s * 64) : Calls Try.prog 116 #[geo s l r, .int .i64 a] w fun e w' => e = .returned (plc (whereV s l r a)) ∧ Kp w w' := by
  have HV : Hid (whereV s l r a = (4, (a - 8 - 8 - l * 40 - s * 8) / 64, (a - 8 - 8 - l * 40 - s * 8) % 64)) := by
    unfold Hid whereV
    have hm := may_bd hg
    rw [if_neg (by rw [hg]; simp; omega), if_neg (by omega), if_neg (by omega), if_neg (by omega), if_neg (by omega), if_neg (by omega), if_pos (by omega)]
    try (refine Prod.ext ?_ (Prod.ext ?_ ?_) <;> (simp only; try omega))
  have hm := may_bd hg
  have HM := fun W => Lib.hid (may_any s l r W)
  rw [hg] at HM
  clear hg
  go_enter Try.func116, Try.ntmps116
  go_wp2
  go_step3
  go_wp2_with fail
  refine (HM _).out.mono ?_
  rintro e w1 ⟨rfl, hk⟩
  obtain ⟨d0, d1, d2⟩ := box3 hk
  obtain ⟨c0, c1, c2⟩ := box3 ((Kp.self.alloc _).trans hk)
  obtain ⟨f0, f1, f2⟩ := boxf3 ((Kp.self.alloc _).trans hk)
  obtain ⟨g0, g1, g2⟩ := box3 (((Kp.self.alloc _).trans (Kp.self.alloc _)).trans hk)
  rw [sq1] at c0 c1 c2 f0 f1 f2
  rw [sq _ _ _ (.cells #[] 0)] at d0 d1 d2
  have HK : Hid (Kp w w1) := (((Kp.self.alloc _).alloc _).alloc _).trans hk
  clear hk HM
  go_wp2
  go_step3
  go_wp2_with fail
  refine (areas_any _ _ _ _).mono ?_
  rintro e W ⟨rfl, hk⟩
  have HKW : Hid (Kp w W) := Kp.trans HK.out hk
  have F0 := hk.frozen_ c0 f0
  have F1 := hk.frozen_ c1 f1
  have F2 := hk.frozen_ c2 f2
  have C0 := hk.cell c0
  have C1 := hk.cell c1
  have C2 := hk.cell c2
  have D0 := hk.cell d0
  have D1 := hk.cell d1
  have D2 := hk.cell d2
  have G2 := hk.cell g2
  clear hk HK c0 c1 c2 d0 d1 d2 g0 g1 g2 f0 f1 f2
  have C0n : ∀ o0 o1 o2 o3 o4, (((((W.alloc o0).alloc o1).alloc o2).alloc o3).alloc o4).cell? ⟨w.heap.size + 1, 0, none⟩ = some (.int .i64 0) := fun o0 o1 o2 o3 o4 => (((((Kp.self.alloc o0).alloc o1).alloc o2).alloc o3).alloc o4).cell C0
  have C1n : ∀ o0 o1 o2 o3 o4, (((((W.alloc o0).alloc o1).alloc o2).alloc o3).alloc o4).cell? ⟨w.heap.size + 1, 1, none⟩ = some (.int .i64 0) := fun o0 o1 o2 o3 o4 => (((((Kp.self.alloc o0).alloc o1).alloc o2).alloc o3).alloc o4).cell C1
  have C2n : ∀ o0 o1 o2 o3 o4, (((((W.alloc o0).alloc o1).alloc o2).alloc o3).alloc o4).cell? ⟨w.heap.size + 1, 2, none⟩ = some (.int .i64 0) := fun o0 o1 o2 o3 o4 => (((((Kp.self.alloc o0).alloc o1).alloc o2).alloc o3).alloc o4).cell C2
  have F0n : ∀ o0 o1 o2 o3 o4, (((((W.alloc o0).alloc o1).alloc o2).alloc o3).alloc o4).frozen? ⟨w.heap.size + 1, 0, none⟩ = false := fun o0 o1 o2 o3 o4 => (((((Kp.self.alloc o0).alloc o1).alloc o2).alloc o3).alloc o4).frozen_ C0 F0
  have F1n : ∀ o0 o1 o2 o3 o4, (((((W.alloc o0).alloc o1).alloc o2).alloc o3).alloc o4).frozen? ⟨w.heap.size + 1, 1, none⟩ = false := fun o0 o1 o2 o3 o4 => (((((Kp.self.alloc o0).alloc o1).alloc o2).alloc o3).alloc o4).frozen_ C1 F1
  have F2n : ∀ o0 o1 o2 o3 o4, (((((W.alloc o0).alloc o1).alloc o2).alloc o3).alloc o4).frozen? ⟨w.heap.size + 1, 2, none⟩ = false := fun o0 o1 o2 o3 o4 => (((((Kp.self.alloc o0).alloc o1).alloc o2).alloc o3).alloc o4).frozen_ C2 F2
  have G2n : ∀ o0 o1, ((W.alloc o0).alloc o1).cell? ⟨w.heap.size, 2, none⟩ = some (.int .i64 r) := fun o0 o1 => ((Kp.self.alloc o0).alloc o1).cell G2
  have HKN : Hid (∀ o0 o1 o2 o3 o4, Kp w (((((W.alloc o0).alloc o1).alloc o2).alloc o3).alloc o4)) := fun o0 o1 o2 o3 o4 => HKW.out.trans (((((Kp.self.alloc o0).alloc o1).alloc o2).alloc o3).alloc o4)
  clear HKW C0 C1 C2 F0 F1 F2 D0 D1 D2 G2
  have i0 := idxA0 s l
  have i1 := idxA1 s l
  have i2 := idxA2 s l
  have i3 := idxA3 s l
  have i4 := idxA4 s l
  dsimp only [areasV] at *
  go_wp2_with fail
  refine wp_loop_rounds 5 ?_
  rw [rounds_succ]
  go_wp2
  rw [rounds_succ]
  go_wp2
  rw [rounds_succ]
  go_wp2
  rw [rounds_succ]
  go_wp2
  rw [rounds_succ]
  go_wp2
  have cA : (((((W.alloc (.cells #[.int .i64 1, .int .i64 8] 175)).alloc (.cells #[.int .i64 1, .int .i64 8] 175)).alloc (.cells #[.int .i64 l, .int .i64 40] 175)).alloc (.cells #[.int .i64 s, .int .i64 8] 175)).alloc (.cells #[.int .i64 s, .int .i64 64] 175)).cell? ⟨W.heap.size + 1 + 1 + 1 + 1, 1, none⟩ = some (.int .i64 64) := by have h := box_cell (Kp.self (w := (((((W.alloc (.cells #[.int .i64 1, .int .i64 8] 175)).alloc (.cells #[.int .i64 1, .int .i64 8] 175)).alloc (.cells #[.int .i64 l, .int .i64 40] 175)).alloc (.cells #[.int .i64 s, .int .i64 8] 175)).alloc (.cells #[.int .i64 s, .int .i64 64] 175)))) 1 rfl; simp at h ⊢; try exact h
  have HKn := Lib.hid (HKN.out (.cells #[.int .i64 1, .int .i64 8] 175) (.cells #[.int .i64 1, .int .i64 8] 175) (.cells #[.int .i64 l, .int .i64 40] 175) (.cells #[.int .i64 s, .int .i64 8] 175) (.cells #[.int .i64 s, .int .i64 64] 175))
  have C0 := C0n (.cells #[.int .i64 1, .int .i64 8] 175) (.cells #[.int .i64 1, .int .i64 8] 175) (.cells #[.int .i64 l, .int .i64 40] 175) (.cells #[.int .i64 s, .int .i64 8] 175) (.cells #[.int .i64 s, .int .i64 64] 175)
  have C1 := C1n (.cells #[.int .i64 1, .int .i64 8] 175) (.cells #[.int .i64 1, .int .i64 8] 175) (.cells #[.int .i64 l, .int .i64 40] 175) (.cells #[.int .i64 s, .int .i64 8] 175) (.cells #[.int .i64 s, .int .i64 64] 175)
  have C2 := C2n (.cells #[.int .i64 1, .int .i64 8] 175) (.cells #[.int .i64 1, .int .i64 8] 175) (.cells #[.int .i64 l, .int .i64 40] 175) (.cells #[.int .i64 s, .int .i64 8] 175) (.cells #[.int .i64 s, .int .i64 64] 175)
  have F0 := F0n (.cells #[.int .i64 1, .int .i64 8] 175) (.cells #[.int .i64 1, .int .i64 8] 175) (.cells #[.int .i64 l, .int .i64 40] 175) (.cells #[.int .i64 s, .int .i64 8] 175) (.cells #[.int .i64 s, .int .i64 64] 175)
  have F1 := F1n (.cells #[.int .i64 1, .int .i64 8] 175) (.cells #[.int .i64 1, .int .i64 8] 175) (.cells #[.int .i64 l, .int .i64 40] 175) (.cells #[.int .i64 s, .int .i64 8] 175) (.cells #[.int .i64 s, .int .i64 64] 175)
  have F2 := F2n (.cells #[.int .i64 1, .int .i64 8] 175) (.cells #[.int .i64 1, .int .i64 8] 175) (.cells #[.int .i64 l, .int .i64 40] 175) (.cells #[.int .i64 s, .int .i64 8] 175) (.cells #[.int .i64 s, .int .i64 64] 175)
  clear C0n C1n C2n F0n F1n F2n G2n HKN i0 i1 i2 i3 i4
  generalize (((((W.alloc (.cells #[.int .i64 1, .int .i64 8] 175)).alloc (.cells #[.int .i64 1, .int .i64 8] 175)).alloc (.cells #[.int .i64 l, .int .i64 40] 175)).alloc (.cells #[.int .i64 s, .int .i64 8] 175)).alloc (.cells #[.int .i64 s, .int .i64 64] 175)) = Wn at *
  have q1 := fun W : KW Wn => W.cell cA
  refine wp_region_kw_tail 10 Wn Kp.self (by kernel_rfl) (by kernel_rfl) ?_
  simp only [List.take_succ_cons, List.take_zero, List.drop_succ_cons, List.drop_zero]
  repeat (any_goals (first | go_big_quiet_step (fail) | quiet_step (fail)))
  refine wpQuiet_nil ?_
  rintro w6 ⟨Wx, e⟩
  have hk6 : Kp Wn w6 := e ▸ Wx.2
  clear e Wx q1
  have F0 := hk6.frozen_ C0 F0
  have F1 := hk6.frozen_ C1 F1
  have F2 := hk6.frozen_ C2 F2
  have C0 := hk6.cell C0
  have C1 := hk6.cell C1
  have C2 := hk6.cell C2
  have HK6 : Hid (Kp w w6) := Kp.trans HKn.out hk6
  clear hk6
  go_wp2
  rw [Exit.noGoto_ret]
  obtain ⟨k0, k1, k2, hk4⟩ := set3 (.int .i64 (4)) (.int .i64 ((a - 8 - 8 - l * 40 - s * 8) / 64)) (.int .i64 ((a - 8 - 8 - l * 40 - s * 8) % 64)) HK6.out (Nat.le_succ _) C0 C1 C2
  generalize ((w6.setCell ⟨w.heap.size + 1, 0, none⟩ (.int .i64 (4))).setCell ⟨w.heap.size + 1, 1, none⟩ (.int .i64 ((a - 8 - 8 - l * 40 - s * 8) / 64))).setCell ⟨w.heap.size + 1, 2, none⟩ (.int .i64 ((a - 8 - 8 - l * 40 - s * 8) % 64)) = w5 at *
  exact bodyPost_ret (v := plc (4, (a - 8 - 8 - l * 40 - s * 8) / 64, (a - 8 - 8 - l * 40 - s * 8) % 64)) (by simp [results, Try.results116, go_sem, k0, k1, k2]) rfl ⟨by rw [HV.out], hk4⟩

set_option maxHeartbeats 2000000 in
set_option maxRecDepth 100000 in
theorem where_none (s l r a : Int) (w : World) (hg : gMay s l r = true) (ha : ¬ a - 8 - 8 - l * 40 - s * 8 < 0) (h8 : ¬ a - 8 - 8 - l * 40 - s * 8 < s * 64) (hb : a < 9223372036854775808) : Calls Try.prog 116 #[geo s l r, .int .i64 a] w fun e w' => e = .returned (plc (whereV s l r a)) ∧ Kp w w' := by
  have HV : Hid (whereV s l r a = (5, -1, 0)) := by
    unfold Hid whereV
    have hm := may_bd hg
    rw [if_neg (by rw [hg]; simp; omega), if_neg (by omega), if_neg (by omega), if_neg (by omega), if_neg (by omega), if_neg (by omega), if_neg (by omega)]
    try (refine Prod.ext ?_ (Prod.ext ?_ ?_) <;> (simp only; try omega))
  have hm := may_bd hg
  have HM := fun W => Lib.hid (may_any s l r W)
  rw [hg] at HM
  clear hg
  go_enter Try.func116, Try.ntmps116
  go_wp2
  go_step3
  go_wp2_with fail
  refine (HM _).out.mono ?_
  rintro e w1 ⟨rfl, hk⟩
  obtain ⟨d0, d1, d2⟩ := box3 hk
  obtain ⟨c0, c1, c2⟩ := box3 ((Kp.self.alloc _).trans hk)
  obtain ⟨f0, f1, f2⟩ := boxf3 ((Kp.self.alloc _).trans hk)
  obtain ⟨g0, g1, g2⟩ := box3 (((Kp.self.alloc _).trans (Kp.self.alloc _)).trans hk)
  rw [sq1] at c0 c1 c2 f0 f1 f2
  rw [sq _ _ _ (.cells #[] 0)] at d0 d1 d2
  have HK : Hid (Kp w w1) := (((Kp.self.alloc _).alloc _).alloc _).trans hk
  clear hk HM
  go_wp2
  go_step3
  go_wp2_with fail
  refine (areas_any _ _ _ _).mono ?_
  rintro e W ⟨rfl, hk⟩
  have HKW : Hid (Kp w W) := Kp.trans HK.out hk
  have F0 := hk.frozen_ c0 f0
  have F1 := hk.frozen_ c1 f1
  have F2 := hk.frozen_ c2 f2
  have C0 := hk.cell c0
  have C1 := hk.cell c1
  have C2 := hk.cell c2
  have D0 := hk.cell d0
  have D1 := hk.cell d1
  have D2 := hk.cell d2
  have G2 := hk.cell g2
  clear hk HK c0 c1 c2 d0 d1 d2 g0 g1 g2 f0 f1 f2
  have C0n : ∀ o0 o1 o2 o3 o4, (((((W.alloc o0).alloc o1).alloc o2).alloc o3).alloc o4).cell? ⟨w.heap.size + 1, 0, none⟩ = some (.int .i64 0) := fun o0 o1 o2 o3 o4 => (((((Kp.self.alloc o0).alloc o1).alloc o2).alloc o3).alloc o4).cell C0
  have C1n : ∀ o0 o1 o2 o3 o4, (((((W.alloc o0).alloc o1).alloc o2).alloc o3).alloc o4).cell? ⟨w.heap.size + 1, 1, none⟩ = some (.int .i64 0) := fun o0 o1 o2 o3 o4 => (((((Kp.self.alloc o0).alloc o1).alloc o2).alloc o3).alloc o4).cell C1
  have C2n : ∀ o0 o1 o2 o3 o4, (((((W.alloc o0).alloc o1).alloc o2).alloc o3).alloc o4).cell? ⟨w.heap.size + 1, 2, none⟩ = some (.int .i64 0) := fun o0 o1 o2 o3 o4 => (((((Kp.self.alloc o0).alloc o1).alloc o2).alloc o3).alloc o4).cell C2
  have F0n : ∀ o0 o1 o2 o3 o4, (((((W.alloc o0).alloc o1).alloc o2).alloc o3).alloc o4).frozen? ⟨w.heap.size + 1, 0, none⟩ = false := fun o0 o1 o2 o3 o4 => (((((Kp.self.alloc o0).alloc o1).alloc o2).alloc o3).alloc o4).frozen_ C0 F0
  have F1n : ∀ o0 o1 o2 o3 o4, (((((W.alloc o0).alloc o1).alloc o2).alloc o3).alloc o4).frozen? ⟨w.heap.size + 1, 1, none⟩ = false := fun o0 o1 o2 o3 o4 => (((((Kp.self.alloc o0).alloc o1).alloc o2).alloc o3).alloc o4).frozen_ C1 F1
  have F2n : ∀ o0 o1 o2 o3 o4, (((((W.alloc o0).alloc o1).alloc o2).alloc o3).alloc o4).frozen? ⟨w.heap.size + 1, 2, none⟩ = false := fun o0 o1 o2 o3 o4 => (((((Kp.self.alloc o0).alloc o1).alloc o2).alloc o3).alloc o4).frozen_ C2 F2
  have D0n : ∀ o0 o1 o2 o3 o4, (((((W.alloc o0).alloc o1).alloc o2).alloc o3).alloc o4).cell? ⟨w.heap.size + 1 + 1, 0, none⟩ = some (.int .i64 5) := fun o0 o1 o2 o3 o4 => (((((Kp.self.alloc o0).alloc o1).alloc o2).alloc o3).alloc o4).cell D0
  have D1n : ∀ o0 o1 o2 o3 o4, (((((W.alloc o0).alloc o1).alloc o2).alloc o3).alloc o4).cell? ⟨w.heap.size + 1 + 1, 1, none⟩ = some (.int .i64 (-1)) := fun o0 o1 o2 o3 o4 => (((((Kp.self.alloc o0).alloc o1).alloc o2).alloc o3).alloc o4).cell D1
  have D2n : ∀ o0 o1 o2 o3 o4, (((((W.alloc o0).alloc o1).alloc o2).alloc o3).alloc o4).cell? ⟨w.heap.size + 1 + 1, 2, none⟩ = some (.int .i64 0) := fun o0 o1 o2 o3 o4 => (((((Kp.self.alloc o0).alloc o1).alloc o2).alloc o3).alloc o4).cell D2
  have G2n : ∀ o0 o1, ((W.alloc o0).alloc o1).cell? ⟨w.heap.size, 2, none⟩ = some (.int .i64 r) := fun o0 o1 => ((Kp.self.alloc o0).alloc o1).cell G2
  have HKN : Hid (∀ o0 o1 o2 o3 o4, Kp w (((((W.alloc o0).alloc o1).alloc o2).alloc o3).alloc o4)) := fun o0 o1 o2 o3 o4 => HKW.out.trans (((((Kp.self.alloc o0).alloc o1).alloc o2).alloc o3).alloc o4)
  clear HKW C0 C1 C2 F0 F1 F2 D0 D1 D2 G2
  have i0 := idxA0 s l
  have i1 := idxA1 s l
  have i2 := idxA2 s l
  have i3 := idxA3 s l
  have i4 := idxA4 s l
  dsimp only [areasV] at *
  go_wp2_with fail
  refine wp_loop_rounds 6 ?_
  rw [rounds_succ]
  go_wp2
  rw [rounds_succ]
  go_wp2
  rw [rounds_succ]
  go_wp2
  rw [rounds_succ]
  go_wp2
  rw [rounds_succ]
  go_wp2
  rw [rounds_succ]
  go_wp2
  rw [Exit.noGoto_ret]
  have HKn := Lib.hid (HKN.out (.cells #[.int .i64 1, .int .i64 8] 175) (.cells #[.int .i64 1, .int .i64 8] 175) (.cells #[.int .i64 l, .int .i64 40] 175) (.cells #[.int .i64 s, .int .i64 8] 175) (.cells #[.int .i64 s, .int .i64 64] 175))
  have C0 := C0n (.cells #[.int .i64 1, .int .i64 8] 175) (.cells #[.int .i64 1, .int .i64 8] 175) (.cells #[.int .i64 l, .int .i64 40] 175) (.cells #[.int .i64 s, .int .i64 8] 175) (.cells #[.int .i64 s, .int .i64 64] 175)
  have C1 := C1n (.cells #[.int .i64 1, .int .i64 8] 175) (.cells #[.int .i64 1, .int .i64 8] 175) (.cells #[.int .i64 l, .int .i64 40] 175) (.cells #[.int .i64 s, .int .i64 8] 175) (.cells #[.int .i64 s, .int .i64 64] 175)
  have C2 := C2n (.cells #[.int .i64 1, .int .i64 8] 175) (.cells #[.int .i64 1, .int .i64 8] 175) (.cells #[.int .i64 l, .int .i64 40] 175) (.cells #[.int .i64 s, .int .i64 8] 175) (.cells #[.int .i64 s, .int .i64 64] 175)
  obtain ⟨k0, k1, k2, hk4⟩ := set3 (.int .i64 5) (.int .i64 (-1)) (.int .i64 0) HKn.out (Nat.le_succ _) C0 C1 C2
  generalize ((((((((W.alloc (.cells #[.int .i64 1, .int .i64 8] 175)).alloc (.cells #[.int .i64 1, .int .i64 8] 175)).alloc (.cells #[.int .i64 l, .int .i64 40] 175)).alloc (.cells #[.int .i64 s, .int .i64 8] 175)).alloc (.cells #[.int .i64 s, .int .i64 64] 175))).setCell ⟨w.heap.size + 1, 0, none⟩ (.int .i64 5)).setCell ⟨w.heap.size + 1, 1, none⟩ (.int .i64 (-1))).setCell ⟨w.heap.size + 1, 2, none⟩ (.int .i64 0) = w5 at *
  exact bodyPost_ret (v := plc (5, -1, 0)) (by simp [results, Try.results116, go_sem, k0, k1, k2]) rfl ⟨by rw [HV.out], hk4⟩

theorem where_any (s l r a : Int) (w : World) (hb : a < 9223372036854775808) : Calls Try.prog 116 #[geo s l r, .int .i64 a] w fun e w' => e = .returned (plc (whereV s l r a)) ∧ Kp w w' := by
  by_cases ha : a < 0
  · exact where_neg s l r a w ha
  cases hg : gMay s l r
  · exact where_bad s l r a w ha hg
  have hm := may_bd hg
  by_cases h1 : a < 8
  · exact where_super s l r a w hg ha h1
  by_cases h2 : a - 8 < r
  · exact where_root s l r a w hg (by omega) h2
  by_cases h3 : a - 8 < 8
  · exact where_noroot s l r a w hg h2 h3
  by_cases h4 : a - 8 - 8 < l * 40
  · exact where_lane s l r a w hg (by omega) h4
  by_cases h5 : a - 8 - 8 - l * 40 < s * 8
  · exact where_head s l r a w hg (by omega) h5
  by_cases h6 : a - 8 - 8 - l * 40 - s * 8 < s * 64
  · exact where_heap s l r a w hg (by omega) h6
  · exact where_none s l r a w hg (by omega) h6 hb
set_option maxHeartbeats 2000000 in
set_option maxRecDepth 100000 in
theorem rwhere_bad (s l r a : Int) (w : World) (hg : gMay s l r = false)  : Calls Try.prog 67 #[geo s l r, .int .i64 a] w fun e w' => e = .returned (plc (whereV s l r a)) ∧ Kp w w' := by
  have HV : Hid (whereV s l r a = (5, -1, 0)) := by
    unfold Hid whereV
    rw [if_pos (.inl hg)]
    try (refine Prod.ext ?_ (Prod.ext ?_ ?_) <;> (simp only; try omega))
  have HM := fun W => Lib.hid (rmay_any s l r W)
  have HT := fun W => Lib.hid (rtotal_any s l r W)
  rw [hg] at HM HT
  clear hg
  go_enter Try.func67, Try.ntmps67
  go_wp2_with fail
  refine (HM _).out.mono ?_
  rintro e w1 ⟨rfl, hk⟩
  obtain ⟨g0, g1, g2⟩ := box3 ((Kp.self.alloc _).trans hk)
  obtain ⟨c0, c1, c2⟩ := box3 hk
  obtain ⟨f0, f1, f2⟩ := boxf3 hk
  rw [sq1] at c0 c1 c2 f0 f1 f2
  have HK : Hid (Kp w w1) := ((Kp.self.alloc _).alloc _).trans hk
  clear hk HM
  go_wp2
  obtain ⟨k0, k1, k2, hk4⟩ := set3 (.int .i64 (5)) (.int .i64 (-1)) (.int .i64 (0)) HK.out (Nat.le_succ _) c0 c1 c2
  generalize ((w1.setCell ⟨w.heap.size + 1, 0, none⟩ (.int .i64 (5))).setCell ⟨w.heap.size + 1, 1, none⟩ (.int .i64 (-1))).setCell ⟨w.heap.size + 1, 2, none⟩ (.int .i64 (0)) = w5 at *
  exact bodyPost_ret (v := plc (5, -1, 0)) (by simp [results, Try.results67, go_sem, k0, k1, k2]) rfl ⟨by rw [HV.out], hk4⟩

set_option maxHeartbeats 2000000 in
set_option maxRecDepth 100000 in
theorem rwhere_neg (s l r a : Int) (w : World) (hg : gMay s l r = true) (ha : a < 0) : Calls Try.prog 67 #[geo s l r, .int .i64 a] w fun e w' => e = .returned (plc (whereV s l r a)) ∧ Kp w w' := by
  have HV : Hid (whereV s l r a = (5, -1, 0)) := by
    unfold Hid whereV
    have hm := may_bd hg
    rw [if_pos (.inr ha)]
    try (refine Prod.ext ?_ (Prod.ext ?_ ?_) <;> (simp only; try omega))
  have hm := may_bd hg
  have HM := fun W => Lib.hid (rmay_any s l r W)
  have HT := fun W => Lib.hid (rtotal_any s l r W)
  rw [hg] at HM HT
  simp only [if_true] at HT
  unfold total at HT
  clear hg
  go_enter Try.func67, Try.ntmps67
  go_wp2_with fail
  refine (HM _).out.mono ?_
  rintro e w1 ⟨rfl, hk⟩
  obtain ⟨g0, g1, g2⟩ := box3 ((Kp.self.alloc _).trans hk)
  obtain ⟨c0, c1, c2⟩ := box3 hk
  obtain ⟨f0, f1, f2⟩ := boxf3 hk
  rw [sq1] at c0 c1 c2 f0 f1 f2
  have HK : Hid (Kp w w1) := ((Kp.self.alloc _).alloc _).trans hk
  clear hk HM
  go_wp2
  obtain ⟨k0, k1, k2, hk4⟩ := set3 (.int .i64 (5)) (.int .i64 (-1)) (.int .i64 (0)) HK.out (Nat.le_succ _) c0 c1 c2
  generalize ((w1.setCell ⟨w.heap.size + 1, 0, none⟩ (.int .i64 (5))).setCell ⟨w.heap.size + 1, 1, none⟩ (.int .i64 (-1))).setCell ⟨w.heap.size + 1, 2, none⟩ (.int .i64 (0)) = w5 at *
  exact bodyPost_ret (v := plc (5, -1, 0)) (by simp [results, Try.results67, go_sem, k0, k1, k2]) rfl ⟨by rw [HV.out], hk4⟩

set_option maxHeartbeats 2000000 in
set_option maxRecDepth 100000 in
theorem rwhere_past (s l r a : Int) (w : World) (hg : gMay s l r = true) (ha : ¬ a < 0) (h : a ≥ 16 + 40 * l + 72 * s) : Calls Try.prog 67 #[geo s l r, .int .i64 a] w fun e w' => e = .returned (plc (whereV s l r a)) ∧ Kp w w' := by
  have HV : Hid (whereV s l r a = (5, -1, 0)) := by
    unfold Hid whereV
    have hm := may_bd hg
    rw [if_neg (by rw [hg]; simp; omega), if_neg (by omega), if_neg (by omega), if_neg (by omega), if_neg (by omega), if_neg (by omega), if_neg (by omega)]
    try (refine Prod.ext ?_ (Prod.ext ?_ ?_) <;> (simp only; try omega))
  have hm := may_bd hg
  have HM := fun W => Lib.hid (rmay_any s l r W)
  have HT := fun W => Lib.hid (rtotal_any s l r W)
  rw [hg] at HM HT
  simp only [if_true] at HT
  unfold total at HT
  clear hg
  go_enter Try.func67, Try.ntmps67
  go_wp2_with fail
  refine (HM _).out.mono ?_
  rintro e w1 ⟨rfl, hk⟩
  obtain ⟨g0, g1, g2⟩ := box3 ((Kp.self.alloc _).trans hk)
  obtain ⟨c0, c1, c2⟩ := box3 hk
  obtain ⟨f0, f1, f2⟩ := boxf3 hk
  rw [sq1] at c0 c1 c2 f0 f1 f2
  have HK : Hid (Kp w w1) := ((Kp.self.alloc _).alloc _).trans hk
  clear hk HM
  go_wp2_with fail
  refine (HT _).out.mono ?_
  rintro e w2 ⟨rfl, hk⟩
  have g0 := hk.cell g0
  have g1 := hk.cell g1
  have g2 := hk.cell g2
  have f0 := hk.frozen_ c0 f0
  have f1 := hk.frozen_ c1 f1
  have f2 := hk.frozen_ c2 f2
  have c0 := hk.cell c0
  have c1 := hk.cell c1
  have c2 := hk.cell c2
  have HK2 : Hid (Kp w w2) := Kp.trans HK.out hk
  clear hk HT
  go_wp2
  obtain ⟨k0, k1, k2, hk4⟩ := set3 (.int .i64 (5)) (.int .i64 (-1)) (.int .i64 (0)) HK2.out (Nat.le_succ _) c0 c1 c2
  generalize ((w2.setCell ⟨w.heap.size + 1, 0, none⟩ (.int .i64 (5))).setCell ⟨w.heap.size + 1, 1, none⟩ (.int .i64 (-1))).setCell ⟨w.heap.size + 1, 2, none⟩ (.int .i64 (0)) = w5 at *
  exact bodyPost_ret (v := plc (5, -1, 0)) (by simp [results, Try.results67, go_sem, k0, k1, k2]) rfl ⟨by rw [HV.out], hk4⟩

set_option maxHeartbeats 2000000 in
set_option maxRecDepth 100000 in
theorem rwhere_super (s l r a : Int) (w : World) (hg : gMay s l r = true) (ha : ¬ a < 0) (h : ¬ a ≥ 16 + 40 * l + 72 * s) (h1 : a < 8) : Calls Try.prog 67 #[geo s l r, .int .i64 a] w fun e w' => e = .returned (plc (whereV s l r a)) ∧ Kp w w' := by
  have HV : Hid (whereV s l r a = (0, 0, a)) := by
    unfold Hid whereV
    have hm := may_bd hg
    rw [if_neg (by rw [hg]; simp; omega), if_pos h1]
    try (refine Prod.ext ?_ (Prod.ext ?_ ?_) <;> (simp only; try omega))
  have hm := may_bd hg
  have HM := fun W => Lib.hid (rmay_any s l r W)
  have HT := fun W => Lib.hid (rtotal_any s l r W)
  rw [hg] at HM HT
  simp only [if_true] at HT
  unfold total at HT
  clear hg
  go_enter Try.func67, Try.ntmps67
  go_wp2_with fail
  refine (HM _).out.mono ?_
  rintro e w1 ⟨rfl, hk⟩
  obtain ⟨g0, g1, g2⟩ := box3 ((Kp.self.alloc _).trans hk)
  obtain ⟨c0, c1, c2⟩ := box3 hk
  obtain ⟨f0, f1, f2⟩ := boxf3 hk
  rw [sq1] at c0 c1 c2 f0 f1 f2
  have HK : Hid (Kp w w1) := ((Kp.self.alloc _).alloc _).trans hk
  clear hk HM
  go_wp2_with fail
  refine (HT _).out.mono ?_
  rintro e w2 ⟨rfl, hk⟩
  have g0 := hk.cell g0
  have g1 := hk.cell g1
  have g2 := hk.cell g2
  have f0 := hk.frozen_ c0 f0
  have f1 := hk.frozen_ c1 f1
  have f2 := hk.frozen_ c2 f2
  have c0 := hk.cell c0
  have c1 := hk.cell c1
  have c2 := hk.cell c2
  have HK2 : Hid (Kp w w2) := Kp.trans HK.out hk
  clear hk HT
  go_wp2
  obtain ⟨k0, k1, k2, hk4⟩ := set3 (.int .i64 (0)) (.int .i64 (0)) (.int .i64 (a)) HK2.out (Nat.le_succ _) c0 c1 c2
  generalize ((w2.setCell ⟨w.heap.size + 1, 0, none⟩ (.int .i64 (0))).setCell ⟨w.heap.size + 1, 1, none⟩ (.int .i64 (0))).setCell ⟨w.heap.size + 1, 2, none⟩ (.int .i64 (a)) = w5 at *
  exact bodyPost_ret (v := plc (0, 0, a)) (by simp [results, Try.results67, go_sem, k0, k1, k2]) rfl ⟨by rw [HV.out], hk4⟩

set_option maxHeartbeats 2000000 in
set_option maxRecDepth 100000 in
theorem rwhere_root (s l r a : Int) (w : World) (hg : gMay s l r = true) (ha : ¬ a < 0) (h : ¬ a ≥ 16 + 40 * l + 72 * s) (h1 : ¬ a < 8) (h2 : a < 8 + r) : Calls Try.prog 67 #[geo s l r, .int .i64 a] w fun e w' => e = .returned (plc (whereV s l r a)) ∧ Kp w w' := by
  have HV : Hid (whereV s l r a = (1, a - 8, 0)) := by
    unfold Hid whereV
    have hm := may_bd hg
    rw [if_neg (by rw [hg]; simp; omega), if_neg h1, if_pos h2]
    try (refine Prod.ext ?_ (Prod.ext ?_ ?_) <;> (simp only; try omega))
  have hm := may_bd hg
  have HM := fun W => Lib.hid (rmay_any s l r W)
  have HT := fun W => Lib.hid (rtotal_any s l r W)
  rw [hg] at HM HT
  simp only [if_true] at HT
  unfold total at HT
  clear hg
  go_enter Try.func67, Try.ntmps67
  go_wp2_with fail
  refine (HM _).out.mono ?_
  rintro e w1 ⟨rfl, hk⟩
  obtain ⟨g0, g1, g2⟩ := box3 ((Kp.self.alloc _).trans hk)
  obtain ⟨c0, c1, c2⟩ := box3 hk
  obtain ⟨f0, f1, f2⟩ := boxf3 hk
  rw [sq1] at c0 c1 c2 f0 f1 f2
  have HK : Hid (Kp w w1) := ((Kp.self.alloc _).alloc _).trans hk
  clear hk HM
  go_wp2_with fail
  refine (HT _).out.mono ?_
  rintro e w2 ⟨rfl, hk⟩
  have g0 := hk.cell g0
  have g1 := hk.cell g1
  have g2 := hk.cell g2
  have f0 := hk.frozen_ c0 f0
  have f1 := hk.frozen_ c1 f1
  have f2 := hk.frozen_ c2 f2
  have c0 := hk.cell c0
  have c1 := hk.cell c1
  have c2 := hk.cell c2
  have HK2 : Hid (Kp w w2) := Kp.trans HK.out hk
  clear hk HT
  go_wp2
  obtain ⟨k0, k1, k2, hk4⟩ := set3 (.int .i64 (1)) (.int .i64 (a - 8)) (.int .i64 (0)) HK2.out (Nat.le_succ _) c0 c1 c2
  generalize ((w2.setCell ⟨w.heap.size + 1, 0, none⟩ (.int .i64 (1))).setCell ⟨w.heap.size + 1, 1, none⟩ (.int .i64 (a - 8))).setCell ⟨w.heap.size + 1, 2, none⟩ (.int .i64 (0)) = w5 at *
  exact bodyPost_ret (v := plc (1, a - 8, 0)) (by simp [results, Try.results67, go_sem, k0, k1, k2]) rfl ⟨by rw [HV.out], hk4⟩

set_option maxHeartbeats 2000000 in
set_option maxRecDepth 100000 in
theorem rwhere_noroot (s l r a : Int) (w : World) (hg : gMay s l r = true) (ha : ¬ a < 0) (h : ¬ a ≥ 16 + 40 * l + 72 * s) (h1 : ¬ a < 8) (h2 : ¬ a < 8 + r) (h3 : a < 16) : Calls Try.prog 67 #[geo s l r, .int .i64 a] w fun e w' => e = .returned (plc (whereV s l r a)) ∧ Kp w w' := by
  have HV : Hid (whereV s l r a = (1, -1, a - 8)) := by
    unfold Hid whereV
    have hm := may_bd hg
    rw [if_neg (by rw [hg]; simp; omega), if_neg h1, if_neg h2, if_pos h3]
    try (refine Prod.ext ?_ (Prod.ext ?_ ?_) <;> (simp only; try omega))
  have hm := may_bd hg
  have HM := fun W => Lib.hid (rmay_any s l r W)
  have HT := fun W => Lib.hid (rtotal_any s l r W)
  rw [hg] at HM HT
  simp only [if_true] at HT
  unfold total at HT
  clear hg
  go_enter Try.func67, Try.ntmps67
  go_wp2_with fail
  refine (HM _).out.mono ?_
  rintro e w1 ⟨rfl, hk⟩
  obtain ⟨g0, g1, g2⟩ := box3 ((Kp.self.alloc _).trans hk)
  obtain ⟨c0, c1, c2⟩ := box3 hk
  obtain ⟨f0, f1, f2⟩ := boxf3 hk
  rw [sq1] at c0 c1 c2 f0 f1 f2
  have HK : Hid (Kp w w1) := ((Kp.self.alloc _).alloc _).trans hk
  clear hk HM
  go_wp2_with fail
  refine (HT _).out.mono ?_
  rintro e w2 ⟨rfl, hk⟩
  have g0 := hk.cell g0
  have g1 := hk.cell g1
  have g2 := hk.cell g2
  have f0 := hk.frozen_ c0 f0
  have f1 := hk.frozen_ c1 f1
  have f2 := hk.frozen_ c2 f2
  have c0 := hk.cell c0
  have c1 := hk.cell c1
  have c2 := hk.cell c2
  have HK2 : Hid (Kp w w2) := Kp.trans HK.out hk
  clear hk HT
  go_wp2
  obtain ⟨k0, k1, k2, hk4⟩ := set3 (.int .i64 (1)) (.int .i64 (-1)) (.int .i64 (a - 8)) HK2.out (Nat.le_succ _) c0 c1 c2
  generalize ((w2.setCell ⟨w.heap.size + 1, 0, none⟩ (.int .i64 (1))).setCell ⟨w.heap.size + 1, 1, none⟩ (.int .i64 (-1))).setCell ⟨w.heap.size + 1, 2, none⟩ (.int .i64 (a - 8)) = w5 at *
  exact bodyPost_ret (v := plc (1, -1, a - 8)) (by simp [results, Try.results67, go_sem, k0, k1, k2]) rfl ⟨by rw [HV.out], hk4⟩

set_option maxHeartbeats 2000000 in
set_option maxRecDepth 100000 in
theorem rwhere_lane (s l r a : Int) (w : World) (hg : gMay s l r = true) (ha : ¬ a < 0) (h : ¬ a ≥ 16 + 40 * l + 72 * s) (h1 : ¬ a < 8) (h2 : ¬ a < 8 + r) (h3 : ¬ a < 16) (h4 : a - 16 < 40 * l) : Calls Try.prog 67 #[geo s l r, .int .i64 a] w fun e w' => e = .returned (plc (whereV s l r a)) ∧ Kp w w' := by
  have HV : Hid (whereV s l r a = (2, (a - 16) / 40, (a - 16) % 40)) := by
    unfold Hid whereV
    have hm := may_bd hg
    rw [if_neg (by rw [hg]; simp; omega), if_neg h1, if_neg h2, if_neg h3, if_pos h4]
    try (refine Prod.ext ?_ (Prod.ext ?_ ?_) <;> (simp only; try omega))
  have hm := may_bd hg
  have HM := fun W => Lib.hid (rmay_any s l r W)
  have HT := fun W => Lib.hid (rtotal_any s l r W)
  rw [hg] at HM HT
  simp only [if_true] at HT
  unfold total at HT
  clear hg
  go_enter Try.func67, Try.ntmps67
  go_wp2_with fail
  refine (HM _).out.mono ?_
  rintro e w1 ⟨rfl, hk⟩
  obtain ⟨g0, g1, g2⟩ := box3 ((Kp.self.alloc _).trans hk)
  obtain ⟨c0, c1, c2⟩ := box3 hk
  obtain ⟨f0, f1, f2⟩ := boxf3 hk
  rw [sq1] at c0 c1 c2 f0 f1 f2
  have HK : Hid (Kp w w1) := ((Kp.self.alloc _).alloc _).trans hk
  clear hk HM
  go_wp2_with fail
  refine (HT _).out.mono ?_
  rintro e w2 ⟨rfl, hk⟩
  have g0 := hk.cell g0
  have g1 := hk.cell g1
  have g2 := hk.cell g2
  have f0 := hk.frozen_ c0 f0
  have f1 := hk.frozen_ c1 f1
  have f2 := hk.frozen_ c2 f2
  have c0 := hk.cell c0
  have c1 := hk.cell c1
  have c2 := hk.cell c2
  have HK2 : Hid (Kp w w2) := Kp.trans HK.out hk
  clear hk HT
  go_wp2
  obtain ⟨k0, k1, k2, hk4⟩ := set3 (.int .i64 (2)) (.int .i64 ((a - 16) / 40)) (.int .i64 ((a - 16) % 40)) HK2.out (Nat.le_succ _) c0 c1 c2
  generalize ((w2.setCell ⟨w.heap.size + 1, 0, none⟩ (.int .i64 (2))).setCell ⟨w.heap.size + 1, 1, none⟩ (.int .i64 ((a - 16) / 40))).setCell ⟨w.heap.size + 1, 2, none⟩ (.int .i64 ((a - 16) % 40)) = w5 at *
  exact bodyPost_ret (v := plc (2, (a - 16) / 40, (a - 16) % 40)) (by simp [results, Try.results67, go_sem, k0, k1, k2]) rfl ⟨by rw [HV.out], hk4⟩

set_option maxHeartbeats 2000000 in
set_option maxRecDepth 100000 in
theorem rwhere_head (s l r a : Int) (w : World) (hg : gMay s l r = true) (ha : ¬ a < 0) (h : ¬ a ≥ 16 + 40 * l + 72 * s) (h1 : ¬ a < 8) (h2 : ¬ a < 8 + r) (h3 : ¬ a < 16) (h4 : ¬ a - 16 < 40 * l) (h5 : a - 16 - 40 * l < 8 * s) : Calls Try.prog 67 #[geo s l r, .int .i64 a] w fun e w' => e = .returned (plc (whereV s l r a)) ∧ Kp w w' := by
  have HV : Hid (whereV s l r a = (3, (a - 16 - 40 * l) / 8, (a - 16 - 40 * l) % 8)) := by
    unfold Hid whereV
    have hm := may_bd hg
    rw [if_neg (by rw [hg]; simp; omega), if_neg h1, if_neg h2, if_neg h3, if_neg h4, if_pos h5]
    try (refine Prod.ext ?_ (Prod.ext ?_ ?_) <;> (simp only; try omega))
  have hm := may_bd hg
  have HM := fun W => Lib.hid (rmay_any s l r W)
  have HT := fun W => Lib.hid (rtotal_any s l r W)
  rw [hg] at HM HT
  simp only [if_true] at HT
  unfold total at HT
  clear hg
  go_enter Try.func67, Try.ntmps67
  go_wp2_with fail
  refine (HM _).out.mono ?_
  rintro e w1 ⟨rfl, hk⟩
  obtain ⟨g0, g1, g2⟩ := box3 ((Kp.self.alloc _).trans hk)
  obtain ⟨c0, c1, c2⟩ := box3 hk
  obtain ⟨f0, f1, f2⟩ := boxf3 hk
  rw [sq1] at c0 c1 c2 f0 f1 f2
  have HK : Hid (Kp w w1) := ((Kp.self.alloc _).alloc _).trans hk
  clear hk HM
  go_wp2_with fail
  refine (HT _).out.mono ?_
  rintro e w2 ⟨rfl, hk⟩
  have g0 := hk.cell g0
  have g1 := hk.cell g1
  have g2 := hk.cell g2
  have f0 := hk.frozen_ c0 f0
  have f1 := hk.frozen_ c1 f1
  have f2 := hk.frozen_ c2 f2
  have c0 := hk.cell c0
  have c1 := hk.cell c1
  have c2 := hk.cell c2
  have HK2 : Hid (Kp w w2) := Kp.trans HK.out hk
  clear hk HT
  go_wp2
  obtain ⟨k0, k1, k2, hk4⟩ := set3 (.int .i64 (3)) (.int .i64 ((a - 16 - 40 * l) / 8)) (.int .i64 ((a - 16 - 40 * l) % 8)) HK2.out (Nat.le_succ _) c0 c1 c2
  generalize ((w2.setCell ⟨w.heap.size + 1, 0, none⟩ (.int .i64 (3))).setCell ⟨w.heap.size + 1, 1, none⟩ (.int .i64 ((a - 16 - 40 * l) / 8))).setCell ⟨w.heap.size + 1, 2, none⟩ (.int .i64 ((a - 16 - 40 * l) % 8)) = w5 at *
  exact bodyPost_ret (v := plc (3, (a - 16 - 40 * l) / 8, (a - 16 - 40 * l) % 8)) (by simp [results, Try.results67, go_sem, k0, k1, k2]) rfl ⟨by rw [HV.out], hk4⟩

set_option maxHeartbeats 2000000 in
set_option maxRecDepth 100000 in
theorem rwhere_heap (s l r a : Int) (w : World) (hg : gMay s l r = true) (ha : ¬ a < 0) (h : ¬ a ≥ 16 + 40 * l + 72 * s) (h1 : ¬ a < 8) (h2 : ¬ a < 8 + r) (h3 : ¬ a < 16) (h4 : ¬ a - 16 < 40 * l) (h5 : ¬ a - 16 - 40 * l < 8 * s) : Calls Try.prog 67 #[geo s l r, .int .i64 a] w fun e w' => e = .returned (plc (whereV s l r a)) ∧ Kp w w' := by
  have HV : Hid (whereV s l r a = (4, (a - 16 - 40 * l - 8 * s) / 64, (a - 16 - 40 * l - 8 * s) % 64)) := by
    unfold Hid whereV
    have hm := may_bd hg
    rw [if_neg (by rw [hg]; simp; omega), if_neg h1, if_neg h2, if_neg h3, if_neg h4, if_neg h5, if_pos (by omega)]
    try (refine Prod.ext ?_ (Prod.ext ?_ ?_) <;> (simp only; try omega))
  have hm := may_bd hg
  have HM := fun W => Lib.hid (rmay_any s l r W)
  have HT := fun W => Lib.hid (rtotal_any s l r W)
  rw [hg] at HM HT
  simp only [if_true] at HT
  unfold total at HT
  clear hg
  go_enter Try.func67, Try.ntmps67
  go_wp2_with fail
  refine (HM _).out.mono ?_
  rintro e w1 ⟨rfl, hk⟩
  obtain ⟨g0, g1, g2⟩ := box3 ((Kp.self.alloc _).trans hk)
  obtain ⟨c0, c1, c2⟩ := box3 hk
  obtain ⟨f0, f1, f2⟩ := boxf3 hk
  rw [sq1] at c0 c1 c2 f0 f1 f2
  have HK : Hid (Kp w w1) := ((Kp.self.alloc _).alloc _).trans hk
  clear hk HM
  go_wp2_with fail
  refine (HT _).out.mono ?_
  rintro e w2 ⟨rfl, hk⟩
  have g0 := hk.cell g0
  have g1 := hk.cell g1
  have g2 := hk.cell g2
  have f0 := hk.frozen_ c0 f0
  have f1 := hk.frozen_ c1 f1
  have f2 := hk.frozen_ c2 f2
  have c0 := hk.cell c0
  have c1 := hk.cell c1
  have c2 := hk.cell c2
  have HK2 : Hid (Kp w w2) := Kp.trans HK.out hk
  clear hk HT
  go_wp2
  obtain ⟨k0, k1, k2, hk4⟩ := set3 (.int .i64 (4)) (.int .i64 ((a - 16 - 40 * l - 8 * s) / 64)) (.int .i64 ((a - 16 - 40 * l - 8 * s) % 64)) HK2.out (Nat.le_succ _) c0 c1 c2
  generalize ((w2.setCell ⟨w.heap.size + 1, 0, none⟩ (.int .i64 (4))).setCell ⟨w.heap.size + 1, 1, none⟩ (.int .i64 ((a - 16 - 40 * l - 8 * s) / 64))).setCell ⟨w.heap.size + 1, 2, none⟩ (.int .i64 ((a - 16 - 40 * l - 8 * s) % 64)) = w5 at *
  exact bodyPost_ret (v := plc (4, (a - 16 - 40 * l - 8 * s) / 64, (a - 16 - 40 * l - 8 * s) % 64)) (by simp [results, Try.results67, go_sem, k0, k1, k2]) rfl ⟨by rw [HV.out], hk4⟩

theorem rwhere_any (s l r a : Int) (w : World) : Calls Try.prog 67 #[geo s l r, .int .i64 a] w fun e w' => e = .returned (plc (whereV s l r a)) ∧ Kp w w' := by
  cases hg : gMay s l r
  · exact rwhere_bad s l r a w hg
  by_cases ha : a < 0
  · exact rwhere_neg s l r a w hg ha
  have hm := may_bd hg
  by_cases h : a ≥ 16 + 40 * l + 72 * s
  · exact rwhere_past s l r a w hg ha h
  by_cases h1 : a < 8
  · exact rwhere_super s l r a w hg ha h h1
  by_cases h2 : a < 8 + r
  · exact rwhere_root s l r a w hg ha h h1 h2
  by_cases h3 : a < 16
  · exact rwhere_noroot s l r a w hg ha h h1 h2 h3
  by_cases h4 : a - 16 < 40 * l
  · exact rwhere_lane s l r a w hg ha h h1 h2 h3 h4
  by_cases h5 : a - 16 - 40 * l < 8 * s
  · exact rwhere_head s l r a w hg ha h h1 h2 h3 h4 h5
  · exact rwhere_heap s l r a w hg ha h h1 h2 h3 h4 h5
end Go.Proofs.Ytpmbjlmplfejgaa
