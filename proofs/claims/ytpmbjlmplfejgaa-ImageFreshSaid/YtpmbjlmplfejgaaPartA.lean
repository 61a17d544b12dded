/- Where parts of a region begin: geom.part and its kin, and the references. -/
import Derived.Test.YtpmbjlmplfejgaaSupC
namespace Go.Proofs.Ytpmbjlmplfejgaa
open Go.RowKit
set_option linter.unusedVariables false
set_option linter.unusedSimpArgs false

def laneV (s l r i : Int) : Int := if gMay s l r ∧ 0 ≤ i ∧ i < l then 16 + 40 * i else -1
def headV (s l r i : Int) : Int := if gMay s l r ∧ 0 ≤ i ∧ i < s then 16 + 40 * l + 8 * i else -1
def spanV (s l r i : Int) : Int := if gMay s l r ∧ 0 ≤ i ∧ i < s then 16 + 40 * l + 8 * s + 64 * i else -1
theorem cells10 {w w1 : World} {s l : Int} (h : Kp (w.alloc (.cells #[.int .i64 1, .int .i64 8, .int .i64 1, .int .i64 8, .int .i64 l, .int .i64 40, .int .i64 s, .int .i64 8, .int .i64 s, .int .i64 64] 176)) w1) :
    w1.cell? ⟨w.heap.size, 0, none⟩ = some (.int .i64 1) ∧ w1.cell? ⟨w.heap.size, 1, none⟩ = some (.int .i64 8) ∧ w1.cell? ⟨w.heap.size, 2, none⟩ = some (.int .i64 1) ∧ w1.cell? ⟨w.heap.size, 3, none⟩ = some (.int .i64 8) ∧ w1.cell? ⟨w.heap.size, 4, none⟩ = some (.int .i64 l) ∧ w1.cell? ⟨w.heap.size, 5, none⟩ = some (.int .i64 40) ∧ w1.cell? ⟨w.heap.size, 6, none⟩ = some (.int .i64 s) ∧ w1.cell? ⟨w.heap.size, 7, none⟩ = some (.int .i64 8) ∧ w1.cell? ⟨w.heap.size, 8, none⟩ = some (.int .i64 s) ∧ w1.cell? ⟨w.heap.size, 9, none⟩ = some (.int .i64 64) :=
  ⟨box_cell h 0 rfl, box_cell h 1 rfl, box_cell h 2 rfl, box_cell h 3 rfl, box_cell h 4 rfl, box_cell h 5 rfl, box_cell h 6 rfl, box_cell h 7 rfl, box_cell h 8 rfl, box_cell h 9 rfl⟩

set_option maxHeartbeats 1000000 in
set_option maxRecDepth 100000 in
theorem part2_any (s l r i : Int) (w : World) : Calls Try.prog 163 #[geo s l r, .int .i64 2, .int .i64 i] w fun e w' => e = .returned (.int .i64 (laneV s l r i)) ∧ Kp w w' := by
  by_cases hg : gMay s l r = true
  · have hm := may_bd hg
    have HG := Lib.hid hg
    clear hg
    by_cases hi : i < 0
    · have HV : Hid (laneV s l r i = -1) := by unfold Hid laneV; rw [if_neg (by omega)]
      go_enter Try.func163, Try.ntmps163
      go_wp2_with fail
      refine (areas_any _ _ _ _).mono ?_
      rintro e w1 ⟨rfl, hk1⟩
      obtain ⟨g0, g1, g2⟩ := box3 hk1
      have HK1 := Lib.hid (Kp.trans (Kp.self.alloc _) hk1)
      have a0 : ∀ o, (w1.alloc o).cell? ⟨w.heap.size, 0, none⟩ = some (.int .i64 s) := fun o => (Kp.self.alloc o).cell g0
      have a1 : ∀ o, (w1.alloc o).cell? ⟨w.heap.size, 1, none⟩ = some (.int .i64 l) := fun o => (Kp.self.alloc o).cell g1
      have a2 : ∀ o, (w1.alloc o).cell? ⟨w.heap.size, 2, none⟩ = some (.int .i64 r) := fun o => (Kp.self.alloc o).cell g2
      clear hk1
      dsimp only [areasV]
      go_wp2_with fail
      refine (may_any _ _ _ _).mono ?_
      rw [HG.out]
      rintro e w2 ⟨rfl, hk2⟩
      go_wp2
      go_ret
      exact ⟨by rw [HV.out]; rfl, (HK1.out.trans (Kp.self.alloc _)).trans hk2⟩
    · by_cases hi2 : i ≥ l
      · have HV : Hid (laneV s l r i = -1) := by unfold Hid laneV; rw [if_neg (by omega)]
        go_enter Try.func163, Try.ntmps163
        go_wp2_with fail
        refine (areas_any _ _ _ _).mono ?_
        rintro e w1 ⟨rfl, hk1⟩
        obtain ⟨g0, g1, g2⟩ := box3 hk1
        have HK1 := Lib.hid (Kp.trans (Kp.self.alloc _) hk1)
        have a0 : ∀ o, (w1.alloc o).cell? ⟨w.heap.size, 0, none⟩ = some (.int .i64 s) := fun o => (Kp.self.alloc o).cell g0
        have a1 : ∀ o, (w1.alloc o).cell? ⟨w.heap.size, 1, none⟩ = some (.int .i64 l) := fun o => (Kp.self.alloc o).cell g1
        have a2 : ∀ o, (w1.alloc o).cell? ⟨w.heap.size, 2, none⟩ = some (.int .i64 r) := fun o => (Kp.self.alloc o).cell g2
        clear hk1
        dsimp only [areasV]
        go_wp2_with fail
        refine (may_any _ _ _ _).mono ?_
        rw [HG.out]
        rintro e w2 ⟨rfl, hk2⟩
        obtain ⟨c0, c1, c2, c3, c4, c5, c6, c7, c8, c9⟩ := cells10 hk2
        have HK2 := Lib.hid ((HK1.out.trans (Kp.self.alloc _)).trans hk2)
        clear hk2
        go_wp2
        go_ret
        exact ⟨by rw [HV.out]; rfl, HK2.out⟩
      · have HV : Hid (laneV s l r i = 16 + 40 * i) := by unfold Hid laneV; rw [if_pos ⟨HG.out, by omega, by omega⟩]
        go_enter Try.func163, Try.ntmps163
        go_wp2_with fail
        refine (areas_any _ _ _ _).mono ?_
        rintro e w1 ⟨rfl, hk1⟩
        obtain ⟨g0, g1, g2⟩ := box3 hk1
        have HK1 := Lib.hid (Kp.trans (Kp.self.alloc _) hk1)
        have a0 : ∀ o, (w1.alloc o).cell? ⟨w.heap.size, 0, none⟩ = some (.int .i64 s) := fun o => (Kp.self.alloc o).cell g0
        have a1 : ∀ o, (w1.alloc o).cell? ⟨w.heap.size, 1, none⟩ = some (.int .i64 l) := fun o => (Kp.self.alloc o).cell g1
        have a2 : ∀ o, (w1.alloc o).cell? ⟨w.heap.size, 2, none⟩ = some (.int .i64 r) := fun o => (Kp.self.alloc o).cell g2
        clear hk1
        dsimp only [areasV]
        go_wp2_with fail
        refine (may_any _ _ _ _).mono ?_
        rw [HG.out]
        rintro e w2 ⟨rfl, hk2⟩
        obtain ⟨c0, c1, c2, c3, c4, c5, c6, c7, c8, c9⟩ := cells10 hk2
        have HK2 := Lib.hid ((HK1.out.trans (Kp.self.alloc _)).trans hk2)
        clear hk2
        generalize w1.heap.size = g at *
        have d2 : ∀ o0, (w2.alloc o0).cell? ⟨g, 2, none⟩ = some (.int .i64 1) := fun o0 => (Kp.self.alloc o0).cell c2
        have d3 : ∀ o0, (w2.alloc o0).cell? ⟨g, 3, none⟩ = some (.int .i64 8) := fun o0 => (Kp.self.alloc o0).cell c3
        clear a0 a1 a2 g0 g1 g2
        go_wp2_with fail
        refine wp_loop_rounds 3 ?_
        rw [rounds_succ]
        go_wp2
        rw [rounds_succ]
        go_wp2
        rw [rounds_succ]
        go_wp2
        go_ret
        exact ⟨by rw [HV.out]; exact ret_int (by omega), ((HK2.out.alloc _).alloc _)⟩
  · have HV : Hid (laneV s l r i = -1) := by unfold Hid laneV; rw [if_neg (fun h => hg h.1)]
    have hg' : gMay s l r = false := by simpa using hg
    have HG := Lib.hid hg'
    clear hg hg'
    go_enter Try.func163, Try.ntmps163
    go_wp2_with fail
    refine (areas_any _ _ _ _).mono ?_
    rintro e w1 ⟨rfl, hk1⟩
    obtain ⟨g0, g1, g2⟩ := box3 hk1
    have HK1 := Lib.hid (Kp.trans (Kp.self.alloc _) hk1)
    have a0 : ∀ o, (w1.alloc o).cell? ⟨w.heap.size, 0, none⟩ = some (.int .i64 s) := fun o => (Kp.self.alloc o).cell g0
    have a1 : ∀ o, (w1.alloc o).cell? ⟨w.heap.size, 1, none⟩ = some (.int .i64 l) := fun o => (Kp.self.alloc o).cell g1
    have a2 : ∀ o, (w1.alloc o).cell? ⟨w.heap.size, 2, none⟩ = some (.int .i64 r) := fun o => (Kp.self.alloc o).cell g2
    clear hk1
    dsimp only [areasV]
    go_wp2_with fail
    refine (may_any _ _ _ _).mono ?_
    rw [HG.out]
    rintro e w2 ⟨rfl, hk2⟩
    go_wp2
    go_ret
    exact ⟨by rw [HV.out]; rfl, (HK1.out.trans (Kp.self.alloc _)).trans hk2⟩

set_option maxHeartbeats 1000000 in
set_option maxRecDepth 100000 in
theorem part3_any (s l r i : Int) (w : World) : Calls Try.prog 163 #[geo s l r, .int .i64 3, .int .i64 i] w fun e w' => e = .returned (.int .i64 (headV s l r i)) ∧ Kp w w' := by
  by_cases hg : gMay s l r = true
  · have hm := may_bd hg
    have HG := Lib.hid hg
    clear hg
    by_cases hi : i < 0
    · have HV : Hid (headV s l r i = -1) := by unfold Hid headV; rw [if_neg (by omega)]
      go_enter Try.func163, Try.ntmps163
      go_wp2_with fail
      refine (areas_any _ _ _ _).mono ?_
      rintro e w1 ⟨rfl, hk1⟩
      obtain ⟨g0, g1, g2⟩ := box3 hk1
      have HK1 := Lib.hid (Kp.trans (Kp.self.alloc _) hk1)
      have a0 : ∀ o, (w1.alloc o).cell? ⟨w.heap.size, 0, none⟩ = some (.int .i64 s) := fun o => (Kp.self.alloc o).cell g0
      have a1 : ∀ o, (w1.alloc o).cell? ⟨w.heap.size, 1, none⟩ = some (.int .i64 l) := fun o => (Kp.self.alloc o).cell g1
      have a2 : ∀ o, (w1.alloc o).cell? ⟨w.heap.size, 2, none⟩ = some (.int .i64 r) := fun o => (Kp.self.alloc o).cell g2
      clear hk1
      dsimp only [areasV]
      go_wp2_with fail
      refine (may_any _ _ _ _).mono ?_
      rw [HG.out]
      rintro e w2 ⟨rfl, hk2⟩
      go_wp2
      go_ret
      exact ⟨by rw [HV.out]; rfl, (HK1.out.trans (Kp.self.alloc _)).trans hk2⟩
    · by_cases hi2 : i ≥ s
      · have HV : Hid (headV s l r i = -1) := by unfold Hid headV; rw [if_neg (by omega)]
        go_enter Try.func163, Try.ntmps163
        go_wp2_with fail
        refine (areas_any _ _ _ _).mono ?_
        rintro e w1 ⟨rfl, hk1⟩
        obtain ⟨g0, g1, g2⟩ := box3 hk1
        have HK1 := Lib.hid (Kp.trans (Kp.self.alloc _) hk1)
        have a0 : ∀ o, (w1.alloc o).cell? ⟨w.heap.size, 0, none⟩ = some (.int .i64 s) := fun o => (Kp.self.alloc o).cell g0
        have a1 : ∀ o, (w1.alloc o).cell? ⟨w.heap.size, 1, none⟩ = some (.int .i64 l) := fun o => (Kp.self.alloc o).cell g1
        have a2 : ∀ o, (w1.alloc o).cell? ⟨w.heap.size, 2, none⟩ = some (.int .i64 r) := fun o => (Kp.self.alloc o).cell g2
        clear hk1
        dsimp only [areasV]
        go_wp2_with fail
        refine (may_any _ _ _ _).mono ?_
        rw [HG.out]
        rintro e w2 ⟨rfl, hk2⟩
        obtain ⟨c0, c1, c2, c3, c4, c5, c6, c7, c8, c9⟩ := cells10 hk2
        have HK2 := Lib.hid ((HK1.out.trans (Kp.self.alloc _)).trans hk2)
        clear hk2
        go_wp2
        go_ret
        exact ⟨by rw [HV.out]; rfl, HK2.out⟩
      · have HV : Hid (headV s l r i = 16 + 40 * l + 8 * i) := by unfold Hid headV; rw [if_pos ⟨HG.out, by omega, by omega⟩]
        go_enter Try.func163, Try.ntmps163
        go_wp2_with fail
        refine (areas_any _ _ _ _).mono ?_
        rintro e w1 ⟨rfl, hk1⟩
        obtain ⟨g0, g1, g2⟩ := box3 hk1
        have HK1 := Lib.hid (Kp.trans (Kp.self.alloc _) hk1)
        have a0 : ∀ o, (w1.alloc o).cell? ⟨w.heap.size, 0, none⟩ = some (.int .i64 s) := fun o => (Kp.self.alloc o).cell g0
        have a1 : ∀ o, (w1.alloc o).cell? ⟨w.heap.size, 1, none⟩ = some (.int .i64 l) := fun o => (Kp.self.alloc o).cell g1
        have a2 : ∀ o, (w1.alloc o).cell? ⟨w.heap.size, 2, none⟩ = some (.int .i64 r) := fun o => (Kp.self.alloc o).cell g2
        clear hk1
        dsimp only [areasV]
        go_wp2_with fail
        refine (may_any _ _ _ _).mono ?_
        rw [HG.out]
        rintro e w2 ⟨rfl, hk2⟩
        obtain ⟨c0, c1, c2, c3, c4, c5, c6, c7, c8, c9⟩ := cells10 hk2
        have HK2 := Lib.hid ((HK1.out.trans (Kp.self.alloc _)).trans hk2)
        clear hk2
        generalize w1.heap.size = g at *
        have d2 : ∀ o0, (w2.alloc o0).cell? ⟨g, 2, none⟩ = some (.int .i64 1) := fun o0 => (Kp.self.alloc o0).cell c2
        have d3 : ∀ o0, (w2.alloc o0).cell? ⟨g, 3, none⟩ = some (.int .i64 8) := fun o0 => (Kp.self.alloc o0).cell c3
        have d4 : ∀ o0 o1, ((w2.alloc o0).alloc o1).cell? ⟨g, 4, none⟩ = some (.int .i64 l) := fun o0 o1 => ((Kp.self.alloc o0).alloc o1).cell c4
        have d5 : ∀ o0 o1, ((w2.alloc o0).alloc o1).cell? ⟨g, 5, none⟩ = some (.int .i64 40) := fun o0 o1 => ((Kp.self.alloc o0).alloc o1).cell c5
        clear a0 a1 a2 g0 g1 g2
        go_wp2_with fail
        refine wp_loop_rounds 4 ?_
        rw [rounds_succ]
        go_wp2
        rw [rounds_succ]
        go_wp2
        rw [rounds_succ]
        go_wp2
        rw [rounds_succ]
        go_wp2
        go_ret
        exact ⟨by rw [HV.out]; exact ret_int (by omega), (((HK2.out.alloc _).alloc _).alloc _)⟩
  · have HV : Hid (headV s l r i = -1) := by unfold Hid headV; rw [if_neg (fun h => hg h.1)]
    have hg' : gMay s l r = false := by simpa using hg
    have HG := Lib.hid hg'
    clear hg hg'
    go_enter Try.func163, Try.ntmps163
    go_wp2_with fail
    refine (areas_any _ _ _ _).mono ?_
    rintro e w1 ⟨rfl, hk1⟩
    obtain ⟨g0, g1, g2⟩ := box3 hk1
    have HK1 := Lib.hid (Kp.trans (Kp.self.alloc _) hk1)
    have a0 : ∀ o, (w1.alloc o).cell? ⟨w.heap.size, 0, none⟩ = some (.int .i64 s) := fun o => (Kp.self.alloc o).cell g0
    have a1 : ∀ o, (w1.alloc o).cell? ⟨w.heap.size, 1, none⟩ = some (.int .i64 l) := fun o => (Kp.self.alloc o).cell g1
    have a2 : ∀ o, (w1.alloc o).cell? ⟨w.heap.size, 2, none⟩ = some (.int .i64 r) := fun o => (Kp.self.alloc o).cell g2
    clear hk1
    dsimp only [areasV]
    go_wp2_with fail
    refine (may_any _ _ _ _).mono ?_
    rw [HG.out]
    rintro e w2 ⟨rfl, hk2⟩
    go_wp2
    go_ret
    exact ⟨by rw [HV.out]; rfl, (HK1.out.trans (Kp.self.alloc _)).trans hk2⟩

set_option maxHeartbeats 1000000 in
set_option maxRecDepth 100000 in
theorem part4_any (s l r i : Int) (w : World) : Calls Try.prog 163 #[geo s l r, .int .i64 4, .int .i64 i] w fun e w' => e = .returned (.int .i64 (spanV s l r i)) ∧ Kp w w' := by
  by_cases hg : gMay s l r = true
  · have hm := may_bd hg
    have HG := Lib.hid hg
    clear hg
    by_cases hi : i < 0
    · have HV : Hid (spanV s l r i = -1) := by unfold Hid spanV; rw [if_neg (by omega)]
      go_enter Try.func163, Try.ntmps163
      go_wp2_with fail
      refine (areas_any _ _ _ _).mono ?_
      rintro e w1 ⟨rfl, hk1⟩
      obtain ⟨g0, g1, g2⟩ := box3 hk1
      have HK1 := Lib.hid (Kp.trans (Kp.self.alloc _) hk1)
      have a0 : ∀ o, (w1.alloc o).cell? ⟨w.heap.size, 0, none⟩ = some (.int .i64 s) := fun o => (Kp.self.alloc o).cell g0
      have a1 : ∀ o, (w1.alloc o).cell? ⟨w.heap.size, 1, none⟩ = some (.int .i64 l) := fun o => (Kp.self.alloc o).cell g1
      have a2 : ∀ o, (w1.alloc o).cell? ⟨w.heap.size, 2, none⟩ = some (.int .i64 r) := fun o => (Kp.self.alloc o).cell g2
      clear hk1
      dsimp only [areasV]
      go_wp2_with fail
      refine (may_any _ _ _ _).mono ?_
      rw [HG.out]
      rintro e w2 ⟨rfl, hk2⟩
      go_wp2
      go_ret
      exact ⟨by rw [HV.out]; rfl, (HK1.out.trans (Kp.self.alloc _)).trans hk2⟩
    · by_cases hi2 : i ≥ s
      · have HV : Hid (spanV s l r i = -1) := by unfold Hid spanV; rw [if_neg (by omega)]
        go_enter Try.func163, Try.ntmps163
        go_wp2_with fail
        refine (areas_any _ _ _ _).mono ?_
        rintro e w1 ⟨rfl, hk1⟩
        obtain ⟨g0, g1, g2⟩ := box3 hk1
        have HK1 := Lib.hid (Kp.trans (Kp.self.alloc _) hk1)
        have a0 : ∀ o, (w1.alloc o).cell? ⟨w.heap.size, 0, none⟩ = some (.int .i64 s) := fun o => (Kp.self.alloc o).cell g0
        have a1 : ∀ o, (w1.alloc o).cell? ⟨w.heap.size, 1, none⟩ = some (.int .i64 l) := fun o => (Kp.self.alloc o).cell g1
        have a2 : ∀ o, (w1.alloc o).cell? ⟨w.heap.size, 2, none⟩ = some (.int .i64 r) := fun o => (Kp.self.alloc o).cell g2
        clear hk1
        dsimp only [areasV]
        go_wp2_with fail
        refine (may_any _ _ _ _).mono ?_
        rw [HG.out]
        rintro e w2 ⟨rfl, hk2⟩
        obtain ⟨c0, c1, c2, c3, c4, c5, c6, c7, c8, c9⟩ := cells10 hk2
        have HK2 := Lib.hid ((HK1.out.trans (Kp.self.alloc _)).trans hk2)
        clear hk2
        go_wp2
        go_ret
        exact ⟨by rw [HV.out]; rfl, HK2.out⟩
      · have HV : Hid (spanV s l r i = 16 + 40 * l + 8 * s + 64 * i) := by unfold Hid spanV; rw [if_pos ⟨HG.out, by omega, by omega⟩]
        go_enter Try.func163, Try.ntmps163
        go_wp2_with fail
        refine (areas_any _ _ _ _).mono ?_
        rintro e w1 ⟨rfl, hk1⟩
        obtain ⟨g0, g1, g2⟩ := box3 hk1
        have HK1 := Lib.hid (Kp.trans (Kp.self.alloc _) hk1)
        have a0 : ∀ o, (w1.alloc o).cell? ⟨w.heap.size, 0, none⟩ = some (.int .i64 s) := fun o => (Kp.self.alloc o).cell g0
        have a1 : ∀ o, (w1.alloc o).cell? ⟨w.heap.size, 1, none⟩ = some (.int .i64 l) := fun o => (Kp.self.alloc o).cell g1
        have a2 : ∀ o, (w1.alloc o).cell? ⟨w.heap.size, 2, none⟩ = some (.int .i64 r) := fun o => (Kp.self.alloc o).cell g2
        clear hk1
        dsimp only [areasV]
        go_wp2_with fail
        refine (may_any _ _ _ _).mono ?_
        rw [HG.out]
        rintro e w2 ⟨rfl, hk2⟩
        obtain ⟨c0, c1, c2, c3, c4, c5, c6, c7, c8, c9⟩ := cells10 hk2
        have HK2 := Lib.hid ((HK1.out.trans (Kp.self.alloc _)).trans hk2)
        clear hk2
        generalize w1.heap.size = g at *
        have d2 : ∀ o0, (w2.alloc o0).cell? ⟨g, 2, none⟩ = some (.int .i64 1) := fun o0 => (Kp.self.alloc o0).cell c2
        have d3 : ∀ o0, (w2.alloc o0).cell? ⟨g, 3, none⟩ = some (.int .i64 8) := fun o0 => (Kp.self.alloc o0).cell c3
        have d4 : ∀ o0 o1, ((w2.alloc o0).alloc o1).cell? ⟨g, 4, none⟩ = some (.int .i64 l) := fun o0 o1 => ((Kp.self.alloc o0).alloc o1).cell c4
        have d5 : ∀ o0 o1, ((w2.alloc o0).alloc o1).cell? ⟨g, 5, none⟩ = some (.int .i64 40) := fun o0 o1 => ((Kp.self.alloc o0).alloc o1).cell c5
        have d6 : ∀ o0 o1 o2, (((w2.alloc o0).alloc o1).alloc o2).cell? ⟨g, 6, none⟩ = some (.int .i64 s) := fun o0 o1 o2 => (((Kp.self.alloc o0).alloc o1).alloc o2).cell c6
        have d7 : ∀ o0 o1 o2, (((w2.alloc o0).alloc o1).alloc o2).cell? ⟨g, 7, none⟩ = some (.int .i64 8) := fun o0 o1 o2 => (((Kp.self.alloc o0).alloc o1).alloc o2).cell c7
        clear a0 a1 a2 g0 g1 g2
        go_wp2_with fail
        refine wp_loop_rounds 5 ?_
        rw [rounds_succ]
        go_wp2
        rw [rounds_succ]
        go_wp2
        rw [rounds_succ]
        go_wp2
        rw [rounds_succ]
        go_wp2
        rw [rounds_succ]
        go_wp2
        go_ret
        exact ⟨by rw [HV.out]; exact ret_int (by omega), ((((HK2.out.alloc _).alloc _).alloc _).alloc _)⟩
  · have HV : Hid (spanV s l r i = -1) := by unfold Hid spanV; rw [if_neg (fun h => hg h.1)]
    have hg' : gMay s l r = false := by simpa using hg
    have HG := Lib.hid hg'
    clear hg hg'
    go_enter Try.func163, Try.ntmps163
    go_wp2_with fail
    refine (areas_any _ _ _ _).mono ?_
    rintro e w1 ⟨rfl, hk1⟩
    obtain ⟨g0, g1, g2⟩ := box3 hk1
    have HK1 := Lib.hid (Kp.trans (Kp.self.alloc _) hk1)
    have a0 : ∀ o, (w1.alloc o).cell? ⟨w.heap.size, 0, none⟩ = some (.int .i64 s) := fun o => (Kp.self.alloc o).cell g0
    have a1 : ∀ o, (w1.alloc o).cell? ⟨w.heap.size, 1, none⟩ = some (.int .i64 l) := fun o => (Kp.self.alloc o).cell g1
    have a2 : ∀ o, (w1.alloc o).cell? ⟨w.heap.size, 2, none⟩ = some (.int .i64 r) := fun o => (Kp.self.alloc o).cell g2
    clear hk1
    dsimp only [areasV]
    go_wp2_with fail
    refine (may_any _ _ _ _).mono ?_
    rw [HG.out]
    rintro e w2 ⟨rfl, hk2⟩
    go_wp2
    go_ret
    exact ⟨by rw [HV.out]; rfl, (HK1.out.trans (Kp.self.alloc _)).trans hk2⟩

theorem laneV_any (s l r i : Int) (w : World) : Calls Try.prog 124 #[geo s l r, .int .i64 i] w fun e w' => e = .returned (.int .i64 (laneV s l r i)) ∧ Kp w w' := by
  go_enter Try.func124, Try.ntmps124
  go_wp2_with fail
  refine (part2_any s l r i _).mono ?_
  rintro e w1 ⟨rfl, hk1⟩
  go_wp2
  go_ret
  exact ⟨rfl, (Kp.self.alloc _).trans hk1⟩

theorem headV_any (s l r i : Int) (w : World) : Calls Try.prog 168 #[geo s l r, .int .i64 i] w fun e w' => e = .returned (.int .i64 (headV s l r i)) ∧ Kp w w' := by
  go_enter Try.func168, Try.ntmps168
  go_wp2_with fail
  refine (part3_any s l r i _).mono ?_
  rintro e w1 ⟨rfl, hk1⟩
  go_wp2
  go_ret
  exact ⟨rfl, (Kp.self.alloc _).trans hk1⟩

theorem spanV_any (s l r i : Int) (w : World) : Calls Try.prog 120 #[geo s l r, .int .i64 i] w fun e w' => e = .returned (.int .i64 (spanV s l r i)) ∧ Kp w w' := by
  go_enter Try.func120, Try.ntmps120
  go_wp2_with fail
  refine (part4_any s l r i _).mono ?_
  rintro e w1 ⟨rfl, hk1⟩
  go_wp2
  go_ret
  exact ⟨rfl, (Kp.self.alloc _).trans hk1⟩

set_option maxHeartbeats 1000000 in
theorem rlaneV_any (s l r i : Int) (w : World) : Calls Try.prog 125 #[geo s l r, .int .i64 i] w fun e w' => e = .returned (.int .i64 (laneV s l r i)) ∧ Kp w w' := by
  have HM := fun W => Lib.hid (rmay_any s l r W)
  by_cases hg : gMay s l r = true
  · have hm := may_bd hg
    have HG := Lib.hid hg
    clear hg
    rw [HG.out] at HM
    by_cases hi : i < 0
    · have HV : Hid (laneV s l r i = -1) := by unfold Hid laneV; rw [if_neg (by omega)]
      go_enter Try.func125, Try.ntmps125
      go_wp2_with fail
      refine (HM _).out.mono ?_
      rintro e w1 ⟨rfl, hk1⟩
      obtain ⟨g0, g1, g2⟩ := box3 hk1
      go_wp2
      go_ret
      exact ⟨by rw [HV.out]; rfl, (Kp.self.alloc _).trans hk1⟩
    · by_cases hi2 : i ≥ l
      · have HV : Hid (laneV s l r i = -1) := by unfold Hid laneV; rw [if_neg (by omega)]
        go_enter Try.func125, Try.ntmps125
        go_wp2_with fail
        refine (HM _).out.mono ?_
        rintro e w1 ⟨rfl, hk1⟩
        obtain ⟨g0, g1, g2⟩ := box3 hk1
        go_wp2
        go_ret
        exact ⟨by rw [HV.out]; rfl, (Kp.self.alloc _).trans hk1⟩
      · have HV : Hid (laneV s l r i = 16 + 40 * i) := by unfold Hid laneV; rw [if_pos ⟨HG.out, by omega, by omega⟩]
        go_enter Try.func125, Try.ntmps125
        go_wp2_with fail
        refine (HM _).out.mono ?_
        rintro e w1 ⟨rfl, hk1⟩
        obtain ⟨g0, g1, g2⟩ := box3 hk1
        go_wp2
        go_ret
        exact ⟨by rw [HV.out]; rfl, (Kp.self.alloc _).trans hk1⟩
  · have HV : Hid (laneV s l r i = -1) := by unfold Hid laneV; rw [if_neg (fun h => hg h.1)]
    have hg' : gMay s l r = false := by simpa using hg
    rw [hg'] at HM
    clear hg hg'
    go_enter Try.func125, Try.ntmps125
    go_wp2_with fail
    refine (HM _).out.mono ?_
    rintro e w1 ⟨rfl, hk1⟩
    obtain ⟨g0, g1, g2⟩ := box3 hk1
    go_wp2
    go_ret
    exact ⟨by rw [HV.out]; rfl, (Kp.self.alloc _).trans hk1⟩

set_option maxHeartbeats 1000000 in
theorem rheadV_any (s l r i : Int) (w : World) : Calls Try.prog 78 #[geo s l r, .int .i64 i] w fun e w' => e = .returned (.int .i64 (headV s l r i)) ∧ Kp w w' := by
  have HM := fun W => Lib.hid (rmay_any s l r W)
  by_cases hg : gMay s l r = true
  · have hm := may_bd hg
    have HG := Lib.hid hg
    clear hg
    rw [HG.out] at HM
    by_cases hi : i < 0
    · have HV : Hid (headV s l r i = -1) := by unfold Hid headV; rw [if_neg (by omega)]
      go_enter Try.func78, Try.ntmps78
      go_wp2_with fail
      refine (HM _).out.mono ?_
      rintro e w1 ⟨rfl, hk1⟩
      obtain ⟨g0, g1, g2⟩ := box3 hk1
      go_wp2
      go_ret
      exact ⟨by rw [HV.out]; rfl, (Kp.self.alloc _).trans hk1⟩
    · by_cases hi2 : i ≥ s
      · have HV : Hid (headV s l r i = -1) := by unfold Hid headV; rw [if_neg (by omega)]
        go_enter Try.func78, Try.ntmps78
        go_wp2_with fail
        refine (HM _).out.mono ?_
        rintro e w1 ⟨rfl, hk1⟩
        obtain ⟨g0, g1, g2⟩ := box3 hk1
        go_wp2
        go_ret
        exact ⟨by rw [HV.out]; rfl, (Kp.self.alloc _).trans hk1⟩
      · have HV : Hid (headV s l r i = 16 + 40 * l + 8 * i) := by unfold Hid headV; rw [if_pos ⟨HG.out, by omega, by omega⟩]
        go_enter Try.func78, Try.ntmps78
        go_wp2_with fail
        refine (HM _).out.mono ?_
        rintro e w1 ⟨rfl, hk1⟩
        obtain ⟨g0, g1, g2⟩ := box3 hk1
        go_wp2
        go_ret
        exact ⟨by rw [HV.out]; rfl, (Kp.self.alloc _).trans hk1⟩
  · have HV : Hid (headV s l r i = -1) := by unfold Hid headV; rw [if_neg (fun h => hg h.1)]
    have hg' : gMay s l r = false := by simpa using hg
    rw [hg'] at HM
    clear hg hg'
    go_enter Try.func78, Try.ntmps78
    go_wp2_with fail
    refine (HM _).out.mono ?_
    rintro e w1 ⟨rfl, hk1⟩
    obtain ⟨g0, g1, g2⟩ := box3 hk1
    go_wp2
    go_ret
    exact ⟨by rw [HV.out]; rfl, (Kp.self.alloc _).trans hk1⟩

set_option maxHeartbeats 1000000 in
theorem rspanV_any (s l r i : Int) (w : World) : Calls Try.prog 93 #[geo s l r, .int .i64 i] w fun e w' => e = .returned (.int .i64 (spanV s l r i)) ∧ Kp w w' := by
  have HM := fun W => Lib.hid (rmay_any s l r W)
  by_cases hg : gMay s l r = true
  · have hm := may_bd hg
    have HG := Lib.hid hg
    clear hg
    rw [HG.out] at HM
    by_cases hi : i < 0
    · have HV : Hid (spanV s l r i = -1) := by unfold Hid spanV; rw [if_neg (by omega)]
      go_enter Try.func93, Try.ntmps93
      go_wp2_with fail
      refine (HM _).out.mono ?_
      rintro e w1 ⟨rfl, hk1⟩
      obtain ⟨g0, g1, g2⟩ := box3 hk1
      go_wp2
      go_ret
      exact ⟨by rw [HV.out]; rfl, (Kp.self.alloc _).trans hk1⟩
    · by_cases hi2 : i ≥ s
      · have HV : Hid (spanV s l r i = -1) := by unfold Hid spanV; rw [if_neg (by omega)]
        go_enter Try.func93, Try.ntmps93
        go_wp2_with fail
        refine (HM _).out.mono ?_
        rintro e w1 ⟨rfl, hk1⟩
        obtain ⟨g0, g1, g2⟩ := box3 hk1
        go_wp2
        go_ret
        exact ⟨by rw [HV.out]; rfl, (Kp.self.alloc _).trans hk1⟩
      · have HV : Hid (spanV s l r i = 16 + 40 * l + 8 * s + 64 * i) := by unfold Hid spanV; rw [if_pos ⟨HG.out, by omega, by omega⟩]
        go_enter Try.func93, Try.ntmps93
        go_wp2_with fail
        refine (HM _).out.mono ?_
        rintro e w1 ⟨rfl, hk1⟩
        obtain ⟨g0, g1, g2⟩ := box3 hk1
        go_wp2
        go_ret
        exact ⟨by rw [HV.out]; rfl, (Kp.self.alloc _).trans hk1⟩
  · have HV : Hid (spanV s l r i = -1) := by unfold Hid spanV; rw [if_neg (fun h => hg h.1)]
    have hg' : gMay s l r = false := by simpa using hg
    rw [hg'] at HM
    clear hg hg'
    go_enter Try.func93, Try.ntmps93
    go_wp2_with fail
    refine (HM _).out.mono ?_
    rintro e w1 ⟨rfl, hk1⟩
    obtain ⟨g0, g1, g2⟩ := box3 hk1
    go_wp2
    go_ret
    exact ⟨by rw [HV.out]; rfl, (Kp.self.alloc _).trans hk1⟩
end Go.Proofs.Ytpmbjlmplfejgaa
