/- The examples of addresses; the law AddrSpots, as a walk. -/
import Derived.Test.YtpmbjlmplfejgaaAddrJ
namespace Go.Proofs.Ytpmbjlmplfejgaa
open Go.RowKit
set_option linter.unusedVariables false
set_option linter.unusedSimpArgs false

theorem aall_any (s l r : Int) (A : Option Addr) (n c : Nat) (hs : List Hd) (w : World) (hr : RdH w A n hs) (hc : n ≤ c) (hcm : c ≤ maxLen) (hn : n ≤ 40) :
    Calls Try.prog 61 #[geo s l r, .slice A n c] w fun e W' => ∃ v, e = .returned v ∧ OwnI W' w.heap.size 3 .i64 v (begins s l r hs n) ∧ Kp w W' :=
  callsIn_wide.1 (all_in 3 (Nat.le_refl _) s l r A n c hs w hr hc hcm hn)
theorem within_call (s l r : Int) (A : Option Addr) (n c : Nat) (hs : List Hd) (a : Int) (w : World) (hr : RdH w A n hs) (hc : n ≤ c) (hcm : c ≤ maxLen) :
    Calls Try.prog 62 #[geo s l r, .slice A n c, .int .i64 a] w fun e W' => ∃ k, e = .returned (.int .i64 k) ∧ WithinP (yL s l r hs n) a k ∧ Kp w W' :=
  callsIn_wide.1 (within_in 3 (Nat.le_refl _) s l r A n c hs a w hr hc hcm)
theorem rdH_one {w w1 : World} {e : TypeId} {k c n : Int} {fr : Nat × Nat} (h : Kp (w.alloc (.cells #[.int .i64 k, .int .i64 c, .int .i64 n] e fr)) w1) :
    RdH w1 (some ⟨w.heap.size, 0, none⟩) 1 [(k, c, n)] := by
  refine ⟨rfl, by omega, fun _ => ⟨_, rfl, fun j hj => ?_⟩⟩
  obtain rfl : j = 0 := by omega
  rw [add0]
  exact ⟨box_cell h 0 rfl, box_cell h 1 rfl, box_cell h 2 rfl⟩
theorem exSpot : spotV 1 1 1 [(1, 2, 0)] 72 = some (0, 1, 8) := by decide +kernel
theorem exAll : begins 1 1 1 [(1, 2, 0)] 1 = [64, 72, 80, 88, 96, 104, 112, 120] := by decide +kernel
theorem exY : yL 1 1 1 [(1, 2, 0)] 1 = [(64, 72), (72, 80), (80, 88), (88, 96), (96, 104), (104, 112), (112, 120), (120, 128)] := by decide +kernel
theorem exWithin {k : Int} (h : WithinP (yL 1 1 1 [(1, 2, 0)] 1) 75 k) : k = 72 := by
  rw [exY] at h
  rcases h with ⟨_, h⟩ | ⟨pre, x, hp, hpre, hx, rfl⟩
  · exact absurd (show hitB 75 (72, 80) by unfold hitB; omega) (h (72, 80) (by simp))
  · have hm : x ∈ [((64 : Int), (72 : Int)), (72, 80), (80, 88), (88, 96), (96, 104), (104, 112), (112, 120), (120, 128)] := hp.subset (by simp)
    unfold hitB at hx
    simp only [List.mem_cons, List.not_mem_nil, or_false] at hm
    rcases hm with rfl | rfl | rfl | rfl | rfl | rfl | rfl | rfl <;> simp only at hx ⊢ <;> omega

theorem spotR_some (p : Int × Int × Int) : spotR (some p) = .tuple #[spt p, .bool true] := rfl
theorem spotR_none : spotR none = .tuple #[spt (0, 0, 0), .bool false] := rfl
set_option maxHeartbeats 2000000 in
set_option maxRecDepth 100000 in
theorem alive11 (w : World) : Calls Try.prog 54 #[] w fun e w' => e = .returned (.bool true) ∧ Kp w w' := by
  have HE := Lib.hid exSpot
  have HA := Lib.hid exAll
  go_enter Try.func54, Try.ntmps54
  go_wp2_with fail
  have hr : RdH (w.alloc (.cells #[.int .i64 1, .int .i64 2, .int .i64 0] 42)) (some ⟨w.heap.size, 0, none⟩) 1 [(1, 2, 0)] := rdH_one Kp.self
  have HR : Hid (RdH ((w.alloc (.cells #[.int .i64 1, .int .i64 2, .int .i64 0] 42)).alloc (.cells #[.int .i64 1, .int .i64 1, .int .i64 1] 38)) (some ⟨w.heap.size, 0, none⟩) 1 [(1, 2, 0)]) := hr.kp (Kp.self.alloc _)
  obtain ⟨g0, g1, g2⟩ := box3 (Kp.self (w := (w.alloc (.cells #[.int .i64 1, .int .i64 2, .int .i64 0] 42)).alloc (.cells #[.int .i64 1, .int .i64 1, .int .i64 1] 38)))
  have HK : Hid (Kp w ((w.alloc (.cells #[.int .i64 1, .int .i64 2, .int .i64 0] 42)).alloc (.cells #[.int .i64 1, .int .i64 1, .int .i64 1] 38))) := (Kp.self.alloc _).alloc _
  rw [sq1] at g0 g1 g2
  clear hr
  generalize (w.alloc (.cells #[.int .i64 1, .int .i64 2, .int .i64 0] 42)).alloc (.cells #[.int .i64 1, .int .i64 1, .int .i64 1] 38) = w1 at *
  refine (spot_any 1 1 1 _ 1 1 _ 72 _ HR.out (Nat.le_refl _) (by simp only [maxLen]; omega) (by omega)).mono ?_
  rw [HE.out, spotR_some]
  rintro e w2 ⟨rfl, hk2⟩
  dsimp only [spt]
  have g0 := hk2.cell g0
  have g1 := hk2.cell g1
  have g2 := hk2.cell g2
  have HK2 : Hid (Kp w w2) := HK.out.trans hk2
  have HR2 := Lib.hid (HR.out.kp hk2)
  clear hk2 HK HR
  obtain ⟨p0, p1, p2⟩ := box3 (Kp.self (w := w2.alloc (.cells #[.int .i64 0, .int .i64 1, .int .i64 8] 78)))
  have hkb : Kp w2 (w2.alloc (.cells #[.int .i64 0, .int .i64 1, .int .i64 8] 78)) := Kp.self.alloc _
  have g0 := hkb.cell g0
  have g1 := hkb.cell g1
  have g2 := hkb.cell g2
  have HK3 : Hid (Kp w (w2.alloc (.cells #[.int .i64 0, .int .i64 1, .int .i64 8] 78))) := HK2.out.trans hkb
  have HR3 := Lib.hid (HR2.out.kp hkb)
  clear hkb HK2 HR2
  go_wp2_with fail
  generalize w2.alloc (.cells #[.int .i64 0, .int .i64 1, .int .i64 8] 78) = w3 at *
  generalize w2.heap.size = gs at *
  refine (aall_any 1 1 1 _ 1 1 _ _ HR3.out (Nat.le_refl _) (by simp only [maxLen]; omega) (by omega)).mono ?_
  rw [HA.out]
  rintro e w4 ⟨v, rfl, hown, hk4⟩
  have hown : w4.ownsRow w3.heap.size 3 1 v 8 (nums .i64 [64, 72, 80, 88, 96, 104, 112, 120]) := hown
  obtain ⟨g, cap, rfl, hb, hg⟩ := hown.form (by decide)
  have h0 : w4.cell? ⟨g, 0, none⟩ = some (.int .i64 64) := own_get hown 0 (by decide)
  have h7 : w4.cell? ⟨g, 7, none⟩ = some (.int .i64 120) := own_get hown 7 (by decide)
  have g0 := hk4.cell g0
  have g1 := hk4.cell g1
  have g2 := hk4.cell g2
  have p0 := hk4.cell p0
  have p1 := hk4.cell p1
  have p2 := hk4.cell p2
  have HK4 : Hid (Kp w w4) := HK3.out.trans hk4
  have HR4 := Lib.hid (HR3.out.kp hk4)
  clear hk4 HK3 HR3 hown hb hg
  go_wp2_with fail
  refine (within_call 1 1 1 _ 1 1 _ 75 _ HR4.out (Nat.le_refl _) (by simp only [maxLen]; omega)).mono ?_
  rintro e w5 ⟨k, rfl, hwi, hk5⟩
  obtain rfl := exWithin hwi
  go_wp2
  go_ret
  exact ⟨rfl, HK4.out.trans hk5⟩
end Go.Proofs.Ytpmbjlmplfejgaa
