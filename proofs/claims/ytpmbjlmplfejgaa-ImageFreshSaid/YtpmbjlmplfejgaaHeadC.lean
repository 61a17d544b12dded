/- head.Word, and the reference's heads. -/
import Derived.Test.YtpmbjlmplfejgaaHeadB
namespace Go.Proofs.Ytpmbjlmplfejgaa
open Go.RowKit
set_option linter.unusedVariables false
set_option linter.unusedSimpArgs false

theorem widths101 (w : World) : Calls Try.prog 101 #[] w fun e w' => ∃ ad, e = .returned (.slice (some ad) 3 3) ∧ RdI w' .i64 (some ad) 3 [2, 3, 3] ∧ Kp w w' := by
  go_enter Try.func101, Try.ntmps101
  go_wp2
  go_ret
  exact ⟨_, rfl, rd_new (xs := [2, 3, 3]) Kp.self (by decide), Kp.self.alloc _⟩

def hX (k c n : Int) : Int := k + 4 * c + 32 * n
def wordV (k c n : Int) : Int := if hMay k c n && decide (k ≠ 0) then hX k c n + 4294967296 * crc [hX k c n] else 0
theorem hMay_bd {k c n : Int} (h : hMay k c n = true) : 0 ≤ k ∧ k ≤ 3 ∧ 0 ≤ c ∧ c ≤ 4 ∧ 0 ≤ n ∧ n ≤ 4 := by
  simp only [hMay, Bool.or_eq_true, Bool.and_eq_true, decide_eq_true_eq] at h
  omega
theorem f233 : ∀ j, j < 3 → 0 ≤ sumTo [2, 3, 3] j ∧ 1 ≤ ([2, 3, 3] : List Int)[j]?.getD 0 ∧ sumTo [2, 3, 3] j + ([2, 3, 3] : List Int)[j]?.getD 0 ≤ 64 := by decide
theorem fv233 (s l r : Int) (h : 0 ≤ s ∧ s ≤ 3 ∧ 0 ≤ l ∧ l ≤ 4 ∧ 0 ≤ r ∧ r ≤ 4) : ∀ j, j < 3 → 0 ≤ [s, l, r][j]?.getD 0 ∧ [s, l, r][j]?.getD 0 ≤ 2 ^ (([2, 3, 3] : List Int)[j]?.getD 0).toNat - 1 := by
  intro j hj
  match j, hj with
  | 0, _ => simp; omega
  | 1, _ => simp; omega
  | 2, _ => simp; omega
theorem join233 (s l r : Int) : joinTo [2, 3, 3] [s, l, r] 3 = hX s l r := by
  simp [joinTo, sumTo, hX]
  omega
theorem bits_or_comm (k : IntKind) (x y : Int) : bits .or k x y = bits .or k y x := by
  unfold bits
  simp [Nat.or_comm]
theorem or_word (x c : Int) (h0 : 0 ≤ x) (h1 : x < 1000) (c0 : 0 ≤ c) (c1 : c < 4294967296) : bits .or .u64 x (c * 4294967296) = x + 4294967296 * c := by
  rw [bits_or_comm, bits_join .u64 64 (by decide) wraps_u64 32 (c * 4294967296) x (by omega) (by omega) (by omega) (by omega) (by omega) (by omega)]
  omega

set_option maxHeartbeats 1000000 in
set_option maxRecDepth 100000 in
theorem word_any (k c n : Int) (w : World) : Calls Try.prog 35 #[hd k c n] w fun e w' => e = .returned (.tuple #[.int .u64 (wordV k c n), .bool (hMay k c n)]) ∧ Kp w w' := by
  cases hg : hMay k c n
  · go_enter Try.func35, Try.ntmps35
    go_wp2_with (go_at_call 100; refine (hmay_any _ _ _ _).mono ?_; rw [hg]; rintro e w' ⟨rfl, hk⟩)
    go_ret2
    exact ⟨by simp [wordV, hg], (Kp.self.alloc _).trans hk⟩
  · have hm := hMay_bd hg
    by_cases hk0 : k = 0
    · subst hk0
      go_enter Try.func35, Try.ntmps35
      go_wp2_with fail
      refine (hmay_any _ _ _ _).mono ?_
      rw [hg]
      rintro e w1 ⟨rfl, hk⟩
      obtain ⟨g0, g1, g2⟩ := box3 hk
      go_wp2
      go_ret2
      exact ⟨by simp [wordV], (Kp.self.alloc _).trans hk⟩
    · have hw : wordV k c n = hX k c n + 4294967296 * crc [hX k c n] := by simp [wordV, hg, hk0]
      have hx : 0 ≤ hX k c n ∧ hX k c n < 1000 := by unfold hX; omega
      have HW := Lib.hid hw
      have HM := Lib.hid hm
      clear hw
      go_enter Try.func35, Try.ntmps35
      go_wp2_with fail
      refine (hmay_any _ _ _ _).mono ?_
      rw [hg]
      rintro e w1 ⟨rfl, hk⟩
      obtain ⟨g0, g1, g2⟩ := box3 hk
      have HK1 := Lib.hid (Kp.trans (Kp.self.alloc _) hk)
      clear hk hg
      go_wp2_with fail
      refine wp_region_M [] (fun w' => w'.cell? ⟨w.heap.size, 0, none⟩ = some (.int .i64 k) ∧ w'.cell? ⟨w.heap.size, 1, none⟩ = some (.int .i64 c) ∧ w'.cell? ⟨w.heap.size, 2, none⟩ = some (.int .i64 n)) (by kernel_rfl) ?_
      refine anyM_take 1 (v := ?_) [1, 2, 3, 4, 5, 6, 7, 8, 9] rfl (by decide) (by kernel_rfl) (by kernel_rfl) (by kernel_rfl) (by kernel_rfl) (fun _ _ _ h => h) (Or.inl ⟨by rfl, ?_⟩) ⟨g0, g1, g2⟩ ?_
      rotate_left
      · rintro w' ⟨s0, s1, s2⟩
        go_simp
        rfl
      simp only [Act.put, List.setIfInBounds_toArray, List.set_cons_zero, List.set_cons_succ]
      refine anyM_take 2 (v := ?_) [1, 2, 3, 4, 5, 6, 7, 8, 9] rfl (by decide) (by kernel_rfl) (by kernel_rfl) (by kernel_rfl) (by kernel_rfl) (fun _ _ _ h => h) (Or.inl ⟨by rfl, ?_⟩) ⟨g0, g1, g2⟩ ?_
      rotate_left
      · rintro w' ⟨s0, s1, s2⟩
        go_simp
        rfl
      simp only [Act.put, List.setIfInBounds_toArray, List.set_cons_zero, List.set_cons_succ]
      refine anyM_take 3 (v := ?_) [1, 2, 3, 4, 5, 6, 7, 8, 9] rfl (by decide) (by kernel_rfl) (by kernel_rfl) (by kernel_rfl) (by kernel_rfl) (fun _ _ _ h => h) (Or.inl ⟨by rfl, ?_⟩) ⟨g0, g1, g2⟩ ?_
      rotate_left
      · rintro w' ⟨s0, s1, s2⟩
        go_simp
        rfl
      simp only [Act.put, List.setIfInBounds_toArray, List.set_cons_zero, List.set_cons_succ]
      refine anyM_take 4 (v := ?_) [1, 2, 3, 4, 5, 6, 7, 8, 9] rfl (by decide) (by kernel_rfl) (by kernel_rfl) (by kernel_rfl) (by kernel_rfl) (fun _ _ _ h => h) (Or.inl ⟨by rfl, ?_⟩) ⟨g0, g1, g2⟩ ?_
      rotate_left
      · rintro w' ⟨s0, s1, s2⟩
        go_simp
        rfl
      simp only [Act.put, List.setIfInBounds_toArray, List.set_cons_zero, List.set_cons_succ]
      refine anyM_take 5 (v := ?_) [1, 2, 3, 4, 5, 6, 7, 8, 9] rfl (by decide) (by kernel_rfl) (by kernel_rfl) (by kernel_rfl) (by kernel_rfl) (fun _ _ _ h => h) (Or.inl ⟨by rfl, ?_⟩) ⟨g0, g1, g2⟩ ?_
      rotate_left
      · rintro w' ⟨s0, s1, s2⟩
        go_simp
        rfl
      simp only [Act.put, List.setIfInBounds_toArray, List.set_cons_zero, List.set_cons_succ]
      refine anyM_take 6 (v := ?_) [1, 2, 3, 4, 5, 6, 7, 8, 9] rfl (by decide) (by kernel_rfl) (by kernel_rfl) (by kernel_rfl) (by kernel_rfl) (fun _ _ _ h => h) (Or.inl ⟨by rfl, ?_⟩) ⟨g0, g1, g2⟩ ?_
      rotate_left
      · rintro w' ⟨s0, s1, s2⟩
        go_simp
        rfl
      simp only [Act.put, List.setIfInBounds_toArray, List.set_cons_zero, List.set_cons_succ]
      refine anyM_take 7 (v := ?_) [1, 2, 3, 4, 5, 6, 7, 8, 9] rfl (by decide) (by kernel_rfl) (by kernel_rfl) (by kernel_rfl) (by kernel_rfl) (fun _ _ _ h => h) (Or.inl ⟨by rfl, ?_⟩) ⟨g0, g1, g2⟩ ?_
      rotate_left
      · rintro w' ⟨s0, s1, s2⟩
        go_simp
        rfl
      simp only [Act.put, List.setIfInBounds_toArray, List.set_cons_zero, List.set_cons_succ]
      refine anyM_take 8 (v := ?_) [1, 2, 3, 4, 5, 6, 7, 8, 9] rfl (by decide) (by kernel_rfl) (by kernel_rfl) (by kernel_rfl) (by kernel_rfl) (fun _ _ _ h => h) (Or.inl ⟨by rfl, ?_⟩) ⟨g0, g1, g2⟩ ?_
      rotate_left
      · rintro w' ⟨s0, s1, s2⟩
        go_simp
        rfl
      simp only [Act.put, List.setIfInBounds_toArray, List.set_cons_zero, List.set_cons_succ]
      refine anyM_take 9 (v := ?_) [1, 2, 3, 4, 5, 6, 7, 8, 9] rfl (by decide) (by kernel_rfl) (by kernel_rfl) (by kernel_rfl) (by kernel_rfl) (fun _ _ _ h => h) (Or.inl ⟨by rfl, ?_⟩) ⟨g0, g1, g2⟩ ?_
      rotate_left
      · rintro w' ⟨s0, s1, s2⟩
        go_simp
        rfl
      simp only [Act.put, List.setIfInBounds_toArray, List.set_cons_zero, List.set_cons_succ]
      refine anyM_all (rs := [0, 10]) (by kernel_rfl) (by decide) ?_
      intro i hi
      simp only [List.mem_cons, List.not_mem_nil, or_false] at hi
      rcases hi with rfl | rfl
      · refine wpOp_of_after rfl ?_
        go_wp2_with fail
        refine (widths101 _).mono ?_
        rintro e w2 ⟨ad, rfl, hrd, hk2⟩
        have hk2 : Kp w1 w2 := Kp.self.drew.trans hk2
        have hc0 := hk2.cell g0
        have hc1 := hk2.cell g1
        have hc2 := hk2.cell g2
        have HK2 : Hid (Kp w1 (w2.alloc (.cells #[.int .u64 k, .int .u64 c, .int .u64 n] 28))) := hk2.alloc _
        have HRD : Hid (RdI (w2.alloc (.cells #[.int .u64 k, .int .u64 c, .int .u64 n] 28)) .i64 (some ad) 3 [2, 3, 3]) := hrd.kp (Kp.self.alloc _)
        have HRV : Hid (RdI (w2.alloc (.cells #[.int .u64 k, .int .u64 c, .int .u64 n] 28)) .u64 (some ⟨w2.heap.size, 0, none⟩) 3 [k, c, n]) := rd_new (xs := [k, c, n]) Kp.self (by simp)
        clear hk2 hrd
        go_wp2_with fail
        refine ⟨fun _ => ⟨hc0, hc1, hc2⟩, ?_⟩
        refine anyM_step 10 (by kernel_rfl) rfl ?_
        go_wp2_with fail
        generalize w2.alloc (.cells #[.int .u64 k, .int .u64 c, .int .u64 n] 28) = w3 at *
        generalize (⟨w2.heap.size, 0, none⟩ : Addr) = ad2 at *
        have s0' : w3.cell? ⟨w.heap.size, 0, none⟩ = some (.int .i64 k) := Kp.cell HK2.out g0
        have s1' : w3.cell? ⟨w.heap.size, 1, none⟩ = some (.int .i64 c) := Kp.cell HK2.out g1
        have s2' : w3.cell? ⟨w.heap.size, 2, none⟩ = some (.int .i64 n) := Kp.cell HK2.out g2
        clear hc0 hc1 hc2
        refine ⟨fun _ => ⟨s0', s1', s2'⟩, ?_⟩
        refine anyM_step 11 (by kernel_rfl) rfl ?_
        go_wp2_with fail
        refine (pjoin_any _ _ _ _ _ _ _ _ (by omega) HRD.out HRV.out f233 (fv233 k c n HM.out)).mono ?_
        rintro e w4 ⟨rfl, hk4⟩
        have HK4 : Hid (Kp w1 w4) := Kp.trans HK2.out hk4
        have t0 := hk4.cell s0'
        have t1 := hk4.cell s1'
        have t2 := hk4.cell s2'
        clear hk4 s0' s1' s2' HRD HRV HK2
        rw [join233]
        go_wp2_with fail
        refine ⟨fun _ => ⟨t0, t1, t2⟩, ?_⟩
        refine anyM_take 12 (v := ?_) [12, 13, 14, 15, 16] rfl (by decide) (by kernel_rfl) (by kernel_rfl) (by kernel_rfl) (by kernel_rfl) (fun _ _ _ h => h) (Or.inl ⟨by rfl, ?_⟩) ⟨t0, t1, t2⟩ ?_
        rotate_left
        · rintro w' ⟨s0, s1, s2⟩
          go_simp
          rfl
        simp only [Act.put, List.setIfInBounds_toArray, List.set_cons_zero, List.set_cons_succ]
        refine anyM_take 13 (v := ?_) [12, 13, 14, 15, 16] rfl (by decide) (by kernel_rfl) (by kernel_rfl) (by kernel_rfl) (by kernel_rfl) (fun _ _ _ h => h) (Or.inl ⟨by rfl, ?_⟩) ⟨t0, t1, t2⟩ ?_
        rotate_left
        · rintro w' ⟨s0, s1, s2⟩
          go_simp
          rfl
        simp only [Act.put, List.setIfInBounds_toArray, List.set_cons_zero, List.set_cons_succ]
        refine anyM_take 14 (v := ?_) [12, 13, 14, 15, 16] rfl (by decide) (by kernel_rfl) (by kernel_rfl) (by kernel_rfl) (by kernel_rfl) (fun _ _ _ h => h) (Or.inl ⟨by rfl, ?_⟩) ⟨t0, t1, t2⟩ ?_
        rotate_left
        · rintro w' ⟨s0, s1, s2⟩
          go_simp
          rfl
        simp only [Act.put, List.setIfInBounds_toArray, List.set_cons_zero, List.set_cons_succ]
        refine anyM_take 15 (v := ?_) [12, 13, 14, 15, 16] rfl (by decide) (by kernel_rfl) (by kernel_rfl) (by kernel_rfl) (by kernel_rfl) (fun _ _ _ h => h) (Or.inl ⟨by rfl, ?_⟩) ⟨t0, t1, t2⟩ ?_
        rotate_left
        · rintro w' ⟨s0, s1, s2⟩
          go_simp
          rfl
        simp only [Act.put, List.setIfInBounds_toArray, List.set_cons_zero, List.set_cons_succ]
        refine anyM_take 16 (v := ?_) [12, 13, 14, 15, 16] rfl (by decide) (by kernel_rfl) (by kernel_rfl) (by kernel_rfl) (by kernel_rfl) (fun _ _ _ h => h) (Or.inl ⟨by rfl, ?_⟩) ⟨t0, t1, t2⟩ ?_
        rotate_left
        · rintro w' ⟨s0, s1, s2⟩
          go_simp
          rfl
        simp only [Act.put, List.setIfInBounds_toArray, List.set_cons_zero, List.set_cons_succ]
        refine ⟨by kernel_rfl, ?_⟩
        have HK5 : Hid (Kp w w4) := Kp.trans HK1.out HK4.out
        have HRD : Hid (RdI (w4.alloc (.cells #[.int .u64 (hX k c n)] 28)) .u64 (some ⟨w4.heap.size, 0, none⟩) 1 [hX k c n]) := rd_new (xs := [hX k c n]) Kp.self (by simp)
        have HI : Hid (InR 18446744073709551616 [hX k c n]) := by intro z hz; simp only [List.mem_cons, List.not_mem_nil, or_false] at hz; omega
        have hc := crc_rng [hX k c n]
        unfold crc at hc
        clear t0 t1 t2
        go_wp2_with fail
        refine (of_any _ _ _ _ _ HRD.out HI.out).mono ?_
        rintro e w5 ⟨rfl, rfl⟩
        go_wp2
        go_ret2
        rw [HW.out, or_word _ _ (by omega) (by omega) hc.1 hc.2]
        exact ⟨rfl, HK5.out.alloc _⟩
      · refine wpOp_of_after rfl ?_
        go_wp2_with fail
        have HRV0 : Hid (RdI (w1.alloc (.cells #[.int .u64 k, .int .u64 c, .int .u64 n] 28)) .u64 (some ⟨w1.heap.size, 0, none⟩) 3 [k, c, n]) := rd_new (xs := [k, c, n]) Kp.self (by simp)
        have HKA : Hid (Kp w1 (w1.alloc (.cells #[.int .u64 k, .int .u64 c, .int .u64 n] 28))) := Kp.self.alloc _
        generalize w1.alloc (.cells #[.int .u64 k, .int .u64 c, .int .u64 n] 28) = wa at *
        generalize (⟨w1.heap.size, 0, none⟩ : Addr) = ad2 at *
        refine ⟨fun _ => ⟨Kp.cell HKA.out g0, Kp.cell HKA.out g1, Kp.cell HKA.out g2⟩, ?_⟩
        refine anyM_step 0 (by kernel_rfl) rfl ?_
        go_wp2_with fail
        refine (widths101 _).mono ?_
        rintro e w3 ⟨ad, rfl, hrd, hk2⟩
        have hk2 : Kp wa w3 := Kp.self.drew.trans hk2
        have HK2 : Hid (Kp w1 w3) := Kp.trans HKA.out hk2
        have HRD : Hid (RdI w3 .i64 (some ad) 3 [2, 3, 3]) := hrd
        have HRV : Hid (RdI w3 .u64 (some ad2) 3 [k, c, n]) := HRV0.out.kp hk2
        clear hk2 hrd HRV0
        have s0' : w3.cell? ⟨w.heap.size, 0, none⟩ = some (.int .i64 k) := Kp.cell HK2.out g0
        have s1' : w3.cell? ⟨w.heap.size, 1, none⟩ = some (.int .i64 c) := Kp.cell HK2.out g1
        have s2' : w3.cell? ⟨w.heap.size, 2, none⟩ = some (.int .i64 n) := Kp.cell HK2.out g2
        go_wp2_with fail
        refine ⟨fun _ => ⟨s0', s1', s2'⟩, ?_⟩
        refine anyM_step 11 (by kernel_rfl) rfl ?_
        go_wp2_with fail
        refine (pjoin_any _ _ _ _ _ _ _ _ (by omega) HRD.out HRV.out f233 (fv233 k c n HM.out)).mono ?_
        rintro e w4 ⟨rfl, hk4⟩
        have HK4 : Hid (Kp w1 w4) := Kp.trans HK2.out hk4
        have t0 := hk4.cell s0'
        have t1 := hk4.cell s1'
        have t2 := hk4.cell s2'
        clear hk4 s0' s1' s2' HRD HRV HK2
        rw [join233]
        go_wp2_with fail
        refine ⟨fun _ => ⟨t0, t1, t2⟩, ?_⟩
        refine anyM_take 12 (v := ?_) [12, 13, 14, 15, 16] rfl (by decide) (by kernel_rfl) (by kernel_rfl) (by kernel_rfl) (by kernel_rfl) (fun _ _ _ h => h) (Or.inl ⟨by rfl, ?_⟩) ⟨t0, t1, t2⟩ ?_
        rotate_left
        · rintro w' ⟨s0, s1, s2⟩
          go_simp
          rfl
        simp only [Act.put, List.setIfInBounds_toArray, List.set_cons_zero, List.set_cons_succ]
        refine anyM_take 13 (v := ?_) [12, 13, 14, 15, 16] rfl (by decide) (by kernel_rfl) (by kernel_rfl) (by kernel_rfl) (by kernel_rfl) (fun _ _ _ h => h) (Or.inl ⟨by rfl, ?_⟩) ⟨t0, t1, t2⟩ ?_
        rotate_left
        · rintro w' ⟨s0, s1, s2⟩
          go_simp
          rfl
        simp only [Act.put, List.setIfInBounds_toArray, List.set_cons_zero, List.set_cons_succ]
        refine anyM_take 14 (v := ?_) [12, 13, 14, 15, 16] rfl (by decide) (by kernel_rfl) (by kernel_rfl) (by kernel_rfl) (by kernel_rfl) (fun _ _ _ h => h) (Or.inl ⟨by rfl, ?_⟩) ⟨t0, t1, t2⟩ ?_
        rotate_left
        · rintro w' ⟨s0, s1, s2⟩
          go_simp
          rfl
        simp only [Act.put, List.setIfInBounds_toArray, List.set_cons_zero, List.set_cons_succ]
        refine anyM_take 15 (v := ?_) [12, 13, 14, 15, 16] rfl (by decide) (by kernel_rfl) (by kernel_rfl) (by kernel_rfl) (by kernel_rfl) (fun _ _ _ h => h) (Or.inl ⟨by rfl, ?_⟩) ⟨t0, t1, t2⟩ ?_
        rotate_left
        · rintro w' ⟨s0, s1, s2⟩
          go_simp
          rfl
        simp only [Act.put, List.setIfInBounds_toArray, List.set_cons_zero, List.set_cons_succ]
        refine anyM_take 16 (v := ?_) [12, 13, 14, 15, 16] rfl (by decide) (by kernel_rfl) (by kernel_rfl) (by kernel_rfl) (by kernel_rfl) (fun _ _ _ h => h) (Or.inl ⟨by rfl, ?_⟩) ⟨t0, t1, t2⟩ ?_
        rotate_left
        · rintro w' ⟨s0, s1, s2⟩
          go_simp
          rfl
        simp only [Act.put, List.setIfInBounds_toArray, List.set_cons_zero, List.set_cons_succ]
        refine ⟨by kernel_rfl, ?_⟩
        have HK5 : Hid (Kp w w4) := Kp.trans HK1.out HK4.out
        have HRD : Hid (RdI (w4.alloc (.cells #[.int .u64 (hX k c n)] 28)) .u64 (some ⟨w4.heap.size, 0, none⟩) 1 [hX k c n]) := rd_new (xs := [hX k c n]) Kp.self (by simp)
        have HI : Hid (InR 18446744073709551616 [hX k c n]) := by intro z hz; simp only [List.mem_cons, List.not_mem_nil, or_false] at hz; omega
        have hc := crc_rng [hX k c n]
        unfold crc at hc
        clear t0 t1 t2
        go_wp2_with fail
        refine (of_any _ _ _ _ _ HRD.out HI.out).mono ?_
        rintro e w5 ⟨rfl, rfl⟩
        go_wp2
        go_ret2
        rw [HW.out, or_word _ _ (by omega) (by omega) hc.1 hc.2]
        exact ⟨rfl, HK5.out.alloc _⟩

set_option maxHeartbeats 800000 in
theorem hrmay_any (k c n : Int) (w : World) : Calls Try.prog 36 #[hd k c n] w fun e w' => e = .returned (.bool (hMay k c n)) ∧ Kp w w' := by
  rcases (by omega : k = 0 ∨ k = 1 ∨ k = 2 ∨ k = 3 ∨ (k ≠ 0 ∧ k ≠ 1 ∧ k ≠ 2 ∧ k ≠ 3)) with h | h | h | h | ⟨h0, h1, h2, h3⟩
  · subst h
    rcases (by omega : (c = 0 ∧ n = 0) ∨ (c = 0 ∧ n ≠ 0) ∨ c ≠ 0) with ⟨a1, a2⟩ | ⟨a1, a2⟩ | a1
    all_goals
      go_enter Try.func36, Try.ntmps36
      go_wp2
      go_ret
      exact ⟨ret_bool (by rw [hMay0 _ _ _ rfl]; simp [*]), Kp.self.alloc _⟩
  · subst h
    rcases (by omega : (0 ≤ c ∧ c ≤ 3 ∧ n = 0) ∨ (0 ≤ c ∧ c ≤ 3 ∧ n ≠ 0) ∨ (0 ≤ c ∧ ¬ c ≤ 3) ∨ ¬ 0 ≤ c) with ⟨a1, a2, a3⟩ | ⟨a1, a2, a3⟩ | ⟨a1, a2⟩ | a1
    all_goals
      go_enter Try.func36, Try.ntmps36
      go_wp2
      go_ret
      exact ⟨ret_bool (by rw [hMay1]; simp [*] <;> omega), Kp.self.alloc _⟩
  · subst h
    rcases (by omega : (c = 4 ∧ 1 ≤ n ∧ n ≤ 4) ∨ (c = 4 ∧ 1 ≤ n ∧ ¬ n ≤ 4) ∨ (c = 4 ∧ ¬ 1 ≤ n) ∨ c ≠ 4) with ⟨a1, a2, a3⟩ | ⟨a1, a2, a3⟩ | ⟨a1, a2⟩ | a1
    all_goals
      go_enter Try.func36, Try.ntmps36
      go_wp2
      go_ret
      exact ⟨ret_bool (by rw [hMay2]; simp [*] <;> omega), Kp.self.alloc _⟩
  · subst h
    rcases (by omega : (c = 4 ∧ 1 ≤ n ∧ n ≤ 3) ∨ (c = 4 ∧ 1 ≤ n ∧ ¬ n ≤ 3) ∨ (c = 4 ∧ ¬ 1 ≤ n) ∨ c ≠ 4) with ⟨a1, a2, a3⟩ | ⟨a1, a2, a3⟩ | ⟨a1, a2⟩ | a1
    all_goals
      go_enter Try.func36, Try.ntmps36
      go_wp2
      go_ret
      exact ⟨ret_bool (by rw [hMay3]; simp [*] <;> omega), Kp.self.alloc _⟩
  · go_enter Try.func36, Try.ntmps36
    go_wp2
    go_ret
    exact ⟨ret_bool (by simp [hMay, *]), Kp.self.alloc _⟩

set_option maxHeartbeats 800000 in
set_option maxRecDepth 100000 in
theorem rword_any (k c n : Int) (w : World) (hg : hMay k c n = true) : Calls Try.prog 38 #[hd k c n] w fun e w' => e = .returned (.int .u64 (wordV k c n)) ∧ Kp w w' := by
  have hm := hMay_bd hg
  by_cases hk0 : k = 0
  · subst hk0
    go_enter Try.func38, Try.ntmps38
    go_wp2
    go_ret
    exact ⟨by simp [wordV], Kp.self.alloc _⟩
  · have hw : wordV k c n = hX k c n + 4294967296 * crc [hX k c n] := by simp [wordV, hg, hk0]
    have hx : k + 4 * c + 32 * n = hX k c n := rfl
    have hx0 : 0 ≤ hX k c n ∧ hX k c n < 1000 := by unfold hX; omega
    have HX := Lib.hid hx
    have HW := Lib.hid hw
    have hc := crc_rng [hX k c n]
    unfold crc at hc
    clear hw hg hx
    go_enter Try.func38, Try.ntmps38
    go_wp2_with fail
    rw [HX.out]
    clear HX
    generalize hX k c n = x at *
    have HRD : Hid (∀ (w : World) (m : Nat), m = w.heap.size → RdI (w.alloc (.cells #[.int .u64 x] 28)) .u64 (some ⟨m, 0, none⟩) 1 [x]) := fun w m h => by subst h; exact rd_new (xs := [x]) Kp.self (by simp)
    have HI : Hid (InR 18446744073709551616 [x]) := by intro z hz; simp only [List.mem_cons, List.not_mem_nil, or_false] at hz; omega
    refine (rof_any _ _ _ [x] _ (HRD.out _ _ (by simp)) HI.out (by omega)).mono ?_
    rintro e w5 ⟨rfl, hk5⟩
    have HK5 := Lib.hid (Kp.trans ((Kp.self.alloc _).alloc _) hk5)
    clear hk5
    go_wp2
    go_ret
    exact ⟨ret_int (by rw [HW.out, crc]), HK5.out⟩
end Go.Proofs.Ytpmbjlmplfejgaa
