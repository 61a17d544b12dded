/- The laws of the sums over words, as walks. -/
import Derived.Test.YtpmbjlmplfejgaaSumP
namespace Go.Proofs.Ytpmbjlmplfejgaa
open Go.RowKit
set_option linter.unusedVariables false

theorem sealI_pos (xs : List Int) : sealI xs ≠ 0 := by
  have := crc_rng xs
  unfold sealI
  omega

set_option maxHeartbeats 400000 in
theorem law_SumWords (A : Option Addr) (n c : Nat) (xs : List Int) (x : Int) (w : World) (hr : RdI w .u64 A n xs) (hx : InR 18446744073709551616 xs) :
    Calls Try.prog 4 #[.slice A n c, .int .u64 x] w fun e w' => e = .returned (.bool true) ∧ Kp w w' := by
  have HR := Lib.hid hr
  clear hr
  by_cases hb : 300 < n
  · have hd : decide ((n : Int) > 300) = true := by simp; omega
    go_enter Try.func4, Try.ntmps4
    go_wp2_with fail
    refine (alive03 _).mono ?_
    rintro e w' ⟨rfl, hk⟩
    go_wp2
    go_ret
    exact ⟨rfl, hk⟩
  · have hnz : (sealI xs != 0) = true := by rw [bne_iff_ne]; exact sealI_pos xs
    go_enter Try.func4, Try.ntmps4
    go_wp2_with fail
    refine (alive03 _).mono ?_
    rintro e w' ⟨rfl, hk⟩
    go_wp2_with fail
    refine (rsealed_any _ _ _ _ _ (HR.out.kp hk) hx (by omega)).mono ?_
    rintro e w1 ⟨rfl, hk1⟩
    have HK := Lib.hid (hk.trans hk1)
    clear hk hk1
    go_wp2_with fail
    refine (of_any _ _ _ _ _ (HR.out.kp HK.out) hx).mono ?_
    rintro e w' ⟨rfl, rfl⟩
    go_wp2_with fail
    refine (rof_any _ _ _ _ _ (HR.out.kp HK.out) hx (by omega)).mono ?_
    rintro e w2 ⟨rfl, hk2⟩
    have HK2 := Lib.hid (Kp.trans HK.out hk2)
    clear hk2
    go_wp2_with fail
    refine (sealed_any _ _ _ _ _ (HR.out.kp HK2.out) hx (by omega)).mono ?_
    rintro e w' ⟨rfl, rfl⟩
    go_wp2_with fail
    refine (fits_any _ _ _ _ _ _ (HR.out.kp HK2.out) hx (by omega)).mono ?_
    rintro e w' ⟨rfl, rfl⟩
    go_wp2_with fail
    refine (fits_any _ _ _ _ _ _ (HR.out.kp HK2.out) hx (by omega)).mono ?_
    rintro e w' ⟨rfl, rfl⟩
    go_wp2
    go_ret
    exact ⟨rfl, HK2.out⟩

theorem InR.set {m : Int} {a : List Int} (h : InR m a) (i : Nat) (x : Int) (hx : 0 ≤ x ∧ x < m) : InR m (a.set i x) := fun y hy => by
  rcases List.mem_or_eq_of_mem_set hy with h' | h'
  · exact h y h'
  · rw [h']; exact hx
theorem xor64_rng (x y : Int) : 0 ≤ bits .xor .u64 x y ∧ bits .xor .u64 x y < 18446744073709551616 := by
  simp only [bits, IntKind.wrap, IntKind.bits, IntKind.signed]
  simp
  omega
theorem wrap_pow (b : Nat) (hb : b < 64) : IntKind.u64.wrap (2 ^ b) = 2 ^ b := by
  have hp : 2 ^ b < 18446744073709551616 := Nat.lt_of_lt_of_le (Nat.pow_lt_pow_right (by decide) hb) (by decide : 2 ^ 64 ≤ 18446744073709551616)
  have hc : ((2 : Int) ^ b) = ((2 ^ b : Nat) : Int) := by simp
  exact wraps_u64 _ (by rw [hc]; exact Int.natCast_nonneg _) (by rw [hc]; exact_mod_cast hp)
theorem info28 : (Try.prog.info? 28).map (fun i => (i.zero, i.size, i.bytes)) = some (some (.int .u64 0), 1, 8) := by kernel_rfl

set_option maxHeartbeats 400000 in
theorem law_SumTurned (A : Option Addr) (n c : Nat) (xs : List Int) (at_ bit : Nat) (w : World) (hr : RdI w .u64 A n xs) (hA : A = none → n = 0 ∧ c = 0) (hx : InR 18446744073709551616 xs) (ha : at_ < 65536) (hbit : bit < 256) :
    Calls Try.prog 5 #[.slice A n c, .int .u16 at_, .int .u8 bit] w fun e w' => e = .returned (.bool true) ∧ Kp w w' := by
  have HR := Lib.hid hr
  clear hr
  have h0 : decide ((n : Int) = 0) = decide (n = 0) := by simp
  by_cases hb : n = 0 ∨ 300 < n
  · rcases hb with rfl | hb
    · go_enter Try.func5, Try.ntmps5
      go_wp2_with fail
      refine (alive03 _).mono ?_
      rintro e w' ⟨rfl, hk⟩
      go_wp2
      go_ret
      exact ⟨rfl, hk⟩
    · have hd : decide ((n : Int) > 300) = true := by simp; omega
      have hz : ((n : Int) == 0) = false := by simp; omega
      go_enter Try.func5, Try.ntmps5
      go_wp2_with fail
      refine (alive03 _).mono ?_
      rintro e w' ⟨rfl, hk⟩
      go_wp2
      go_ret
      exact ⟨rfl, hk⟩
  · have hz : ((n : Int) == 0) = false := by simp; omega
    have hn : n ≤ 300 := by omega
    have hn0 : 0 < n := by omega
    clear h0 hb
    have HA := Lib.hid hA
    clear hA
    have HN : Hid (xs.length = n) := HR.out.1
    go_enter Try.func5, Try.ntmps5
    go_wp2_with fail
    refine (alive03 _).mono ?_
    rintro e w1 ⟨rfl, hk⟩
    have HK := Lib.hid hk
    clear hk
    go_wp2_with (at_builtin; refine app_ints (w0 := w) w.heap.size rfl (.tmp 19) (.tmp 20) 27 28 .u64 8 rfl Try.underlying27 info28 (by decide) (.slice (some ⟨w1.heap.size, 0, none⟩) 0 0) [] xs A n c rfl rfl HA.out ?c1 ?c2 ?c3 ?c4 ?c5 ?_)
    case c1 => exact HR.out.kp (Kp.alloc HK.out _)
    case c2 => exact World.ownsRow_made _ #[] 0 HK.out.size (by simp only [maxLen]; omega) rfl
    case c3 => exact Kp.alloc HK.out _
    case c4 => simp; have := HK.out.size; omega
    case c5 => simp; omega
    intro v1 w2 hown hkp _ _
    have HK2 := Lib.hid hkp
    clear hkp
    have hown : w2.ownsRow w.heap.size 28 1 v1 n (nums .u64 xs) := by have h := hown; unfold OwnI at h; rw [← HN.out]; simpa using h
    obtain ⟨g, cap, rfl, hb, hg⟩ := hown.form hn0
    have HO := Lib.hid hown
    clear hown
    have HG := Lib.hid hg
    clear hg
    have hk0 : at_ % n < n := Nat.mod_lt _ hn0
    obtain ⟨A', c', e', hrd⟩ := own_rd HO.out
    injection e' with e1 e2 e3
    subst e1; subst e3
    obtain ⟨ad, e1, hc⟩ := hrd.at_ (at_ % n) hk0
    injection e1 with e1
    subst e1
    rw [add0] at hc
    have hfr : w2.frozen? ⟨g, at_ % n, none⟩ = false := HO.out.frozenAt _
    have hv : 0 ≤ xs[at_ % n]?.getD 0 ∧ xs[at_ % n]?.getD 0 < 18446744073709551616 := hx.getD (by decide) _
    have hwp := wrap_pow (bit % 64) (by omega)
    have hys : InR 18446744073709551616 (xs.set (at_ % n) (bits .xor .u64 (xs[at_ % n]?.getD 0) (2 ^ (bit % 64)))) := hx.set _ _ (xor64_rng _ _)
    have HO2 := Lib.hid (ownI_set HO.out (at_ % n) hk0 (bits .xor .u64 (xs[at_ % n]?.getD 0) (2 ^ (bit % 64))))
    have HT := Lib.hid (crc_turn xs (at_ % n) (bit % 64) hx (by rw [HN.out]; exact hk0) (by omega))
    have HT2 := Lib.hid (sealI_turn xs (at_ % n) (bit % 64) hx (by rw [HN.out]; exact hk0) (by omega))
    go_wp2_with fail
    have HK3 := Lib.hid (Below.setCell HK2.out (p := ⟨g, at_ % n, none⟩) hb (.int .u64 (bits .xor .u64 (xs[at_ % n]?.getD 0) (2 ^ (bit % 64)))))
    generalize w2.setCell ⟨g, at_ % n, none⟩ (.int .u64 (bits .xor .u64 (xs[at_ % n]?.getD 0) (2 ^ (bit % 64)))) = w3 at *
    generalize xs.set (at_ % n) (bits .xor .u64 (xs[at_ % n]?.getD 0) (2 ^ (bit % 64))) = ys at *
    obtain ⟨A', c', e', hrd2⟩ := own_rd HO2.out
    injection e' with e1 e2 e3
    subst e1; subst e3
    have HRD := Lib.hid hrd2
    clear hrd2 hrd hc hfr hv hwp
    have t1 : (cplm (foldB 4294967295 (wordsB ys)) != cplm (foldB 4294967295 (wordsB xs))) = true := by rw [bne_iff_ne]; exact HT.out
    have t2 : (sealI xs == sealI ys) = false := by rw [beq_eq_false_iff_ne]; exact HT2.out
    refine (of_any _ _ _ ys _ HRD.out hys).mono ?_
    rintro e w' ⟨rfl, rfl⟩
    go_wp2_with fail
    refine (of_any _ _ _ xs _ (HR.out.kp HK3.out) hx).mono ?_
    rintro e w' ⟨rfl, rfl⟩
    go_wp2_with fail
    refine (sealed_any _ _ _ xs _ (HR.out.kp HK3.out) hx (by omega)).mono ?_
    rintro e w' ⟨rfl, rfl⟩
    go_wp2_with fail
    refine (fits_any _ _ _ _ ys _ HRD.out hys (by omega)).mono ?_
    rintro e w' ⟨rfl, rfl⟩
    go_wp2
    go_ret
    exact ⟨rfl, HK3.out⟩
end Go.Proofs.Ytpmbjlmplfejgaa
