/- Geometries, their fields' words: small functions without memory of their own. -/
import Derived.Test.YtpmbjlmplfejgaaLib
namespace Go.Proofs.Ytpmbjlmplfejgaa
open Go.RowKit
set_option linter.unusedVariables false

def inB (n m : Int) : Bool := decide (1 ≤ n ∧ n ≤ m)
def gMay (s l r : Int) : Bool := decide (1 ≤ s ∧ s ≤ 16 ∧ 1 ≤ l ∧ l ≤ 4 ∧ 1 ≤ r ∧ r ≤ 8)
abbrev geo (s l r : Int) : Value := .agg #[.int .i64 s, .int .i64 l, .int .i64 r]
theorem ret_bool {a b : Bool} (h : a = b) : Ending.returned (.bool a) = .returned (.bool b) := by rw [h]
theorem ret_int {k : IntKind} {a b : Int} (h : a = b) : Ending.returned (.int k a) = .returned (.int k b) := by rw [h]

set_option maxHeartbeats 400000 in
theorem within_any (n m : Int) (w : World) : Calls Try.prog 147 #[.int .i64 n, .int .i64 m] w fun e w' => e = .returned (.bool (inB n m)) ∧ w = w' := by
  by_cases h1 : 1 ≤ n <;> by_cases h2 : n ≤ m
  all_goals
    go_enter Try.func147, Try.ntmps147
    go_wp2
    go_ret
    exact ⟨ret_bool (by simp [inB]; omega), rfl⟩

def fldB (a n : Int) : Bool := decide (1 ≤ n ∧ n ≤ 64 ∧ 0 ≤ a ∧ a ≤ 64 - n)
set_option maxHeartbeats 400000 in
theorem field_any (a n : Int) (w : World) (h0 : -1000 ≤ n) (h1 : n ≤ 1000) : Calls Try.prog 155 #[.int .i64 a, .int .i64 n] w fun e w' => e = .returned (.bool (fldB a n)) ∧ w = w' := by
  by_cases h1 : 1 ≤ n <;> by_cases h2 : n ≤ 64 <;> by_cases h3 : 0 ≤ a <;> by_cases h4 : a ≤ 64 - n
  all_goals
    go_enter Try.func155, Try.ntmps155
    go_wp2
    go_ret
    exact ⟨ret_bool (by simp [fldB]; omega), rfl⟩

theorem mask_eq : ∀ n : Nat, n < 65 → (18446744073709551615 : Int) / 2 ^ (64 - n) = 2 ^ n - 1 := by decide +kernel
set_option maxHeartbeats 400000 in
theorem mask_any (n : Int) (w : World) (h0 : 1 ≤ n) (h1 : n ≤ 64) : Calls Try.prog 150 #[.int .i64 n] w fun e w' => e = .returned (.int .u64 (2 ^ n.toNat - 1)) ∧ w = w' := by
  obtain ⟨n, rfl⟩ := Int.eq_ofNat_of_zero_le (show 0 ≤ n by omega)
  go_enter Try.func150, Try.ntmps150
  go_wp2
  go_ret
  exact ⟨ret_int (mask_eq n (by omega)), rfl⟩

theorem gMay_eq (s l r : Int) : gMay s l r = (inB s 16 && inB l 4 && inB r 8) := by
  simp only [gMay, inB, Bool.decide_and, Bool.and_assoc]
set_option maxHeartbeats 400000 in
theorem may_any (s l r : Int) (w : World) : Calls Try.prog 95 #[geo s l r] w fun e w' => e = .returned (.bool (gMay s l r)) ∧ Kp w w' := by
  rw [gMay_eq]
  cases h1 : inB s 16 <;> cases h2 : inB l 4 <;> cases h3 : inB r 8
  all_goals
    go_enter Try.func95, Try.ntmps95
    go_wp2_with (go_at_call 147; refine (within_any _ _ _).mono ?_; rintro e w' ⟨rfl, rfl⟩)
    go_ret
    exact ⟨rfl, Kp.self.alloc _⟩

theorem shr_rng' (x : Int) (i : Nat) (h0 : 0 ≤ x) (h1 : x < 18446744073709551616) : 0 ≤ x / 2 ^ i ∧ x / 2 ^ i < 2 ^ 64 := by
  have hp : (0 : Int) < 2 ^ i := Int.pow_pos (by decide)
  refine ⟨Int.ediv_nonneg h0 (by omega), Int.lt_of_le_of_lt (Int.ediv_le_self _ h0) h1⟩
theorem wraps_u64' (n : Int) (h0 : 0 ≤ n) (h1 : n < 2 ^ 64) : IntKind.u64.wrap n = n := by
  simp [IntKind.wrap, IntKind.bits, IntKind.signed]; omega
set_option maxHeartbeats 400000 in
theorem get_any (x at_ n : Int) (w : World) (hx0 : 0 ≤ x) (hx1 : x < 18446744073709551616) (h0 : 0 ≤ at_) (h1 : 1 ≤ n) (h2 : at_ ≤ 64 - n) :
    Calls Try.prog 103 #[.int .u64 x, .int .i64 at_, .int .i64 n] w fun e w' => e = .returned (.int .u64 (x / 2 ^ at_.toNat % 2 ^ n.toNat)) ∧ Kp w w' := by
  obtain ⟨at_, rfl⟩ := Int.eq_ofNat_of_zero_le h0
  obtain ⟨n, rfl⟩ := Int.eq_ofNat_of_zero_le (show 0 ≤ n by omega)
  have hf : fldB at_ n = true := by simp [fldB]; omega
  go_enter Try.func103, Try.ntmps103
  go_wp2_with (go_at_call 155; refine (field_any _ _ _ (by omega) (by omega)).mono ?_; rintro e w' ⟨rfl, rfl⟩)
  refine wp_region_kw w Kp.self (by kernel_rfl) (by kernel_rfl) ?_
  repeat (any_goals (first | go_big_quiet_step ((go_at_call 150; exact kw_same (mask_any _ _ (by omega) (by omega)))) | quiet_step ((go_at_call 150; exact kw_same (mask_any _ _ (by omega) (by omega))))))
  refine wpQuiet_nil ?_
  rintro w2 ⟨W, e⟩
  have hk2 : Kp w w2 := e ▸ W.2
  clear e W
  go_wp2
  go_ret
  refine ⟨ret_int ?_, hk2⟩
  obtain ⟨a, b⟩ := shr_rng' x at_ hx0 hx1
  exact bits_mask .u64 64 (by decide) wraps_u64' n (by omega) _ a b

theorem andNot_high (x a q : Nat) (hx : x < 2 ^ a) (hx2 : x < 2 ^ 64) (hq : q * 2 ^ a < 2 ^ 64) : bits .andNot .u64 x ((q * 2 ^ a : Nat) : Int) = x := by
  have hb : IntKind.u64.bits = 64 := rfl
  have h1 : (BitVec.ofNat 64 x &&& ~~~ BitVec.ofNat 64 (q * 2 ^ a)) = BitVec.ofNat 64 x := by
    apply BitVec.eq_of_getLsbD_eq
    intro i hi
    simp only [BitVec.getLsbD_and, BitVec.getLsbD_not, BitVec.getLsbD_ofNat, hi, decide_true, Bool.true_and]
    rcases Nat.lt_or_ge i a with h | h
    · rw [Nat.mul_comm, Nat.testBit_two_pow_mul]
      simp [Nat.not_le.2 h]
    · rw [Nat.testBit_lt_two_pow (Nat.lt_of_lt_of_le hx (Nat.pow_le_pow_right (by decide) h))]
      rfl
  show IntKind.u64.wrap _ = _
  rw [BitVec.ofInt_natCast, BitVec.ofInt_natCast]
  show IntKind.u64.wrap (((BitVec.ofNat 64 x &&& ~~~ BitVec.ofNat 64 (q * 2 ^ a)).toNat : Nat) : Int) = _
  rw [h1, BitVec.toNat_ofNat, Nat.mod_eq_of_lt hx2]
  exact wraps_u64' _ (Int.natCast_nonneg _) (by exact_mod_cast hx2)
theorem put_eq (x v : Int) (a n : Nat) (hx0 : 0 ≤ x) (hx1 : x < 2 ^ a) (hv0 : 0 ≤ v) (hv1 : v < 18446744073709551616) (han : a + n ≤ 64) :
    bits .or .u64 (bits .andNot .u64 x (IntKind.u64.wrap ((2 ^ n - 1) * 2 ^ a))) (IntKind.u64.wrap (bits .and .u64 v (2 ^ n - 1) * 2 ^ a)) = x + v % 2 ^ n * 2 ^ a := by
  obtain ⟨x, rfl⟩ := Int.eq_ofNat_of_zero_le hx0
  obtain ⟨v, rfl⟩ := Int.eq_ofNat_of_zero_le hv0
  have hx : x < 2 ^ a := by exact_mod_cast hx1
  have hpn : 0 < 2 ^ n := Nat.two_pow_pos n
  have hpa : 0 < 2 ^ a := Nat.two_pow_pos a
  have hsum : 2 ^ n * 2 ^ a ≤ 2 ^ 64 := by rw [← Nat.pow_add]; exact Nat.pow_le_pow_right (by decide) (by omega)
  have ha64 : 2 ^ a ≤ 2 ^ 64 := Nat.pow_le_pow_right (by decide) (by omega)
  have hm : (2 ^ n - 1) * 2 ^ a < 2 ^ 64 := Nat.lt_of_lt_of_le (Nat.mul_lt_mul_of_pos_right (by omega) hpa) hsum
  have hv : v % 2 ^ n < 2 ^ n := Nat.mod_lt _ hpn
  have hw : v % 2 ^ n * 2 ^ a < 2 ^ 64 := Nat.lt_of_lt_of_le (Nat.mul_lt_mul_of_pos_right hv hpa) hsum
  have c1 : ((2 : Int) ^ n - 1) * 2 ^ a = (((2 ^ n - 1) * 2 ^ a : Nat) : Int) := by
    rw [Int.natCast_mul, Int.natCast_sub hpn]; simp
  rw [bits_mask .u64 64 (by decide) wraps_u64' n (by omega) (v : Int) (by omega) (by omega), c1, wraps_u64' _ (Int.natCast_nonneg _) (by exact_mod_cast hm)]
  rw [andNot_high x a (2 ^ n - 1) hx (by omega) hm]
  have c2 : ((v : Int) % 2 ^ n) * 2 ^ a = ((v % 2 ^ n * 2 ^ a : Nat) : Int) := by simp
  rw [c2, wraps_u64' _ (Int.natCast_nonneg _) (by exact_mod_cast hw)]
  have hor := (bits_nat .u64 64 (by decide) wraps_u64' x (v % 2 ^ n * 2 ^ a) (by omega) hw).2
  rw [hor, Nat.or_comm, Nat.mul_comm _ (2 ^ a), ← Nat.two_pow_add_eq_or_of_lt hx]
  rw [Nat.add_comm, Int.natCast_add]

set_option maxHeartbeats 400000 in
theorem put_any (x at_ n v : Int) (w : World) (h0 : 0 ≤ at_) (h1 : 1 ≤ n) (h2 : at_ ≤ 64 - n) (hx0 : 0 ≤ x) (hx1 : x < 2 ^ at_.toNat) (hv0 : 0 ≤ v) (hv1 : v < 18446744073709551616) :
    Calls Try.prog 151 #[.int .u64 x, .int .i64 at_, .int .i64 n, .int .u64 v] w fun e w' => e = .returned (.int .u64 (x + v % 2 ^ n.toNat * 2 ^ at_.toNat)) ∧ Kp w w' := by
  obtain ⟨at_, rfl⟩ := Int.eq_ofNat_of_zero_le h0
  obtain ⟨n, rfl⟩ := Int.eq_ofNat_of_zero_le (show 0 ≤ n by omega)
  have HX := Lib.hid hx1
  clear hx1
  have hf : fldB at_ n = true := by simp [fldB]; omega
  go_enter Try.func151, Try.ntmps151
  go_wp2_with (go_at_call 155; refine (field_any _ _ _ (by omega) (by omega)).mono ?_; rintro e w' ⟨rfl, rfl⟩)
  refine wp_region_kw w Kp.self (by kernel_rfl) (by kernel_rfl) ?_
  repeat (any_goals (first | go_big_quiet_step ((go_at_call 150; exact kw_same (mask_any _ _ (by omega) (by omega)))) | quiet_step ((go_at_call 150; exact kw_same (mask_any _ _ (by omega) (by omega))))))
  refine wpQuiet_nil ?_
  rintro w2 ⟨W, e⟩
  have hk2 : Kp w w2 := e ▸ W.2
  clear e W
  go_wp2
  go_ret
  exact ⟨ret_int (put_eq x v at_ n hx0 HX.out hv0 hv1 (by omega)), hk2⟩
end Go.Proofs.Ytpmbjlmplfejgaa
