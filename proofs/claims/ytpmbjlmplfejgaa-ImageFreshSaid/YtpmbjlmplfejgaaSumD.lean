/- Seals, what fits, and the examples. -/
import Derived.Test.YtpmbjlmplfejgaaSumC
namespace Go.Proofs.Ytpmbjlmplfejgaa
open Go.RowKit
set_option linter.unusedVariables false

def crc (xs : List Int) : Int := cplm (foldB 4294967295 (wordsB xs))
theorem crc_rng (xs : List Int) : 0 ≤ crc xs ∧ crc xs < 4294967296 := xor_rng _ _
/-- the seal of words -/
def sealI (xs : List Int) : Int := 9223372036854775808 + (xs.length : Int) * 4294967296 + crc xs

theorem wraps_u64 (n : Int) (h0 : 0 ≤ n) (h1 : n < 2 ^ 64) : IntKind.u64.wrap n = n := by
  simp [IntKind.wrap, IntKind.bits, IntKind.signed]; omega
theorem or_seal (n c : Int) (h0 : 0 ≤ n) (h1 : n ≤ 10000) (c0 : 0 ≤ c) (c1 : c < 4294967296) :
    bits .or .u64 (bits .or .u64 9223372036854775808 (n * 4294967296)) c = 9223372036854775808 + n * 4294967296 + c := by
  rw [bits_join .u64 64 (by decide) wraps_u64 63 9223372036854775808 (n * 4294967296) (by omega) (by decide) (by decide) (by omega) (by omega) (by omega)]
  rw [bits_join .u64 64 (by decide) wraps_u64 32 (9223372036854775808 + n * 4294967296) c (by omega) (by omega) (by omega) (by omega) (by omega) (by omega)]
theorem and_many (n : Int) (h0 : 0 ≤ n) (h1 : n ≤ 10000) : bits .and .i64 n 2147483647 = n := by
  have := bits_mask .i64 63 (by decide) (fun n h0 h1 => by simp [IntKind.wrap, IntKind.bits, IntKind.signed]; omega) 31 (by decide) n h0 (by omega)
  rw [show ((2 : Int) ^ 31 - 1) = 2147483647 by decide] at this
  rw [this]
  omega

set_option maxHeartbeats 400000 in
theorem rsealed_any (A : Option Addr) (n c : Nat) (xs : List Int) (w : World) (hr : RdI w .u64 A n xs) (hx : InR 18446744073709551616 xs) (hn : n ≤ 10000) :
    Calls Try.prog 26 #[.slice A n c] w fun e w' => e = .returned (.int .u64 (sealI xs)) ∧ Kp w w' := by
  have HR := Lib.hid hr
  clear hr
  have hc := crc_rng xs
  unfold crc at hc
  go_enter Try.func26, Try.ntmps26
  go_wp2_with (go_at_call 28; refine (rof_any _ _ _ _ _ HR.out hx hn).mono ?_; rintro e w' ⟨rfl, hk⟩)
  go_ret
  refine ⟨?_, hk⟩
  unfold sealI crc
  rw [HR.out.1]
  exact congrArg (fun z => Ending.returned (.int .u64 z)) (by omega)
set_option maxHeartbeats 400000 in
theorem sealed_any (A : Option Addr) (n c : Nat) (xs : List Int) (w : World) (hr : RdI w .u64 A n xs) (hx : InR 18446744073709551616 xs) (hn : n ≤ 10000) :
    Calls Try.prog 29 #[.slice A n c] w fun e w' => e = .returned (.int .u64 (sealI xs)) ∧ w = w' := by
  have HR := Lib.hid hr
  clear hr
  have hc := crc_rng xs
  unfold crc at hc
  have ha := and_many (n : Int) (by omega) (by omega)
  go_enter Try.func29, Try.ntmps29
  go_wp2_with (go_at_call 27; refine (of_any _ _ _ _ _ HR.out hx).mono ?_; rintro e w' ⟨rfl, rfl⟩)
  go_ret
  refine ⟨?_, rfl⟩
  unfold sealI crc
  rw [HR.out.1]
  exact congrArg (fun z => Ending.returned (.int .u64 z)) (or_seal _ _ (by omega) (by omega) hc.1 hc.2)
set_option maxHeartbeats 400000 in
theorem fits_any (s : Int) (A : Option Addr) (n c : Nat) (xs : List Int) (w : World) (hr : RdI w .u64 A n xs) (hx : InR 18446744073709551616 xs) (hn : n ≤ 10000) :
    Calls Try.prog 30 #[.int .u64 s, .slice A n c] w fun e w' => e = .returned (.bool (s == sealI xs)) ∧ w = w' := by
  have HR := Lib.hid hr
  clear hr
  go_enter Try.func30, Try.ntmps30
  go_wp2_with (go_at_call 29; refine (sealed_any _ _ _ _ _ HR.out hx hn).mono ?_; rintro e w' ⟨rfl, rfl⟩)
  go_ret
  exact ⟨rfl, rfl⟩
theorem alive_crc : cplm (foldB 4294967295 [49, 50, 51, 52, 53, 54, 55, 56, 57]) = 3421780262 := by decide +kernel
theorem alive_seal : sealI [] = 9223372036854775808 := by decide +kernel
def lit9 : List Int := [49, 50, 51, 52, 53, 54, 55, 56, 57]
theorem lit9_rd (w : World) (fr : Nat × Nat) : RdI (w.alloc (.cells #[.int .u8 49, .int .u8 50, .int .u8 51, .int .u8 52, .int .u8 53, .int .u8 54, .int .u8 55, .int .u8 56, .int .u8 57] 5 fr)) .u8 (some ⟨w.heap.size, 0, none⟩) 9 lit9 := by
  refine ⟨rfl, by omega, fun _ => ⟨_, rfl, fun j hj => ?_⟩⟩
  rw [add0]
  have : ∀ j : Nat, j < 9 → (#[Value.int .u8 49, .int .u8 50, .int .u8 51, .int .u8 52, .int .u8 53, .int .u8 54, .int .u8 55, .int .u8 56, .int .u8 57] : Array Value)[j]? = some (.int .u8 (lit9[j]?.getD 0)) := by
    intro j hj
    match j, hj with
    | 0, _ | 1, _ | 2, _ | 3, _ | 4, _ | 5, _ | 6, _ | 7, _ | 8, _ => rfl
  rw [← this j hj]
  exact World.cell?_alloc_mark w _ 5 fr j
set_option maxHeartbeats 400000 in
set_option maxRecDepth 100000 in
theorem alive03 (w : World) : Calls Try.prog 23 #[] w fun e w' => e = .returned (.bool true) ∧ Kp w w' := by
  have kc := fun (w : World) (C : Array Value) (n c : Nat) => Lib.run_convert_bytes_const (P := Try.prog) w 22 5 C n c Try.underlying22 Try.underlying5
  have h9 := Lib.hid (lit9_rd w)
  have hg : Hid (InR 256 lit9) := by unfold Hid InR lit9; decide
  have hn : Hid (InR 18446744073709551616 ([] : List Int)) := by unfold Hid InR; simp
  have e1 : (cplm (foldB 4294967295 lit9) == 3421780262) = true := by rw [beq_iff_eq]; exact alive_crc
  have e2 : (cplm (foldB 4294967295 (wordsB [])) == 0) = true := by decide +kernel
  have e3 : (sealI [] == 9223372036854775808) = true := by rw [beq_iff_eq]; exact alive_seal
  go_enter Try.func23, Try.ntmps23
  go_wp2_with fail
  refine (bytes_any _ _ _ _ _ (h9.out _) hg.out).mono ?_
  rintro e w' ⟨rfl, rfl⟩
  go_wp2_with fail
  refine (of_any _ _ _ [] _ RdI.nil hn.out).mono ?_
  rintro e w' ⟨rfl, rfl⟩
  go_wp2_with fail
  refine (sealed_any _ _ _ [] _ RdI.nil hn.out (by omega)).mono ?_
  rintro e w' ⟨rfl, rfl⟩
  go_wp2
  go_ret
  exact ⟨rfl, Kp.self.alloc _⟩
end Go.Proofs.Ytpmbjlmplfejgaa
