/- The sums' machine side: what sum.step and its kin come to. -/
import Derived.Test.YtpmbjlmplfejgaaLib
namespace Go.Proofs.Ytpmbjlmplfejgaa
open Go.RowKit
set_option linter.unusedVariables false

def bstep (x : Int) : Int := if x % 2 = 1 then bits .xor .u32 (x / 2) 3988292384 else x / 2
def bstepN : Nat → Int → Int
  | 0, x => x
  | n + 1, x => bstepN n (bstep x)
def stp (x c : Int) : Int := bstepN 8 (bits .xor .u32 x c)

theorem and1 (x : Int) (h0 : 0 ≤ x) (h1 : x < 4294967296) : bits .and .u32 x 1 = x % 2 := by
  have := bits_mask .u32 32 (by decide) (fun n h0 h1 => by simp [IntKind.wrap, IntKind.bits, IntKind.signed]; omega) 1 (by decide) x h0 h1
  simpa using this
theorem xor_rng (x y : Int) : 0 ≤ bits .xor .u32 x y ∧ bits .xor .u32 x y < 4294967296 := by
  simp only [bits, IntKind.wrap_u32]
  omega
theorem bstep_rng (x : Int) (h0 : 0 ≤ x) (h1 : x < 4294967296) : 0 ≤ bstep x ∧ bstep x < 4294967296 := by
  unfold bstep
  split
  · exact xor_rng _ _
  · omega

set_option maxHeartbeats 400000 in
theorem step_any (x c : Int) (w : World) (hx0 : 0 ≤ x) (hx1 : x < 4294967296) (hc0 : 0 ≤ c) (hc1 : c < 256) :
    Calls Try.prog 94 #[.int .u32 x, .int .u8 c] w fun e w' => e = .returned (.int .u32 (stp x c)) ∧ w = w' := by
  have hr := xor_rng x c
  go_enter Try.func94, Try.ntmps94
  go_wp2
  go_loop [0, 10] (fun a i => ∃ (k : Nat) (y : Int), k ≤ 8 ∧ i = .int .i64 k ∧ a = .int .u32 y ∧ 0 ≤ y ∧ y < 4294967296 ∧ Hid (bstepN (8 - k) y = stp x c)) (fun _ i => 8 - (intOf i).toNat)
  case atStart => exact ⟨0, _, by omega, rfl, rfl, hr.1, hr.2, rfl⟩
  case round =>
    obtain ⟨k, y, hk, rfl, rfl, h0, h1, H⟩ := hrel
    have hb := bstep_rng y h0 h1
    by_cases hlt : k < 8
    · have ha := and1 y h0 h1
      have hs : bstepN (8 - k) y = bstepN (8 - (k + 1)) (bstep y) := by
        rw [show 8 - k = (8 - (k + 1)) + 1 by omega]; rfl
      have HS : Hid (bstepN (8 - (k + 1)) (bstep y) = stp x c) := by rw [← hs]; exact H.out
      clear hs H
      by_cases h2 : y % 2 = 1
      · have hq : (bits .and .u32 y 1 != 0) = true := by rw [ha, h2]; rfl
        have hB : Hid (bstep y = bits .xor .u32 (y / 2) 3988292384) := by unfold bstep; rw [if_pos h2]; rfl
        clear ha h2
        go_wp2
        go_round
        case rel => rw [hB.out] at hb HS; exact ⟨k + 1, _, by omega, by go_num, rfl, hb.1, hb.2, HS⟩
        case measure => simp [intOf]; omega
      · have hq : (bits .and .u32 y 1 != 0) = false := by rw [ha]; simp; omega
        have hB : Hid (bstep y = y / 2) := by unfold bstep; rw [if_neg h2]; rfl
        clear ha h2
        go_wp2
        go_round
        case rel => rw [hB.out] at hb HS; exact ⟨k + 1, _, by omega, by go_num, rfl, hb.1, hb.2, HS⟩
        case measure => simp [intOf]; omega
    · obtain rfl : k = 8 := by omega
      have H' : y = stp x c := H.out
      clear hb H hr
      subst H'
      go_wp2
      go_ret
      exact ⟨rfl, rfl⟩

def foldB (x : Int) (l : List Int) : Int := l.foldl stp x
def cplm (x : Int) : Int := bits .xor .u32 IntKind.u32.max x
theorem bstepN_rng (n : Nat) : ∀ x : Int, 0 ≤ x → x < 4294967296 → 0 ≤ bstepN n x ∧ bstepN n x < 4294967296 := by
  induction n with
  | zero => intro x a b; exact ⟨a, b⟩
  | succ n ih => intro x a b; have := bstep_rng x a b; exact ih _ this.1 this.2
theorem stp_rng (x c : Int) : 0 ≤ stp x c ∧ stp x c < 4294967296 := by
  have := xor_rng x c
  exact bstepN_rng 8 _ this.1 this.2
theorem foldB_rng (l : List Int) : ∀ x : Int, 0 ≤ x → x < 4294967296 → 0 ≤ foldB x l ∧ foldB x l < 4294967296 := by
  induction l with
  | nil => intro x a b; exact ⟨a, b⟩
  | cons c l ih => intro x a b; have := stp_rng x c; exact ih _ this.1 this.2
theorem foldB_snoc (x : Int) (l : List Int) (j : Nat) (h : j < l.length) : foldB x (l.take (j + 1)) = stp (foldB x (l.take j)) (l[j]?.getD 0) := by
  rw [List.take_succ_eq_append_getElem h]
  unfold foldB
  rw [List.foldl_append, List.getElem?_eq_getElem h]
  rfl

set_option maxHeartbeats 400000 in
theorem bytes_any (A : Option Addr) (n c : Nat) (xs : List Int) (w : World) (hr : RdI w .u8 A n xs) (hx : InR 256 xs) :
    Calls Try.prog 24 #[.slice A n c] w fun e w' => e = .returned (.int .u32 (cplm (foldB 4294967295 xs))) ∧ w = w' := by
  obtain ⟨hl, hn, hr⟩ := hr
  have HL : Hid (xs.length = n) := hl
  clear hl
  have HR : Hid (0 < n → ∃ ad, A = some ad ∧ ∀ j, j < n → w.cell? (ad.add j) = some (.int .u8 (xs[j]?.getD 0))) := hr
  clear hr
  go_enter Try.func24, Try.ntmps24
  go_wp2
  go_loop [3, 8] (fun a i => ∃ (k : Nat), k ≤ n ∧ i = .int .i64 k ∧ a = .int .u32 (foldB 4294967295 (xs.take k))) (fun _ i => n - (intOf i).toNat)
  case atStart => exact ⟨0, by omega, rfl, rfl⟩
  case round =>
    obtain ⟨k, hk, rfl, rfl⟩ := hrel
    have hb := foldB_rng (xs.take k) 4294967295 (by decide) (by decide)
    by_cases hlt : k < n
    · obtain ⟨ad, rfl, hc⟩ := HR.out (by omega)
      have hc := hc k hlt
      have hv := hx.getD (by decide) k
      have HS : Hid (foldB 4294967295 (xs.take (k + 1)) = stp (foldB 4294967295 (xs.take k)) (xs[k]?.getD 0)) := foldB_snoc _ _ _ (by rw [HL.out]; exact hlt)
      go_wp2_with (go_at_call 94; refine (step_any _ _ _ (by omega) (by omega) (by omega) (by omega)).mono ?_; rintro e w' ⟨rfl, rfl⟩)
      go_round
      case rel => exact ⟨k + 1, by omega, by go_num, by rw [HS.out]⟩
      case measure => simp [intOf]; omega
    · obtain rfl : k = n := by omega
      go_wp2
      go_ret
      exact ⟨by rw [List.take_of_length_le (by rw [HL.out]; omega)]; rfl, rfl⟩
end Go.Proofs.Ytpmbjlmplfejgaa
