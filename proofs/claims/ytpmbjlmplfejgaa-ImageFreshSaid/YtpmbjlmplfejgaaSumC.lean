/- The references' sums. -/
import Derived.Test.YtpmbjlmplfejgaaSumB
namespace Go.Proofs.Ytpmbjlmplfejgaa
open Go.RowKit
set_option linter.unusedVariables false

theorem info5 : (Try.prog.info? 5).map (fun i => (i.zero, i.size, i.bytes)) = some (some (.int .u8 0), 1, 1) := by kernel_rfl

theorem bits_xor_comm (k : IntKind) (x y : Int) : bits .xor k x y = bits .xor k y x := by
  simp only [bits]
  rw [BitVec.xor_comm]
set_option maxHeartbeats 400000 in
theorem rbytes_any (A : Option Addr) (n c : Nat) (xs : List Int) (w : World) (hr : RdI w .u8 A n xs) (hx : InR 256 xs) :
    Calls Try.prog 25 #[.slice A n c] w fun e w' => e = .returned (.int .u32 (cplm (foldB 4294967295 xs))) ∧ w = w' := by
  obtain ⟨hl, hn, hr⟩ := hr
  have HL : Hid (xs.length = n) := hl
  clear hl
  have HR : Hid (0 < n → ∃ ad, A = some ad ∧ ∀ j, j < n → w.cell? (ad.add j) = some (.int .u8 (xs[j]?.getD 0))) := hr
  clear hr
  go_enter Try.func25, Try.ntmps25
  go_wp2
  go_loop [3, 4, 5] (fun a i _ => ∃ (k : Nat), k ≤ n ∧ i = .int .i64 k ∧ a = .int .u32 (foldB 4294967295 (xs.take k))) (fun _ i _ => n - (intOf i).toNat)
  case atStart => exact ⟨0, by omega, rfl, rfl⟩
  case round =>
    obtain ⟨k, hk, rfl, rfl⟩ := hrel
    have hb := foldB_rng (xs.take k) 4294967295 (by decide) (by decide)
    by_cases hlt : k < n
    · obtain ⟨ad, rfl, hc⟩ := HR.out (by omega)
      have hc := hc k hlt
      have hv : 0 ≤ xs[k]?.getD 0 ∧ xs[k]?.getD 0 < 256 := hx.getD (by decide) k
      have HS : Hid (foldB 4294967295 (xs.take (k + 1)) = stp (foldB 4294967295 (xs.take k)) (xs[k]?.getD 0)) := foldB_snoc _ _ _ (by rw [HL.out]; exact hlt)
      have hxr := xor_rng (foldB 4294967295 (xs.take k)) (xs[k]?.getD 0)
      go_wp2
      go_loop [3, 5] (fun a i => ∃ (m : Nat) (y : Int), m ≤ 8 ∧ i = .int .i64 m ∧ a = .int .u32 y ∧ 0 ≤ y ∧ y < 4294967296 ∧ Hid (bstepN (8 - m) y = foldB 4294967295 (xs.take (k + 1)))) (fun _ i => 8 - (intOf i).toNat)
      case atStart => exact ⟨0, _, by omega, rfl, rfl, hxr.1, hxr.2, HS.out.symm⟩
      case round =>
        obtain ⟨m, y, hm, rfl, rfl, h0, h1, H⟩ := hrel
        have hbr := bstep_rng y h0 h1
        by_cases hml : m < 8
        · have hs : bstepN (8 - m) y = bstepN (8 - (m + 1)) (bstep y) := by
            rw [show 8 - m = (8 - (m + 1)) + 1 by omega]; rfl
          have HT : Hid (bstepN (8 - (m + 1)) (bstep y) = foldB 4294967295 (xs.take (k + 1))) := by rw [← hs]; exact H.out
          clear hs H hxr
          by_cases h2 : y % 2 = 1
          · have hq : (y % 2 == 1) = true := by rw [h2]; rfl
            have hB : Hid (bstep y = bits .xor .u32 (y / 2) 3988292384) := by unfold bstep; rw [if_pos h2]; rfl
            clear h2
            go_wp2
            go_round
            case rel => rw [hB.out] at hbr HT; exact ⟨m + 1, _, by omega, by go_num, rfl, hbr.1, hbr.2, HT⟩
            case measure => simp [intOf]; omega
          · have hq : (y % 2 == 1) = false := by simp; omega
            have hB : Hid (bstep y = y / 2) := by unfold bstep; rw [if_neg h2]; rfl
            clear h2
            go_wp2
            go_round
            case rel => rw [hB.out] at hbr HT; exact ⟨m + 1, _, by omega, by go_num, rfl, hbr.1, hbr.2, HT⟩
            case measure => simp [intOf]; omega
        · obtain rfl : m = 8 := by omega
          have H' : y = foldB 4294967295 (xs.take (k + 1)) := H.out
          clear HS hbr h0 h1 H hxr
          subst H'
          go_wp2
          go_round
          case rel => exact ⟨k + 1, by omega, by go_num, rfl⟩
          case measure => simp [intOf]; omega
    · obtain rfl : k = n := by omega
      go_wp2
      go_ret
      exact ⟨by rw [List.take_of_length_le (by rw [HL.out]; omega)]; rw [bits_xor_comm]; rfl, rfl⟩

theorem wb_rng (x : Int) (k : Nat) : InR 256 (wb x k) := by
  intro y hy
  simp only [wb, List.mem_map] at hy
  obtain ⟨i, _, rfl⟩ := hy
  omega
theorem wordsB_rng (xs : List Int) : InR 256 (wordsB xs) := by
  intro y hy
  simp only [wordsB, List.mem_flatMap] at hy
  obtain ⟨x, _, hx⟩ := hy
  exact wb_rng x 8 y hx
theorem wb_len (x : Int) (k : Nat) : (wb x k).length = k := by simp [wb]
theorem wordsB_len (xs : List Int) : (wordsB xs).length = 8 * xs.length := by
  induction xs with
  | nil => rfl
  | cons x xs ih =>
    have : wordsB (x :: xs) = wb x 8 ++ wordsB xs := by simp [wordsB]
    rw [this, List.length_append, wb_len, ih, List.length_cons]
    omega

theorem shr_rng (x : Int) (i : Nat) (h0 : 0 ≤ x) (h1 : x < 18446744073709551616) : 0 ≤ x / 2 ^ i ∧ x / 2 ^ i < 18446744073709551616 := by
  have hp : (0 : Int) < 2 ^ i := Int.pow_pos (by decide)
  refine ⟨Int.ediv_nonneg h0 (by omega), Int.lt_of_le_of_lt (Int.ediv_le_self _ h0) h1⟩
theorem shr_next (x : Int) (m : Nat) : x / 2 ^ (8 * m) / 256 = x / 2 ^ (8 * (m + 1)) := by
  rw [Int.ediv_ediv_of_nonneg (Int.le_of_lt (Int.pow_pos (by decide))), show 8 * (m + 1) = 8 * m + 8 by omega, Int.pow_add]
  rfl

set_option maxHeartbeats 400000 in
set_option maxRecDepth 100000 in
theorem rof_any (A : Option Addr) (n c : Nat) (xs : List Int) (w : World) (hr : RdI w .u64 A n xs) (hx : InR 18446744073709551616 xs) (hn : n ≤ 10000) :
    Calls Try.prog 28 #[.slice A n c] w fun e w' => e = .returned (.int .u32 (cplm (foldB 4294967295 (wordsB xs)))) ∧ Kp w w' := by
  have HR := Lib.hid hr
  have HL : Hid (xs.length = n) := hr.1
  clear hr
  go_enter Try.func28, Try.ntmps28
  go_wp2
  go_loopw [3, 4, 5, 6] (fun v i _ _ wr => ∃ (k : Nat), k ≤ n ∧ i = .int .i64 k ∧ OwnI wr w.heap.size 5 .u8 v (wordsB (xs.take k)) ∧ Kp w wr) (fun _ i _ _ _ => n - (intOf i).toNat)
  case atStart => exact ⟨0, by omega, rfl, World.ownsRow_nil _ _ _ _, Kp.self⟩
  case round =>
    obtain ⟨k, hk, rfl, hown, hkp⟩ := hrel
    by_cases hlt : k < n
    · obtain ⟨ad, rfl, hc⟩ := HR.out.at_ k hlt
      have hc := hkp.cell hc
      have hv : 0 ≤ xs[k]?.getD 0 ∧ xs[k]?.getD 0 < 18446744073709551616 := hx.getD (by decide) k
      have HS : Hid (wordsB (xs.take (k + 1)) = wordsB (xs.take k) ++ wb (xs[k]?.getD 0) 8) := wordsB_snoc _ _ (by rw [HL.out]; exact hlt)
      have HO := Lib.hid hown
      have HK := Lib.hid hkp
      clear hown hkp
      go_wp2
      go_loopw [3, 5, 6] (fun v x i wr => ∃ (m : Nat), m ≤ 8 ∧ i = .int .i64 m ∧ x = .int .u64 (xs[k]?.getD 0 / 2 ^ (8 * m)) ∧ Hid (OwnI wr w.heap.size 5 .u8 v (wordsB (xs.take k) ++ wb (xs[k]?.getD 0) m)) ∧ Hid (Kp w wr)) (fun _ _ i _ => 8 - (intOf i).toNat)
      case atStart => exact ⟨0, by omega, rfl, by simp, by simpa [wb] using HO, HK⟩
      case round =>
        obtain ⟨m, hm, rfl, rfl, HO, HK⟩ := hrel
        by_cases hml : m < 8
        · obtain ⟨hq0, hq1⟩ := shr_rng (xs[k]?.getD 0) (8 * m) hv.1 hv.2
          go_wp2_with (at_builtin; refine app_num (w0 := w) w.heap.size rfl (.tmp 21) (.tmp 25) 22 5 .u8 1 rfl Try.underlying22 info5 (by decide) _ _ _ rfl rfl HO.out HK.out HK.out.size ?c1 ?_)
          case c1 => rw [List.length_append, wordsB_len, wb_len, List.length_take]; omega
          intro v1 w1 hown hkp _ _
          have HO1 : Hid (OwnI w1 w.heap.size 5 .u8 v1 (wordsB (xs.take k) ++ wb (xs[k]?.getD 0) (m + 1))) := by unfold Hid; rw [wb_snoc, ← List.append_assoc]; simpa using hown
          have HK1 := Lib.hid hkp
          clear hown hkp
          go_wp2
          go_roundw
          case rel => exact ⟨m + 1, by omega, by go_num, by rw [shr_next], HO1, HK1⟩
          case measure => simp [intOf]; omega
        · obtain rfl : m = 8 := by omega
          go_wp2
          go_roundw
          case rel => exact ⟨k + 1, by omega, by go_num, by rw [HS.out]; exact HO.out, HK.out⟩
          case measure => simp [intOf]; omega
    · obtain rfl : k = n := by omega
      have hw : wordsB (xs.take k) = wordsB xs := by rw [List.take_of_length_le (by rw [HL.out]; omega)]
      rw [hw] at hown
      clear hw
      obtain ⟨A', c', rfl, hrd⟩ := own_rd hown
      clear hown
      have HR := Lib.hid hrd
      have HK := Lib.hid hkp
      clear hrd hkp
      go_wp2_with (go_at_call 25; refine (rbytes_any _ _ _ _ _ HR.out (wordsB_rng _)).mono ?_; rintro e w' ⟨rfl, rfl⟩)
      go_ret
      exact ⟨rfl, HK.out⟩
end Go.Proofs.Ytpmbjlmplfejgaa
