/- The sums over words: sum.Of, and the references. -/
import Derived.Test.YtpmbjlmplfejgaaSumA
namespace Go.Proofs.Ytpmbjlmplfejgaa
open Go.RowKit
set_option linter.unusedVariables false

/-- the first k bytes of a word, the lowest one first -/
def wb (x : Int) (k : Nat) : List Int := (List.range k).map fun i => x / 2 ^ (8 * i) % 256
def wordsB (ws : List Int) : List Int := ws.flatMap fun x => wb x 8
theorem wb_snoc (x : Int) (k : Nat) : wb x (k + 1) = wb x k ++ [x / 2 ^ (8 * k) % 256] := by
  unfold wb
  rw [List.range_succ]
  simp
theorem foldB_wb (y x : Int) (k : Nat) : foldB y (wb x (k + 1)) = stp (foldB y (wb x k)) (x / 2 ^ (8 * k) % 256) := by
  rw [wb_snoc]
  unfold foldB
  rw [List.foldl_append]
  rfl
theorem wordsB_snoc (ws : List Int) (k : Nat) (h : k < ws.length) : wordsB (ws.take (k + 1)) = wordsB (ws.take k) ++ wb (ws[k]?.getD 0) 8 := by
  rw [List.take_succ_eq_append_getElem h, List.getElem?_eq_getElem h]
  unfold wordsB
  rw [List.flatMap_append]
  simp
theorem foldB_append (y : Int) (a b : List Int) : foldB y (a ++ b) = foldB (foldB y a) b := by
  unfold foldB
  rw [List.foldl_append]

set_option maxHeartbeats 400000 in
theorem of_any (A : Option Addr) (n c : Nat) (xs : List Int) (w : World) (hr : RdI w .u64 A n xs) (hx : InR 18446744073709551616 xs) :
    Calls Try.prog 27 #[.slice A n c] w fun e w' => e = .returned (.int .u32 (cplm (foldB 4294967295 (wordsB xs)))) ∧ w = w' := by
  obtain ⟨hl, hn, hr⟩ := hr
  have HL : Hid (xs.length = n) := hl
  clear hl
  have HR : Hid (0 < n → ∃ ad, A = some ad ∧ ∀ j, j < n → w.cell? (ad.add j) = some (.int .u64 (xs[j]?.getD 0))) := hr
  clear hr
  go_enter Try.func27, Try.ntmps27
  go_wp2
  go_loop [3, 5, 6, 9] (fun a _ _ i => ∃ (k : Nat), k ≤ n ∧ i = .int .i64 k ∧ a = .int .u32 (foldB 4294967295 (wordsB (xs.take k)))) (fun _ _ _ i => n - (intOf i).toNat)
  case atStart => exact ⟨0, by omega, rfl, rfl⟩
  case round =>
    obtain ⟨k, hk, rfl, rfl⟩ := hrel
    have hb := foldB_rng (wordsB (xs.take k)) 4294967295 (by decide) (by decide)
    by_cases hlt : k < n
    · obtain ⟨ad, rfl, hc⟩ := HR.out (by omega)
      have hc := hc k hlt
      have hv : 0 ≤ xs[k]?.getD 0 ∧ xs[k]?.getD 0 < 18446744073709551616 := hx.getD (by decide) k
      have HS : Hid (foldB 4294967295 (wordsB (xs.take (k + 1))) = foldB (foldB 4294967295 (wordsB (xs.take k))) (wb (xs[k]?.getD 0) 8)) := by
        unfold Hid
        rw [wordsB_snoc _ _ (by rw [HL.out]; exact hlt), foldB_append]
      go_wp2
      go_loop [3, 6] (fun a i => ∃ (m : Nat), m ≤ 8 ∧ i = .int .i64 (8 * (m : Int)) ∧ a = .int .u32 (foldB (foldB 4294967295 (wordsB (xs.take k))) (wb (xs[k]?.getD 0) m))) (fun _ i => 64 - (intOf i).toNat)
      case atStart => exact ⟨0, by omega, rfl, rfl⟩
      case round =>
        obtain ⟨m, hm, rfl, rfl⟩ := hrel
        have hb2 := foldB_rng (wb (xs[k]?.getD 0) m) (foldB 4294967295 (wordsB (xs.take k))) hb.1 hb.2
        by_cases hml : m < 8
        · go_wp2_with (go_at_call 94; refine (step_any _ _ _ (by omega) (by omega) (by omega) (by omega)).mono ?_; rintro e w' ⟨rfl, rfl⟩)
          go_round
          case rel => exact ⟨m + 1, by omega, by go_num, by rw [foldB_wb]⟩
          case measure => simp [intOf]; omega
        · obtain rfl : m = 8 := by omega
          go_wp2
          go_round
          case rel => exact ⟨k + 1, by omega, by go_num, by rw [HS.out]⟩
          case measure => simp [intOf]; omega
    · obtain rfl : k = n := by omega
      go_wp2
      go_ret
      exact ⟨by rw [List.take_of_length_le (by rw [HL.out]; omega)]; rfl, rfl⟩
end Go.Proofs.Ytpmbjlmplfejgaa
