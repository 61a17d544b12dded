/- Find. -/
import Derived.Test.YtpmbjlmplfejgaaAddrE
namespace Go.Proofs.Ytpmbjlmplfejgaa
open Go.RowKit
set_option linter.unusedVariables false
set_option linter.unusedSimpArgs false

def FindP (bs : List Blk) (a k : Int) : Prop := (k = -1 ∧ ∀ j, j < bs.length → (blkAt bs j).1 ≠ a) ∨ ∃ j : Nat, k = j ∧ j < bs.length ∧ (blkAt bs j).1 = a ∧ ∀ i, i < j → (blkAt bs i).1 ≠ a
set_option maxHeartbeats 1000000 in
set_option maxRecDepth 100000 in
theorem find_any (A : Option Addr) (n c : Nat) (bs : List Blk) (a : Int) (w : World) (hr : RdB w A n bs) :
    Calls Try.prog 57 #[.slice A n c, .int .i64 a] w fun e w' => ∃ k, e = .returned (.int .i64 k) ∧ FindP bs a k ∧ Kp w w' := by
  have HR := Lib.hid hr
  have HL : Hid (bs.length = n) := hr.1
  have hn0 := hr.2.1
  clear hr
  go_enter Try.func57, Try.ntmps57
  go_wp2
  go_loopw [5] (fun i wr => ∃ k : Nat, k ≤ n ∧ i = .int .i64 k ∧ Hid (Kp w wr) ∧ Hid (∀ j, j < k → (blkAt bs j).1 ≠ a)) (fun i _ => n - (intOf i).toNat)
  case atStart => exact ⟨0, by omega, rfl, Kp.self, fun j hj => absurd hj (by omega)⟩
  case round =>
    obtain ⟨k, hk, rfl, HK, HE⟩ := hrel
    by_cases hlt : k < n
    · obtain ⟨g, rfl, hc, hc2, hc3, hc4⟩ := (HR.out.kp HK.out).at_ k hlt
      have b1 : (0 : Int) ≤ k := by omega
      have b2 : (k : Int) < n := by omega
      by_cases he : (blkAt bs k).1 = a
      · have hb : ((blkAt bs k).1 == a) = true := by simp [he]
        have HF : Hid (FindP bs a k) := .inr ⟨k, rfl, by rw [HL.out]; exact hlt, he, HE.out⟩
        generalize (blkAt bs k).1 = y at *
        clear he
        go_wp2
        go_ret
        exact ⟨_, rfl, HF.out, HK.out⟩
      · have hb : ((blkAt bs k).1 == a) = false := by simp [he]
        have HE2 : Hid (∀ j, j < k + 1 → (blkAt bs j).1 ≠ a) := fun j hj => by
          by_cases h : j = k
          · subst h; exact he
          · exact HE.out j (by omega)
        generalize (blkAt bs k).1 = y at *
        clear he
        go_wp2
        go_roundw
        case rel => exact ⟨k + 1, by omega, by go_num, HK, HE2⟩
        case measure => simp [intOf]; omega
    · obtain rfl : k = n := by omega
      have HF : Hid (FindP bs a (-1)) := .inl ⟨rfl, fun j hj => HE.out j (by rw [← HL.out]; exact hj)⟩
      go_wp2
      go_ret
      exact ⟨_, rfl, HF.out, HK.out⟩
end Go.Proofs.Ytpmbjlmplfejgaa
