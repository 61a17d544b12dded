/- The reference's head of a word: all are tried. -/
import Derived.Test.YtpmbjlmplfejgaaHeadD
namespace Go.Proofs.Ytpmbjlmplfejgaa
open Go.RowKit
set_option linter.unusedVariables false
set_option linter.unusedSimpArgs false

def ltH (k c n k' c' n' : Int) : Prop := k < k' ∨ (k = k' ∧ (c < c' ∨ (c = c' ∧ n < n')))
/-- No head before these is the word's. -/
def NoH (x k' c' n' : Int) : Prop := ∀ k c n, hMay k c n = true → ltH k c n k' c' n' → wordV k c n ≠ x
theorem NoH.start (x : Int) : NoH x 0 0 0 := fun k c n h hl => by have := hMay_bd h; unfold ltH at hl; omega
theorem NoH.stepN {x k c n : Int} (h : NoH x k c n) (h1 : hMay k c n = true → wordV k c n ≠ x) : NoH x k c (n + 1) := fun k' c' n' hm hl => by
  by_cases he : ltH k' c' n' k c n
  · exact h _ _ _ hm he
  · obtain ⟨rfl, rfl, rfl⟩ : k' = k ∧ c' = c ∧ n' = n := by unfold ltH at *; omega
    exact h1 hm
theorem NoH.stepC {x k c : Int} (h : NoH x k c 5) : NoH x k (c + 1) 0 := fun k' c' n' hm hl => h _ _ _ hm (by have := hMay_bd hm; unfold ltH at *; omega)
theorem NoH.stepK {x k : Int} (h : NoH x k 5 0) : NoH x (k + 1) 0 0 := fun k' c' n' hm hl => h _ _ _ hm (by have := hMay_bd hm; unfold ltH at *; omega)
theorem NoH.all {x : Int} (h : NoH x 4 0 0) : ∀ k c n, hMay k c n = true → wordV k c n ≠ x := fun k c n hm => h _ _ _ hm (by have := hMay_bd hm; unfold ltH; omega)

def ResBox (w wr : World) : Prop := Kp (w.alloc (.cells #[.int .i64 0, .int .i64 0, .int .i64 0] 42)) wr

set_option maxHeartbeats 1000000 in
set_option maxRecDepth 100000 in
theorem hrread_any (x : Int) (w : World) (hx0 : 0 ≤ x) (hx1 : x < 18446744073709551616) :
    Calls Try.prog 39 #[.int .u64 x] w fun e w' => (∃ h ok, e = .returned (.tuple #[hdv h, .bool ok]) ∧ RdHead x h ok) ∧ Kp w w' := by
  go_enter Try.func39, Try.ntmps39
  go_wp2
  go_loopw [4] (fun i wr => ∃ k : Nat, k ≤ 4 ∧ i = .int .i64 k ∧ Hid (NoH x k 0 0) ∧ Hid (ResBox w wr)) (fun i _ => 4 - (intOf i).toNat)
  case atStart => exact ⟨0, by omega, rfl, NoH.start x, Kp.self⟩
  case round =>
    obtain ⟨k, hk, rfl, HN, HK⟩ := hrel
    by_cases hlt : k < 4
    · have b1 : (k : Int) < 4 := by omega
      go_wp2
      go_loopw [5] (fun i wr => ∃ c : Nat, c ≤ 5 ∧ i = .int .i64 c ∧ Hid (NoH x k c 0) ∧ Hid (ResBox w wr)) (fun i _ => 5 - (intOf i).toNat)
      case atStart => exact ⟨0, by omega, rfl, HN, HK⟩
      case round =>
        clear HN HK
        rename_i wr0
        obtain ⟨c, hc, rfl, HN, HK⟩ := hrel
        by_cases hlc : c < 5
        · have b2 : (c : Int) < 5 := by omega
          go_wp2
          go_loopw [6] (fun i wr => ∃ n : Nat, n ≤ 5 ∧ i = .int .i64 n ∧ Hid (NoH x k c n) ∧ Hid (ResBox w wr)) (fun i _ => 5 - (intOf i).toNat)
          case atStart => exact ⟨0, by omega, rfl, HN, HK⟩
          case round =>
            clear HN HK
            rename_i wr1
            obtain ⟨n, hn, rfl, HN, HK⟩ := hrel
            by_cases hln : n < 5
            · have b3 : (n : Int) < 5 := by omega
              go_wp2_with fail
              refine (hrmay_any k c n _).mono ?_
              rintro e w4 ⟨rfl, hk4⟩
              obtain ⟨q0, q1, q2⟩ := box3 hk4
              have HK4 : Hid (ResBox w w4) := Kp.trans HK.out (Kp.trans (Kp.self.alloc _) hk4)
              clear hk4
              cases hg : hMay k c n
              · go_wp2
                go_roundw
                case rel => exact ⟨n + 1, by omega, by go_num, by have := HN.out.stepN (fun h => by rw [hg] at h; cases h); exact this, HK4⟩
                case measure => simp [intOf]; omega
              · go_wp2_with fail
                refine (rword_any k c n _ hg).mono ?_
                rintro e w5 ⟨rfl, hk5⟩
                have p0 := hk5.cell q0
                have p1 := hk5.cell q1
                have p2 := hk5.cell q2
                have HK5 : Hid (ResBox w w5) := Kp.trans HK4.out hk5
                clear hk5 q0 q1 q2
                by_cases hx : wordV k c n = x
                · rw [hx]
                  obtain ⟨r0, r1, r2⟩ := box3 HK5.out
                  obtain ⟨f0, f1, f2⟩ := boxf3 HK5.out
                  go_wp2
                  obtain ⟨c0, c1, c2, hk4⟩ := set3 (.int .i64 k) (.int .i64 c) (.int .i64 n) (Kp.trans (Kp.self.alloc _) HK5.out) (Nat.le_refl _) r0 r1 r2
                  generalize ((w5.setCell ⟨w.heap.size, 0, none⟩ (.int .i64 k)).setCell ⟨w.heap.size, 1, none⟩ (.int .i64 c)).setCell ⟨w.heap.size, 2, none⟩ (.int .i64 n) = w6 at *
                  exact bodyPost_ret (v := .tuple #[hd k c n, .bool true]) (by simp [results, Try.results39, go_sem, c0, c1, c2]) rfl ⟨⟨(k, c, n), true, rfl, .inl ⟨rfl, hg, hx⟩⟩, hk4⟩
                · have hxb : (wordV k c n == x) = false := by simp [hx]
                  have HX : Hid (wordV k c n ≠ x) := hx
                  clear hx
                  go_wp2
                  go_roundw
                  case rel => exact ⟨n + 1, by omega, by go_num, by have := HN.out.stepN (fun _ => HX.out); exact this, HK5⟩
                  case measure => simp [intOf]; omega
            · obtain rfl : n = 5 := by omega
              have HC : Hid (NoH x k ((c + 1 : Nat) : Int) 0) := by
                have h1 := HN.out.stepC
                have h2 : NoH x k ((c + 1 : Nat) : Int) 0 := by simpa using h1
                exact h2
              go_wp2
              go_roundw
              case rel => exact ⟨c + 1, by omega, by go_num, HC, HK⟩
              case measure => simp [intOf]; omega
        · obtain rfl : c = 5 := by omega
          have HC : Hid (NoH x ((k + 1 : Nat) : Int) 0 0) := by
            have h1 := HN.out.stepK
            have h2 : NoH x ((k + 1 : Nat) : Int) 0 0 := by simpa using h1
            exact h2
          go_wp2
          go_roundw
          case rel => exact ⟨k + 1, by omega, by go_num, HC, HK⟩
          case measure => simp [intOf]; omega
    · obtain rfl : k = 4 := by omega
      obtain ⟨r0, r1, r2⟩ := box3 HK.out
      obtain ⟨f0, f1, f2⟩ := boxf3 HK.out
      go_wp2
      obtain ⟨c0, c1, c2, hk4⟩ := set3 (.int .i64 0) (.int .i64 0) (.int .i64 0) (Kp.trans (Kp.self.alloc _) HK.out) (Nat.le_refl _) r0 r1 r2
      generalize ((wr.setCell ⟨w.heap.size, 0, none⟩ (.int .i64 0)).setCell ⟨w.heap.size, 1, none⟩ (.int .i64 0)).setCell ⟨w.heap.size, 2, none⟩ (.int .i64 0) = w5 at *
      exact bodyPost_ret (v := .tuple #[hd 0 0 0, .bool false]) (by simp [results, Try.results39, go_sem, c0, c1, c2]) rfl ⟨⟨(0, 0, 0), false, rfl, .inr ⟨rfl, rfl, NoH.all HN.out⟩⟩, hk4⟩
end Go.Proofs.Ytpmbjlmplfejgaa
