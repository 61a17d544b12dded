/- geom.areas, geom.Total, and the reference's. -/
import Derived.Test.YtpmbjlmplfejgaaGeoA
namespace Go.Proofs.Ytpmbjlmplfejgaa
open Go.RowKit
set_option linter.unusedVariables false

abbrev areasV (s l : Int) : Value := .agg #[.int .i64 1, .int .i64 8, .int .i64 1, .int .i64 8, .int .i64 l, .int .i64 40, .int .i64 s, .int .i64 8, .int .i64 s, .int .i64 64]
set_option maxHeartbeats 400000 in
theorem areas_any (s l r : Int) (w : World) : Calls Try.prog 152 #[geo s l r] w fun e w' => e = .returned (areasV s l) ∧ Kp w w' := by
  go_enter Try.func152, Try.ntmps152
  go_wp2
  exact bodyPost_ret (v := areasV s l) (by simp [results, Try.results152, go_sem]) rfl ⟨rfl, (Kp.self.alloc _).alloc _⟩

def total (s l : Int) : Int := 16 + 40 * l + 72 * s
theorem idxA0 (s l : Int) (w : World) : (Instr.index 176 (areasV s l) (.int .i64 0)).run Try.prog w = .ok (.agg #[.int .i64 1, .int .i64 8]) w := by kernel_rfl
theorem idxA1 (s l : Int) (w : World) : (Instr.index 176 (areasV s l) (.int .i64 1)).run Try.prog w = .ok (.agg #[.int .i64 1, .int .i64 8]) w := by kernel_rfl
theorem idxA2 (s l : Int) (w : World) : (Instr.index 176 (areasV s l) (.int .i64 2)).run Try.prog w = .ok (.agg #[.int .i64 l, .int .i64 40]) w := by kernel_rfl
theorem idxA3 (s l : Int) (w : World) : (Instr.index 176 (areasV s l) (.int .i64 3)).run Try.prog w = .ok (.agg #[.int .i64 s, .int .i64 8]) w := by kernel_rfl
theorem idxA4 (s l : Int) (w : World) : (Instr.index 176 (areasV s l) (.int .i64 4)).run Try.prog w = .ok (.agg #[.int .i64 s, .int .i64 64]) w := by kernel_rfl
set_option maxHeartbeats 800000 in
set_option maxRecDepth 100000 in
theorem total_any (s l r : Int) (w : World) : Calls Try.prog 98 #[geo s l r] w fun e w' => e = .returned (.int .i64 (if gMay s l r then total s l else 0)) ∧ Kp w w' := by
  cases hg : gMay s l r
  · go_enter Try.func98, Try.ntmps98
    go_wp2_with (go_at_call 95; refine (may_any _ _ _ _).mono ?_; rw [hg]; rintro e w' ⟨rfl, hk⟩)
    go_ret
    exact ⟨rfl, (Kp.self.alloc _).trans hk⟩
  · go_enter Try.func98, Try.ntmps98
    go_wp2_with fail
    refine (may_any _ _ _ _).mono ?_
    rw [hg]
    rintro e w1 ⟨rfl, hk⟩
    obtain ⟨g0, g1, g2⟩ := box3 hk
    go_wp2_with fail
    refine (areas_any _ _ _ _).mono ?_
    rintro e w2 ⟨rfl, hk2⟩
    have HK := Lib.hid (hk.trans hk2)
    clear hk hk2 g0 g1 g2
    have hm : 1 ≤ s ∧ s ≤ 16 ∧ 1 ≤ l ∧ l ≤ 4 ∧ 1 ≤ r ∧ r ≤ 8 := by simpa [gMay] using hg
    clear hg
    go_wp2_with fail
    refine wp_loop_rounds 6 ?_
    have i0 := idxA0 s l
    have i1 := idxA1 s l
    have i2 := idxA2 s l
    have i3 := idxA3 s l
    have i4 := idxA4 s l
    rw [rounds_succ]
    go_wp2
    rw [rounds_succ]
    go_wp2
    rw [rounds_succ]
    go_wp2
    rw [rounds_succ]
    go_wp2
    rw [rounds_succ]
    go_wp2
    rw [rounds_succ]
    go_wp2
    go_ret
    exact ⟨ret_int (by simp [total]; omega), (((((Kp.trans (Kp.self.alloc _) HK.out).alloc _).alloc _).alloc _).alloc _).alloc _⟩

set_option maxHeartbeats 800000 in
theorem rmay_any (s l r : Int) (w : World) : Calls Try.prog 50 #[geo s l r] w fun e w' => e = .returned (.bool (gMay s l r)) ∧ Kp w w' := by
  have h : (1 ≤ s ∧ s ≤ 16 ∧ 1 ≤ l ∧ l ≤ 4 ∧ 1 ≤ r ∧ r ≤ 8) ∨ ¬ 1 ≤ s ∨ (1 ≤ s ∧ ¬ s ≤ 16) ∨ (1 ≤ s ∧ s ≤ 16 ∧ ¬ 1 ≤ l) ∨ (1 ≤ s ∧ s ≤ 16 ∧ 1 ≤ l ∧ ¬ l ≤ 4) ∨
      (1 ≤ s ∧ s ≤ 16 ∧ 1 ≤ l ∧ l ≤ 4 ∧ ¬ 1 ≤ r) ∨ (1 ≤ s ∧ s ≤ 16 ∧ 1 ≤ l ∧ l ≤ 4 ∧ 1 ≤ r ∧ ¬ r ≤ 8) := by omega
  rcases h with ⟨a1, a2, a3, a4, a5, a6⟩ | a1 | ⟨a1, a2⟩ | ⟨a1, a2, a3⟩ | ⟨a1, a2, a3, a4⟩ | ⟨a1, a2, a3, a4, a5⟩ | ⟨a1, a2, a3, a4, a5, a6⟩
  all_goals
    go_enter Try.func50, Try.ntmps50
    go_wp2
    go_ret
    exact ⟨ret_bool (by simp [gMay]; omega), Kp.self.alloc _⟩

set_option maxHeartbeats 800000 in
theorem rtotal_any (s l r : Int) (w : World) : Calls Try.prog 51 #[geo s l r] w fun e w' => e = .returned (.int .i64 (if gMay s l r then total s l else 0)) ∧ Kp w w' := by
  cases hg : gMay s l r
  · go_enter Try.func51, Try.ntmps51
    go_wp2_with (go_at_call 50; refine (rmay_any _ _ _ _).mono ?_; rw [hg]; rintro e w' ⟨rfl, hk⟩)
    go_ret
    exact ⟨rfl, (Kp.self.alloc _).trans hk⟩
  · have hm : 1 ≤ s ∧ s ≤ 16 ∧ 1 ≤ l ∧ l ≤ 4 ∧ 1 ≤ r ∧ r ≤ 8 := by simpa [gMay] using hg
    go_enter Try.func51, Try.ntmps51
    go_wp2_with fail
    refine (rmay_any _ _ _ _).mono ?_
    rw [hg]
    rintro e w1 ⟨rfl, hk⟩
    obtain ⟨g0, g1, g2⟩ := box3 hk
    have HK := Lib.hid hk
    clear hk hg
    go_wp2
    go_ret
    exact ⟨ret_int (by simp [total]), Kp.trans (Kp.self.alloc _) HK.out⟩
end Go.Proofs.Ytpmbjlmplfejgaa
