/- Heads: which may be, by the closures of head.rights. -/
import Derived.Test.YtpmbjlmplfejgaaGeoB
import Derived.Test.YtpmbjlmplfejgaaSplit
import Derived.Test.YtpmbjlmplfejgaaSumD
import Derived.Test.YtpmbjlmplfejgaaSupA
namespace Go.Proofs.Ytpmbjlmplfejgaa
open Go.RowKit
set_option linter.unusedVariables false
set_option linter.unusedSimpArgs false

abbrev hd (k c n : Int) : Value := .agg #[.int .i64 k, .int .i64 c, .int .i64 n]
def hMay (k c n : Int) : Bool :=
  (decide (k = 0) && decide (c = 0) && decide (n = 0)) || (decide (k = 1) && decide (0 ≤ c) && decide (c ≤ 3) && decide (n = 0)) ||
  (decide (k = 2) && decide (c = 4) && decide (1 ≤ n) && decide (n ≤ 4)) || (decide (k = 3) && decide (c = 4) && decide (1 ≤ n) && decide (n ≤ 3))

theorem from_any (n lo hi : Int) (w : World) : Calls Try.prog 179 #[.int .i64 n, .int .i64 lo, .int .i64 hi] w fun e w' => e = .returned (.bool (decide (lo ≤ n) && decide (n ≤ hi))) ∧ w = w' := by
  by_cases h1 : lo ≤ n
  · by_cases h2 : n ≤ hi
    all_goals
      go_enter Try.func179, Try.ntmps179
      go_wp2
      go_ret
      exact ⟨ret_bool (by simp [h1, h2]), rfl⟩
  · go_enter Try.func179, Try.ntmps179
    go_wp2
    go_ret
    exact ⟨ret_bool (by simp; omega), rfl⟩

theorem free_any (k c n : Int) (w : World) : Calls Try.prog 180 #[hd k c n] w fun e w' => e = .returned (.bool (decide (k = 0) && decide (c = 0) && decide (n = 0))) ∧ Kp w w' := by
  by_cases h1 : k = 0
  · by_cases h2 : c = 0
    · by_cases h3 : n = 0
      all_goals
        go_enter Try.func180, Try.ntmps180
        go_wp2
        go_ret
        exact ⟨ret_bool (by simp [h1, h2, h3]), Kp.self.alloc _⟩
    · go_enter Try.func180, Try.ntmps180
      go_wp2
      go_ret
      exact ⟨ret_bool (by simp [h1, h2]), Kp.self.alloc _⟩
  · go_enter Try.func180, Try.ntmps180
    go_wp2
    go_ret
    exact ⟨ret_bool (by simp [h1]), Kp.self.alloc _⟩

theorem call179 (args : Array Value) (w : World) : (callFunc 179 args).run Try.prog w = .ok (.enter 179 args) w := by kernel_rfl
theorem call180 (args : Array Value) (w : World) : (callFunc 180 args).run Try.prog w = .ok (.enter 180 args) w := by kernel_rfl
theorem call181 (args : Array Value) (w : World) : (callFunc 181 args).run Try.prog w = .ok (.enter 181 args) w := by kernel_rfl
theorem call182 (args : Array Value) (w : World) : (callFunc 182 args).run Try.prog w = .ok (.enter 182 args) w := by kernel_rfl
theorem call183 (args : Array Value) (w : World) : (callFunc 183 args).run Try.prog w = .ok (.enter 183 args) w := by kernel_rfl
abbrev fromV : Value := .func (.func 179) #[] #[]


theorem small_any (g : Nat) (k c n : Int) (w : World) (hg : w.cell? ⟨g, 0, none⟩ = some fromV) : Calls Try.prog 181 #[hd k c n, .pointer (some ⟨g, 0, none⟩)] w fun e w' => e = .returned (.bool (decide (0 ≤ c) && decide (c ≤ 3) && decide (n = 0))) ∧ Kp w w' := by
  have hcall := call179
  have hg : (w.alloc (.cells #[.int .i64 k, .int .i64 c, .int .i64 n] 42)).cell? ⟨g, 0, none⟩ = some fromV := (Kp.self.alloc _).cell hg
  cases hb : decide (0 ≤ c) && decide (c ≤ 3)
  · go_enter Try.func181, Try.ntmps181
    go_wp2_with fail
    refine (from_any _ _ _ _).mono ?_
    rw [hb]
    rintro e w1 ⟨rfl, rfl⟩
    go_wp2
    go_ret
    exact ⟨ret_bool (by simp [hb]), Kp.self.alloc _⟩
  · by_cases h3 : n = 0
    · subst h3
      go_enter Try.func181, Try.ntmps181
      go_wp2_with fail
      refine (from_any _ _ _ _).mono ?_
      rw [hb]
      rintro e w1 ⟨rfl, rfl⟩
      go_wp2
      go_ret
      exact ⟨ret_bool (by simp [hb]), Kp.self.alloc _⟩
    · go_enter Try.func181, Try.ntmps181
      go_wp2_with fail
      refine (from_any _ _ _ _).mono ?_
      rw [hb]
      rintro e w1 ⟨rfl, rfl⟩
      go_wp2
      go_ret
      exact ⟨ret_bool (by simp [hb, h3]), Kp.self.alloc _⟩

theorem large_any (g : Nat) (k c n : Int) (w : World) (hg : w.cell? ⟨g, 0, none⟩ = some fromV) : Calls Try.prog 182 #[hd k c n, .pointer (some ⟨g, 0, none⟩)] w fun e w' => e = .returned (.bool (decide (c = 4) && (decide (1 ≤ n) && decide (n ≤ 4)))) ∧ Kp w w' := by
  have hcall := call179
  have hg : (w.alloc (.cells #[.int .i64 k, .int .i64 c, .int .i64 n] 42)).cell? ⟨g, 0, none⟩ = some fromV := (Kp.self.alloc _).cell hg
  by_cases h4 : c = 4
  · subst h4
    go_enter Try.func182, Try.ntmps182
    go_wp2_with fail
    refine (from_any _ _ _ _).mono ?_
    rintro e w1 ⟨rfl, rfl⟩
    go_wp2
    go_ret
    exact ⟨ret_bool (by simp), Kp.self.alloc _⟩
  · go_enter Try.func182, Try.ntmps182
    go_wp2
    go_ret
    exact ⟨ret_bool (by simp [h4]), Kp.self.alloc _⟩

theorem more_any (g : Nat) (k c n : Int) (w : World) (hg : w.cell? ⟨g, 0, none⟩ = some fromV) : Calls Try.prog 183 #[hd k c n, .pointer (some ⟨g, 0, none⟩)] w fun e w' => e = .returned (.bool (decide (c = 4) && (decide (1 ≤ n) && decide (n ≤ 3)))) ∧ Kp w w' := by
  have hcall := call179
  have hg : (w.alloc (.cells #[.int .i64 k, .int .i64 c, .int .i64 n] 42)).cell? ⟨g, 0, none⟩ = some fromV := (Kp.self.alloc _).cell hg
  by_cases h4 : c = 4
  · subst h4
    go_enter Try.func183, Try.ntmps183
    go_wp2_with fail
    refine (from_any _ _ _ _).mono ?_
    rintro e w1 ⟨rfl, rfl⟩
    go_wp2
    go_ret
    exact ⟨ret_bool (by simp), Kp.self.alloc _⟩
  · go_enter Try.func183, Try.ntmps183
    go_wp2
    go_ret
    exact ⟨ret_bool (by simp [h4]), Kp.self.alloc _⟩

abbrev rightsV (g : Nat) : Value := .agg #[.func (.func 180) #[] #[], .func (.func 181) #[] #[.pointer (some ⟨g, 0, none⟩)], .func (.func 182) #[] #[.pointer (some ⟨g, 0, none⟩)], .func (.func 183) #[] #[.pointer (some ⟨g, 0, none⟩)]]
set_option maxHeartbeats 400000 in
theorem rights_any (w : World) : Calls Try.prog 153 #[] w fun e w' => ∃ g, e = .returned (rightsV g) ∧ w'.cell? ⟨g, 0, none⟩ = some fromV ∧ Kp w w' := by
  have hs : ∀ (w : World) (a : Addr) (m : Mode) (fn : Fn) (fi ca : Array Value), (store a (.func fn fi ca) m).run Try.prog w = stored Try.prog w a (.func fn fi ca) m := fun w a m fn fi ca => run_store Try.prog w a _ m rfl
  go_enter Try.func153, Try.ntmps153
  go_wp2
  exact bodyPost_ret (v := rightsV (w.heap.size + 1)) (by simp [results, Try.results153, go_sem]) rfl ⟨_, rfl, by rw [World.cell?_alloc_at _ _ _ _ (by simp)]; rfl, (Kp.self.alloc _).alloc _⟩
end Go.Proofs.Ytpmbjlmplfejgaa
