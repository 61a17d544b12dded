/- head.may and head.Word. -/
import Derived.Test.YtpmbjlmplfejgaaHeadA
namespace Go.Proofs.Ytpmbjlmplfejgaa
open Go.RowKit
set_option linter.unusedVariables false
set_option linter.unusedSimpArgs false

/-- the region of head.may, in each kind -/
theorem hMay0 (k c n : Int) (h : k = 0) : hMay k c n = (decide (k = 0) && decide (c = 0) && decide (n = 0)) := by subst h; simp [hMay]
theorem hMay1 (c n : Int) : hMay 1 c n = (decide (0 ≤ c) && decide (c ≤ 3) && decide (n = 0)) := by simp [hMay]
theorem hMay2 (c n : Int) : hMay 2 c n = (decide (c = 4) && (decide (1 ≤ n) && decide (n ≤ 4))) := by simp [hMay, Bool.and_assoc]
theorem hMay3 (c n : Int) : hMay 3 c n = (decide (c = 4) && (decide (1 ≤ n) && decide (n ≤ 3))) := by simp [hMay, Bool.and_assoc]
theorem hMayN (k c n : Int) (h : k < 0 ∨ 4 ≤ k) : hMay k c n = false := by simp [hMay]; omega

set_option maxHeartbeats 1000000 in
set_option maxRecDepth 100000 in
theorem hmay_any (k c n : Int) (w : World) : Calls Try.prog 100 #[hd k c n] w fun e w' => e = .returned (.bool (hMay k c n)) ∧ Kp w w' := by
  have hs : ∀ (w : World) (a : Addr) (m : Mode) (fn : Fn) (fi ca : Array Value), (store a (.func fn fi ca) m).run Try.prog w = stored Try.prog w a (.func fn fi ca) m := fun w a m fn fi ca => run_store Try.prog w a _ m rfl
  have h180 := call180
  have h181 := call181
  have h182 := call182
  have h183 := call183
  go_enter Try.func100, Try.ntmps100
  go_wp2_with fail
  refine (rights_any _).mono ?_
  rintro e w1 ⟨g, rfl, hg, hk⟩
  obtain ⟨b0, b1, b2⟩ := box3 hk
  have HK1 := Lib.hid (Kp.trans (Kp.self.alloc _) hk)
  clear hk
  go_wp2_with fail
  have hk2 : Kp w1 (w1.alloc (.cells #[.func (.func 180) #[] #[], .func (.func 181) #[] #[.pointer (some ⟨g, 0, none⟩)], .func (.func 182) #[] #[.pointer (some ⟨g, 0, none⟩)], .func (.func 183) #[] #[.pointer (some ⟨g, 0, none⟩)]] 178)) := Kp.self.alloc _
  have c0 := box_cell (w := w1) (cs := #[.func (.func 180) #[] #[], .func (.func 181) #[] #[.pointer (some ⟨g, 0, none⟩)], .func (.func 182) #[] #[.pointer (some ⟨g, 0, none⟩)], .func (.func 183) #[] #[.pointer (some ⟨g, 0, none⟩)]]) (t := 178) (fr := (0, 0)) Kp.self 0 rfl
  have c1 := box_cell (w := w1) (cs := #[.func (.func 180) #[] #[], .func (.func 181) #[] #[.pointer (some ⟨g, 0, none⟩)], .func (.func 182) #[] #[.pointer (some ⟨g, 0, none⟩)], .func (.func 183) #[] #[.pointer (some ⟨g, 0, none⟩)]]) (t := 178) (fr := (0, 0)) Kp.self 1 rfl
  have c2 := box_cell (w := w1) (cs := #[.func (.func 180) #[] #[], .func (.func 181) #[] #[.pointer (some ⟨g, 0, none⟩)], .func (.func 182) #[] #[.pointer (some ⟨g, 0, none⟩)], .func (.func 183) #[] #[.pointer (some ⟨g, 0, none⟩)]]) (t := 178) (fr := (0, 0)) Kp.self 2 rfl
  have c3 := box_cell (w := w1) (cs := #[.func (.func 180) #[] #[], .func (.func 181) #[] #[.pointer (some ⟨g, 0, none⟩)], .func (.func 182) #[] #[.pointer (some ⟨g, 0, none⟩)], .func (.func 183) #[] #[.pointer (some ⟨g, 0, none⟩)]]) (t := 178) (fr := (0, 0)) Kp.self 3 rfl
  generalize w1.alloc (.cells #[.func (.func 180) #[] #[], .func (.func 181) #[] #[.pointer (some ⟨g, 0, none⟩)], .func (.func 182) #[] #[.pointer (some ⟨g, 0, none⟩)], .func (.func 183) #[] #[.pointer (some ⟨g, 0, none⟩)]] 178) = w2 at *
  have HK2 : Hid (Kp w w2) := Kp.trans HK1.out hk2
  have HG : Hid (w2.cell? ⟨g, 0, none⟩ = some fromV) := hk2.cell hg
  have l0 := fun W : KW w2 => W.cell (hk2.cell b0)
  have l1 := fun W : KW w2 => W.cell (hk2.cell b1)
  have l2 := fun W : KW w2 => W.cell (hk2.cell b2)
  clear hk2 b0 b1 b2 hg
  rcases (by omega : k < 0 ∨ 4 ≤ k ∨ k = 0 ∨ k = 1 ∨ k = 2 ∨ k = 3) with h | h | h | h | h | h
  · have d1 : decide (0 ≤ k) = false := by simp; omega
    refine wp_region_kw w2 Kp.self (by kernel_rfl) (by kernel_rfl) ?_
    repeat (any_goals (first | go_big_quiet_step (fail) | quiet_step (fail)))
    refine wpQuiet_nil ?_
    rintro w3 ⟨W, e⟩
    have hk3 : Kp w w3 := Kp.trans HK2.out (e ▸ W.2)
    clear e W l0 l1 l2 c0 c1 c2 c3
    go_wp2
    go_ret
    exact ⟨ret_bool (by rw [hMayN _ _ _ (.inl h)]), hk3⟩
  · have d1 : decide (0 ≤ k) = true := by simp; omega
    have d2 : decide (k < 4) = false := by simp; omega
    refine wp_region_kw w2 Kp.self (by kernel_rfl) (by kernel_rfl) ?_
    repeat (any_goals (first | go_big_quiet_step (fail) | quiet_step (fail)))
    refine wpQuiet_nil ?_
    rintro w3 ⟨W, e⟩
    have hk3 : Kp w w3 := Kp.trans HK2.out (e ▸ W.2)
    clear e W l0 l1 l2 c0 c1 c2 c3
    go_wp2
    go_ret
    exact ⟨ret_bool (by rw [hMayN _ _ _ (.inr h)]), hk3⟩
  · subst h
    have m0 := fun W : KW w2 => W.cell c0
    refine wp_region_kw w2 Kp.self (by kernel_rfl) (by kernel_rfl) ?_
    repeat (any_goals (first | go_big_quiet_step ((go_at_call 180; rename_i W; exact kw_call (free_any _ _ _ _))) | quiet_step ((go_at_call 180; rename_i W; exact kw_call (free_any _ _ _ _)))))
    refine wpQuiet_nil ?_
    rintro w3 ⟨W, e⟩
    have hk3 : Kp w w3 := Kp.trans HK2.out (e ▸ W.2)
    clear e W l0 l1 l2 c0 c1 c2 c3 m0
    go_wp2
    go_ret
    exact ⟨ret_bool (by rw [hMay0 _ _ _ rfl]; simp), hk3⟩
  · subst h
    have m0 := fun W : KW w2 => W.cell c1
    refine wp_region_kw w2 Kp.self (by kernel_rfl) (by kernel_rfl) ?_
    repeat (any_goals (first | go_big_quiet_step ((go_at_call 181; rename_i W; exact kw_call (small_any _ _ _ _ _ (W.cell HG.out)))) | quiet_step ((go_at_call 181; rename_i W; exact kw_call (small_any _ _ _ _ _ (W.cell HG.out))))))
    refine wpQuiet_nil ?_
    rintro w3 ⟨W, e⟩
    have hk3 : Kp w w3 := Kp.trans HK2.out (e ▸ W.2)
    clear e W l0 l1 l2 c0 c1 c2 c3 m0
    go_wp2
    go_ret
    exact ⟨ret_bool (by rw [hMay1]), hk3⟩
  · subst h
    have m0 := fun W : KW w2 => W.cell c2
    refine wp_region_kw w2 Kp.self (by kernel_rfl) (by kernel_rfl) ?_
    repeat (any_goals (first | go_big_quiet_step ((go_at_call 182; rename_i W; exact kw_call (large_any _ _ _ _ _ (W.cell HG.out)))) | quiet_step ((go_at_call 182; rename_i W; exact kw_call (large_any _ _ _ _ _ (W.cell HG.out))))))
    refine wpQuiet_nil ?_
    rintro w3 ⟨W, e⟩
    have hk3 : Kp w w3 := Kp.trans HK2.out (e ▸ W.2)
    clear e W l0 l1 l2 c0 c1 c2 c3 m0
    go_wp2
    go_ret
    exact ⟨ret_bool (by rw [hMay2]), hk3⟩
  · subst h
    have m0 := fun W : KW w2 => W.cell c3
    refine wp_region_kw w2 Kp.self (by kernel_rfl) (by kernel_rfl) ?_
    repeat (any_goals (first | go_big_quiet_step ((go_at_call 183; rename_i W; exact kw_call (more_any _ _ _ _ _ (W.cell HG.out)))) | quiet_step ((go_at_call 183; rename_i W; exact kw_call (more_any _ _ _ _ _ (W.cell HG.out))))))
    refine wpQuiet_nil ?_
    rintro w3 ⟨W, e⟩
    have hk3 : Kp w w3 := Kp.trans HK2.out (e ▸ W.2)
    clear e W l0 l1 l2 c0 c1 c2 c3 m0
    go_wp2
    go_ret
    exact ⟨ret_bool (by rw [hMay3]), hk3⟩
end Go.Proofs.Ytpmbjlmplfejgaa
