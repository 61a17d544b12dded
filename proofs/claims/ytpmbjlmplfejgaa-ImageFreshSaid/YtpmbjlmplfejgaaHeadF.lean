/- The examples, and the statements HeadWords, HeadReads as walks. -/
import Derived.Test.YtpmbjlmplfejgaaHeadE
import Derived.WalkMore
namespace Go.Proofs.Ytpmbjlmplfejgaa
open Go.RowKit
set_option linter.unusedVariables false
set_option linter.unusedSimpArgs false

set_option maxHeartbeats 1000000 in
set_option maxRecDepth 100000 in
theorem run_good (w0 w : World) (g : Nat) (hg : g = w0.heap.size) (hk : Kp (w0.alloc (.cells #[.int .i64 2, .int .i64 4, .int .i64 2, .int .i64 3, .int .i64 4, .int .i64 1] 42)) w) :
    Calls Try.prog 99 #[.slice (some ⟨g, 0, none⟩) 2 2] w fun e w' => e = .returned (.bool true) ∧ Kp w w' := by
  subst hg
  have h0 : w.cell? ⟨w0.heap.size, 0, none⟩ = some (.int .i64 2) := box_cell hk 0 rfl
  have h1 : w.cell? ⟨w0.heap.size, 1, none⟩ = some (.int .i64 4) := box_cell hk 1 rfl
  have h2 : w.cell? ⟨w0.heap.size, 2, none⟩ = some (.int .i64 2) := box_cell hk 2 rfl
  have h3 : w.cell? ⟨w0.heap.size, 3, none⟩ = some (.int .i64 3) := box_cell hk 3 rfl
  have h4 : w.cell? ⟨w0.heap.size, 4, none⟩ = some (.int .i64 4) := box_cell hk 4 rfl
  have h5 : w.cell? ⟨w0.heap.size, 5, none⟩ = some (.int .i64 1) := box_cell hk 5 rfl
  have g3 : ∀ o, (w.alloc o).cell? ⟨w0.heap.size, 3, none⟩ = some (.int .i64 3) := fun o => (Kp.self.alloc o).cell h3
  have g4 : ∀ o, (w.alloc o).cell? ⟨w0.heap.size, 4, none⟩ = some (.int .i64 4) := fun o => (Kp.self.alloc o).cell h4
  have g5 : ∀ o, (w.alloc o).cell? ⟨w0.heap.size, 5, none⟩ = some (.int .i64 1) := fun o => (Kp.self.alloc o).cell h5
  clear hk
  generalize w0.heap.size = g at *
  go_enter Try.func99, Try.ntmps99
  go_wp2
  go_step3
  go_wp2
  go_step3
  go_wp2
  refine wp_loop_rounds 3 ?_
  rw [rounds_succ]
  go_wp2
  rw [rounds_succ]
  go_wp2
  rw [rounds_succ]
  go_wp2
  rw [Exit.noGoto_ret]
  go_ret
  exact ⟨rfl, (Kp.self.alloc _).alloc _⟩

set_option maxHeartbeats 1000000 in
set_option maxRecDepth 100000 in
theorem run_bad (w0 w : World) (g : Nat) (hg : g = w0.heap.size) (hk : Kp (w0.alloc (.cells #[.int .i64 2, .int .i64 4, .int .i64 2, .int .i64 0, .int .i64 0, .int .i64 0] 42)) w) :
    Calls Try.prog 99 #[.slice (some ⟨g, 0, none⟩) 2 2] w fun e w' => e = .returned (.bool false) ∧ Kp w w' := by
  subst hg
  have h0 : w.cell? ⟨w0.heap.size, 0, none⟩ = some (.int .i64 2) := box_cell hk 0 rfl
  have h1 : w.cell? ⟨w0.heap.size, 1, none⟩ = some (.int .i64 4) := box_cell hk 1 rfl
  have h2 : w.cell? ⟨w0.heap.size, 2, none⟩ = some (.int .i64 2) := box_cell hk 2 rfl
  have h3 : w.cell? ⟨w0.heap.size, 3, none⟩ = some (.int .i64 0) := box_cell hk 3 rfl
  have h4 : w.cell? ⟨w0.heap.size, 4, none⟩ = some (.int .i64 0) := box_cell hk 4 rfl
  have h5 : w.cell? ⟨w0.heap.size, 5, none⟩ = some (.int .i64 0) := box_cell hk 5 rfl
  have g3 : ∀ o, (w.alloc o).cell? ⟨w0.heap.size, 3, none⟩ = some (.int .i64 0) := fun o => (Kp.self.alloc o).cell h3
  have g4 : ∀ o, (w.alloc o).cell? ⟨w0.heap.size, 4, none⟩ = some (.int .i64 0) := fun o => (Kp.self.alloc o).cell h4
  have g5 : ∀ o, (w.alloc o).cell? ⟨w0.heap.size, 5, none⟩ = some (.int .i64 0) := fun o => (Kp.self.alloc o).cell h5
  clear hk
  generalize w0.heap.size = g at *
  go_enter Try.func99, Try.ntmps99
  go_wp2
  go_step3
  go_wp2
  go_step3
  go_wp2
  refine wp_loop_rounds 3 ?_
  rw [rounds_succ]
  go_wp2
  rw [rounds_succ]
  go_wp2
  rw [Exit.noGoto_ret]
  go_ret
  exact ⟨rfl, (Kp.self.alloc _).alloc _⟩

set_option maxHeartbeats 1000000 in
set_option maxRecDepth 100000 in
theorem alive08 (w : World) : Calls Try.prog 34 #[] w fun e w' => e = .returned (.bool true) ∧ Kp w w' := by
  have hw0 : wordV 0 0 0 = 0 := by simp [wordV]
  have hm0 : hMay 0 0 0 = true := by decide
  go_enter Try.func34, Try.ntmps34
  go_wp2_with fail
  refine (word_any 0 0 0 _).mono ?_
  rw [hw0, hm0]
  rintro e w1 ⟨rfl, hk1⟩
  have HK1 := Lib.hid hk1
  clear hk1
  go_wp2_with fail
  refine (run_good (w1.alloc (.cells #[.int .i64 2, .int .i64 4, .int .i64 2] 42)) _ _ (by simp) Kp.self).mono ?_
  rintro e w2 ⟨rfl, hk2⟩
  have p0 : w2.cell? ⟨w1.heap.size, 0, none⟩ = some (.int .i64 2) := hk2.cell (Kp.cell (Kp.self.alloc _) (box_cell (w := w1) (cs := #[.int .i64 2, .int .i64 4, .int .i64 2]) (t := 42) (fr := (0, 0)) Kp.self 0 rfl))
  have p1 : w2.cell? ⟨w1.heap.size, 1, none⟩ = some (.int .i64 4) := hk2.cell (Kp.cell (Kp.self.alloc _) (box_cell (w := w1) (cs := #[.int .i64 2, .int .i64 4, .int .i64 2]) (t := 42) (fr := (0, 0)) Kp.self 1 rfl))
  have p2 : w2.cell? ⟨w1.heap.size, 2, none⟩ = some (.int .i64 2) := hk2.cell (Kp.cell (Kp.self.alloc _) (box_cell (w := w1) (cs := #[.int .i64 2, .int .i64 4, .int .i64 2]) (t := 42) (fr := (0, 0)) Kp.self 2 rfl))
  have HK2 : Hid (Kp w w2) := Kp.trans HK1.out (Kp.trans ((Kp.self.alloc _).alloc _) hk2)
  clear hk2
  go_wp2_with fail
  refine (run_bad w2 _ _ (by simp) Kp.self).mono ?_
  rintro e w3 ⟨rfl, hk3⟩
  have HK3 : Hid (Kp w w3) := Kp.trans HK2.out (Kp.trans (Kp.self.alloc _) hk3)
  clear hk3
  go_wp2
  go_ret
  exact ⟨rfl, HK3.out⟩

set_option maxHeartbeats 1000000 in
set_option maxRecDepth 100000 in
theorem law_HeadWords (k c n : Int) (w : World) : Calls Try.prog 7 #[hd k c n] w fun e w' => e = .returned (.bool true) ∧ Kp w w' := by
  go_enter Try.func7, Try.ntmps7
  go_wp2_with fail
  refine (alive08 _).mono ?_
  rintro e w1 ⟨rfl, hk⟩
  obtain ⟨g0, g1, g2⟩ := box3 hk
  have HK1 := Lib.hid (Kp.trans (Kp.self.alloc _) hk)
  clear hk
  go_wp2_with fail
  refine (word_any k c n _).mono ?_
  rintro e w2 ⟨rfl, hk2⟩
  have a0 := hk2.cell g0
  have a1 := hk2.cell g1
  have a2 := hk2.cell g2
  have HK2 := Lib.hid (Kp.trans HK1.out hk2)
  clear hk2 g0 g1 g2
  go_wp2_with fail
  refine (hrmay_any k c n _).mono ?_
  rintro e w3 ⟨rfl, hk3⟩
  have b0 := hk3.cell a0
  have b1 := hk3.cell a1
  have b2 := hk3.cell a2
  have HK3 := Lib.hid (Kp.trans HK2.out hk3)
  clear hk3 a0 a1 a2
  cases hg : hMay k c n
  · have hw : wordV k c n = 0 := by simp [wordV, hg]
    rw [hw]
    go_wp2
    go_ret
    exact ⟨rfl, HK3.out⟩
  · have hx := wordV_fields hg rfl
    have HX := Lib.hid hx
    have hb : 0 ≤ wordV k c n ∧ wordV k c n < 18446744073709551616 := ⟨hx.1, hx.2.1⟩
    clear hx
    have hW : ∀ W, Calls Try.prog 38 #[hd k c n] W fun e w' => e = .returned (.int .u64 (wordV k c n)) ∧ Kp W w' := fun W => rword_any k c n W hg
    have HU : Hid (∀ h ok, RdHead (wordV k c n) h ok → (k, c, n) = h ∧ true = ok) := fun h ok hr => RdHead.uniq (h := (k, c, n)) (ok := true) (.inl ⟨rfl, hg, rfl⟩) hr
    have HWD := Lib.hid hW
    clear hW
    generalize wordV k c n = x at *
    go_wp2_with fail
    refine (hread_any x _ hb.1 hb.2).mono ?_
    rintro e w4 ⟨⟨h, ok, rfl, hr⟩, hk4⟩
    obtain ⟨rfl, rfl⟩ := HU.out h ok hr
    have c0 := hk4.cell b0
    have c1 := hk4.cell b1
    have c2 := hk4.cell b2
    have HK4 := Lib.hid (Kp.trans HK3.out hk4)
    clear hk4 b0 b1 b2 hr
    have d0 : ∀ o, (w4.alloc o).cell? ⟨w.heap.size, 0, none⟩ = some (.int .i64 k) := fun o => (Kp.self.alloc o).cell c0
    have d1 : ∀ o, (w4.alloc o).cell? ⟨w.heap.size, 1, none⟩ = some (.int .i64 c) := fun o => (Kp.self.alloc o).cell c1
    have d2 : ∀ o, (w4.alloc o).cell? ⟨w.heap.size, 2, none⟩ = some (.int .i64 n) := fun o => (Kp.self.alloc o).cell c2
    have hre : rdErr true = 0 := rfl
    dsimp only [hdv]
    rw [hre]
    go_wp2_with fail
    refine (HWD.out _).mono ?_
    rintro e w5 ⟨rfl, hk5⟩
    obtain ⟨e0, e1, e2⟩ := box3 hk5
    have c0' := hk5.cell (d0 _)
    have c1' := hk5.cell (d1 _)
    have c2' := hk5.cell (d2 _)
    have HK5 := Lib.hid (Kp.trans HK4.out (Kp.trans (Kp.self.alloc _) hk5))
    clear hk5 c0 c1 c2 d0 d1 d2
    go_wp2
    go_ret
    exact ⟨rfl, HK5.out⟩
end Go.Proofs.Ytpmbjlmplfejgaa
