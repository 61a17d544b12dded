/- The statement HeadReads as a walk. -/
import Derived.Test.YtpmbjlmplfejgaaHeadF
import Derived.Test.YtpmbjlmplfejgaaSumE
namespace Go.Proofs.Ytpmbjlmplfejgaa
open Go.RowKit
set_option linter.unusedVariables false
set_option linter.unusedSimpArgs false

theorem xor_turn_ne (x : Int) (b : Nat) (hb : b < 64) (h0 : 0 ≤ x) (h1 : x < 18446744073709551616) : bits .xor .u64 x (2 ^ b) ≠ x := by
  obtain ⟨m, rfl⟩ := Int.eq_ofNat_of_zero_le h0
  have hp : 2 ^ b < 18446744073709551616 := Nat.pow_lt_pow_right (a := 2) (m := b) (n := 64) (by decide) hb
  have h := xor64 m (2 ^ b) (by omega) hp
  intro e
  have e2 : ((2 : Int) ^ b) = ((2 ^ b : Nat) : Int) := by simp
  rw [e2, h] at e
  have e3 : m ^^^ 2 ^ b = m ^^^ 0 := by rw [Nat.xor_zero]; exact_mod_cast e
  have := xor_cancel' e3
  have := Nat.pow_pos (n := b) (show 0 < 2 by decide)
  omega

set_option maxHeartbeats 1000000 in
set_option maxRecDepth 100000 in
theorem law_HeadReads (x : Int) (bit : Nat) (w : World) (hx0 : 0 ≤ x) (hx1 : x < 18446744073709551616) (hbit : bit < 256) :
    Calls Try.prog 8 #[.int .u64 x, .int .u8 bit] w fun e w' => e = .returned (.bool true) ∧ Kp w w' := by
  have hwp := wrap_pow (bit % 64) (by omega)
  have hne := xor_turn_ne x (bit % 64) (by omega) hx0 hx1
  have hxr := xor64_rng x (2 ^ (bit % 64))
  have HNE := Lib.hid hne
  clear hne
  go_enter Try.func8, Try.ntmps8
  go_wp2_with fail
  refine (alive08 _).mono ?_
  rintro e w1 ⟨rfl, hk⟩
  have HK1 := Lib.hid hk
  clear hk
  go_wp2_with fail
  refine (hread_any x _ hx0 hx1).mono ?_
  rintro e w2 ⟨⟨⟨k, c, n⟩, ok, rfl, hr⟩, hk2⟩
  have HK2 := Lib.hid (Kp.trans HK1.out hk2)
  have HR := Lib.hid hr
  clear hk2 hr
  dsimp only [hdv]
  go_wp2_with fail
  refine (hrread_any x _ hx0 hx1).mono ?_
  rintro e w3 ⟨⟨⟨k', c', n'⟩, ok', rfl, hr⟩, hk3⟩
  obtain ⟨he, rfl⟩ := RdHead.uniq HR.out hr
  simp only [Prod.mk.injEq] at he
  obtain ⟨rfl, rfl, rfl⟩ := he
  obtain ⟨a0, a1, a2⟩ := box3 hk3
  have b0 : ∀ o, (w3.alloc o).cell? ⟨w2.heap.size, 0, none⟩ = some (.int .i64 k) := fun o => (Kp.self.alloc o).cell a0
  have b1 : ∀ o, (w3.alloc o).cell? ⟨w2.heap.size, 1, none⟩ = some (.int .i64 c) := fun o => (Kp.self.alloc o).cell a1
  have b2 : ∀ o, (w3.alloc o).cell? ⟨w2.heap.size, 2, none⟩ = some (.int .i64 n) := fun o => (Kp.self.alloc o).cell a2
  have HK3 := Lib.hid (Kp.trans HK2.out (Kp.trans (Kp.self.alloc _) hk3))
  clear hk3 hr a0 a1 a2
  have re1 : rdErr true = 0 := rfl
  have re0 : rdErr false = 11 := rfl
  dsimp only [hdv]
  cases ok
  · rw [re0]
    go_wp2_with fail
    refine (hread_any _ _ hxr.1 hxr.2).mono ?_
    rintro e w4 ⟨⟨⟨k', c', n'⟩, ok', rfl, hr⟩, hk4⟩
    have HK4 := Lib.hid (Kp.trans HK3.out (Kp.trans (Kp.self.alloc _) hk4))
    dsimp only [hdv]
    clear hk4 b0 b1 b2
    go_wp2
    go_ret
    exact ⟨rfl, Kp.alloc HK4.out _⟩
  · rw [re1]
    go_wp2_with fail
    refine (hread_any _ _ hxr.1 hxr.2).mono ?_
    rintro e w4 ⟨⟨⟨k', c', n'⟩, ok', rfl, hr⟩, hk4⟩
    have HK4 := Lib.hid (Kp.trans HK3.out (Kp.trans (Kp.self.alloc _) hk4))
    have hd : ok' = true → (k ≠ k') ∨ (k = k' ∧ c ≠ c') ∨ (k = k' ∧ c = c' ∧ n ≠ n') := by
      rintro rfl
      rcases HR.out with ⟨_, _, h1⟩ | ⟨h, _⟩
      · rcases hr with ⟨_, _, h2⟩ | ⟨h, _⟩
        · have h3 := HNE.out
          by_cases e1 : k = k'
          · by_cases e2 : c = c'
            · by_cases e3 : n = n'
              · subst e1 e2 e3
                exact absurd (h2.symm.trans h1) h3
              · exact .inr (.inr ⟨e1, e2, e3⟩)
            · exact .inr (.inl ⟨e1, e2⟩)
          · exact .inl e1
        · cases h
      · cases h
    have q0 := hk4.cell (b0 _)
    have q1 := hk4.cell (b1 _)
    have q2 := hk4.cell (b2 _)
    have r0 : ∀ o, (w4.alloc o).cell? ⟨w2.heap.size, 0, none⟩ = some (.int .i64 k) := fun o => (Kp.self.alloc o).cell q0
    have r1 : ∀ o, (w4.alloc o).cell? ⟨w2.heap.size, 1, none⟩ = some (.int .i64 c) := fun o => (Kp.self.alloc o).cell q1
    have r2 : ∀ o, (w4.alloc o).cell? ⟨w2.heap.size, 2, none⟩ = some (.int .i64 n) := fun o => (Kp.self.alloc o).cell q2
    clear hk4 b0 b1 b2 q0 q1 q2 hr
    dsimp only [hdv]
    cases ok'
    · rw [re0]
      go_wp2
      go_ret
      exact ⟨rfl, Kp.alloc HK4.out _⟩
    · rw [re1]
      rcases hd rfl with h | ⟨rfl, h⟩ | ⟨rfl, rfl, h⟩
      all_goals
        go_wp2
        go_ret
        exact ⟨rfl, Kp.alloc HK4.out _⟩
theorem law_HeadReads' (x bit : Int) (w : World) (hx : (Lit.int .u64 x).wf = true) (hb : (Lit.int .u8 bit).wf = true) :
    Calls Try.prog 8 #[.int .u64 x, .int .u8 bit] w fun e w' => e = .returned (.bool true) ∧ Kp w w' := by
  obtain ⟨h0, h1⟩ := wf_u8 hb
  obtain ⟨b, rfl⟩ := Int.eq_ofNat_of_zero_le h0
  exact law_HeadReads x b w (wf_u64 hx).1 (wf_u64 hx).2 (by omega)
end Go.Proofs.Ytpmbjlmplfejgaa
