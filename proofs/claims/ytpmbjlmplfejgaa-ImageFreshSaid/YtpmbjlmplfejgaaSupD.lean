/- The four questions of super.Read, and super.Read. -/
import Derived.Test.YtpmbjlmplfejgaaSupC
namespace Go.Proofs.Ytpmbjlmplfejgaa
open Go.RowKit
set_option linter.unusedVariables false
set_option linter.unusedSimpArgs false

theorem ask109 (bw : Nat) (A : Option Addr) (n c : Nat) (w : World) (hW : w.cell? ⟨bw, 0, none⟩ = some (.slice A n c)) :
    Calls Try.prog 109 #[.pointer (some ⟨bw, 0, none⟩)] w fun e w' => e = .returned (.bool (decide (8 ≤ n))) ∧ w = w' := by
  go_enter Try.func109, Try.ntmps109
  go_wp2
  go_ret
  exact ⟨ret_bool (by simp; omega), rfl⟩

theorem ask112 (bw bg : Nat) (A : Option Addr) (n c : Nat) (s l r : Int) (w : World) (hW : w.cell? ⟨bw, 0, none⟩ = some (.slice A n c)) (hg : gMay s l r = true)
    (h0 : w.cell? ⟨bg, 0, none⟩ = some (.int .i64 s)) (h1 : w.cell? ⟨bg, 1, none⟩ = some (.int .i64 l)) (h2 : w.cell? ⟨bg, 2, none⟩ = some (.int .i64 r)) :
    Calls Try.prog 112 #[.pointer (some ⟨bw, 0, none⟩), .pointer (some ⟨bg, 0, none⟩)] w fun e w' => e = .returned (.bool (decide ((n : Int) = total s l))) ∧ Kp w w' := by
  have LW := fun W : KW w => W.cell hW
  have L0 := fun W : KW w => W.cell h0
  have L1 := fun W : KW w => W.cell h1
  have L2 := fun W : KW w => W.cell h2
  have HT : Hid (∀ W, Calls Try.prog 98 #[geo s l r] W fun e w' => e = .returned (.int .i64 (total s l)) ∧ Kp W w') := fun W => by have := total_any s l r W; rwa [hg, if_pos rfl] at this
  go_enter Try.func112, Try.ntmps112
  go_wp2
  refine wp_region_kw w Kp.self (by kernel_rfl) (by kernel_rfl) ?_
  repeat (any_goals (first | go_big_quiet_step ((go_at_call 98; exact kw_call (HT.out _))) | quiet_step ((go_at_call 98; exact kw_call (HT.out _)))))
  refine wpQuiet_nil ?_
  rintro w1 ⟨W, e⟩
  have hk1 : Kp w w1 := e ▸ W.2
  clear e W LW L0 L1 L2
  go_wp2
  go_ret
  exact ⟨ret_bool (by simp [Bool.beq_eq_decide_eq]), hk1⟩

set_option maxHeartbeats 1000000 in
set_option maxRecDepth 100000 in
theorem ask111 (bw bg : Nat) (A : Option Addr) (n c : Nat) (xs : List Int) (s l r : Int) (w : World) (hW : w.cell? ⟨bw, 0, none⟩ = some (.slice A n c)) (hr : RdI w .u64 A n xs) (hn : 8 ≤ n) (hc : n ≤ c) (hcm : c ≤ maxLen)
    (h0 : w.cell? ⟨bg, 0, none⟩ = some (.int .i64 s)) (h1 : w.cell? ⟨bg, 1, none⟩ = some (.int .i64 l)) (h2 : w.cell? ⟨bg, 2, none⟩ = some (.int .i64 r)) :
    Calls Try.prog 111 #[.pointer (some ⟨bw, 0, none⟩), .pointer (some ⟨bg, 0, none⟩)] w fun e w' => e = .returned (.bool (decide (xs.take 8 = superW s l r))) ∧ Kp w w' := by
  obtain ⟨ad, rfl, hc0⟩ := hr.at_ 0 (by omega)
  have HRD : Hid (∀ w', Kp w w' → RdI w' .u64 (some ad) 8 (xs.take 8)) := fun w' hk => ⟨by rw [List.length_take]; have := hr.1; omega, by omega, fun _ => ⟨ad, rfl, fun j hj => by
    obtain ⟨ad', e, hcj⟩ := hr.at_ j (by omega)
    injection e with e
    subst e
    rw [take_getD _ _ _ hj]
    exact hk.cell hcj⟩⟩
  have b1 : (8 : Int) ≤ c := by omega
  have b2 : (c : Int) ≤ 9223372036854775807 := by simp only [maxLen] at hcm; omega
  clear hr hc0 hn hc hcm
  go_enter Try.func111, Try.ntmps111
  go_wp2
  refine wp_region_M [] (fun w' => w'.cell? ⟨bw, 0, none⟩ = some (.slice (some ad) n c) ∧ w'.cell? ⟨bg, 0, none⟩ = some (.int .i64 s) ∧ w'.cell? ⟨bg, 1, none⟩ = some (.int .i64 l) ∧ w'.cell? ⟨bg, 2, none⟩ = some (.int .i64 r)) (by kernel_rfl) ?_
  refine anyM_take 0 (v := ?_) [0, 1, 2] rfl (by decide) (by kernel_rfl) (by kernel_rfl) (by kernel_rfl) (by kernel_rfl) (fun _ _ _ h => h) (Or.inl ⟨by rfl, ?_⟩) ⟨hW, h0, h1, h2⟩ ?_
  rotate_left
  · rintro w' ⟨s0, s1, s2, s3⟩
    go_simp
    rfl
  simp only [Act.put, List.setIfInBounds_toArray, List.set_cons_zero, List.set_cons_succ]
  refine anyM_take 1 (v := ?_) [0, 1, 2] rfl (by decide) (by kernel_rfl) (by kernel_rfl) (by kernel_rfl) (by kernel_rfl) (fun _ _ _ h => h) (Or.inl ⟨by rfl, ?_⟩) ⟨hW, h0, h1, h2⟩ ?_
  rotate_left
  · rintro w' ⟨s0, s1, s2, s3⟩
    go_simp
    rfl
  simp only [Act.put, List.setIfInBounds_toArray, List.set_cons_zero, List.set_cons_succ]
  refine anyM_take 2 (v := ?_) [0, 1, 2] rfl (by decide) (by kernel_rfl) (by kernel_rfl) (by kernel_rfl) (by kernel_rfl) (fun _ _ _ h => h) (Or.inl ⟨by rfl, ?_⟩) ⟨hW, h0, h1, h2⟩ ?_
  rotate_left
  · rintro w' ⟨s0, s1, s2, s3⟩
    go_simp
    rfl
  simp only [Act.put, List.setIfInBounds_toArray, List.set_cons_zero, List.set_cons_succ]
  refine anyM_step 3 (by kernel_rfl) rfl ?_
  go_wp2_with fail
  refine (swrite_any s l r _).mono ?_
  rintro e w1 ⟨v, rfl, hown, hk1⟩
  have hk1 : Kp w w1 := Kp.self.drew.trans hk1
  obtain ⟨B, d, rfl, hrb⟩ := own_rd hown
  have HRB := Lib.hid hrb
  have HR1 := Lib.hid (HRD.out _ hk1)
  have HK1 := Lib.hid hk1
  have g0 := hk1.cell hW
  have g1 := hk1.cell h0
  have g2 := hk1.cell h1
  have g3 := hk1.cell h2
  clear hown hrb hk1
  go_wp2_with fail
  refine ⟨fun _ => ⟨g0, g1, g2, g3⟩, ?_⟩
  refine anyM_step 4 (by kernel_rfl) rfl ?_
  go_wp2_with fail
  refine (equal_any _ _ _ _ _ _ _ _ _ HR1.out HRB.out).mono ?_
  rintro e w2 ⟨rfl, hk2⟩
  have HK2 := Lib.hid (HK1.out.trans hk2)
  have k0 := hk2.cell g0
  have k1 := hk2.cell g1
  have k2 := hk2.cell g2
  have k3 := hk2.cell g3
  clear hk2
  go_wp2_with fail
  refine ⟨fun _ => ⟨k0, k1, k2, k3⟩, ?_⟩
  refine anyM_step 5 (by kernel_rfl) rfl ?_
  go_wp2_with fail
  refine ⟨fun _ => ⟨k0, k1, k2, k3⟩, ?_⟩
  refine ⟨by kernel_rfl, ?_⟩
  go_wp2
  go_ret
  exact ⟨rfl, HK2.out⟩
end Go.Proofs.Ytpmbjlmplfejgaa
