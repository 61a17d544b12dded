/- The reference's superblock, the examples, and the statement SuperWrites as a walk. -/
import Derived.Test.YtpmbjlmplfejgaaSupA
namespace Go.Proofs.Ytpmbjlmplfejgaa
open Go.RowKit
set_option linter.unusedVariables false
set_option linter.unusedSimpArgs false

set_option maxHeartbeats 1000000 in
set_option maxRecDepth 100000 in
theorem rwrite_any (s l r : Int) (w : World) : Calls Try.prog 33 #[geo s l r] w (WritePost s l r w) := by
  cases hg : gMay s l r
  · go_enter Try.func33, Try.ntmps33
    go_wp2_with (go_at_call 50; refine (rmay_any _ _ _ _).mono ?_; rw [hg]; rintro e w' ⟨rfl, hk⟩)
    go_ret
    exact ⟨_, rfl, by unfold superW; rw [hg]; exact World.ownsRow_nil _ _ _ _, (Kp.self.alloc _).trans hk⟩
  · have hm := may_bd hg
    have ht : 0 ≤ total s l ∧ total s l < 100000 := by unfold total; omega
    have hT : ∀ W, Calls Try.prog 51 #[geo s l r] W fun e w' => e = .returned (.int .i64 (total s l)) ∧ Kp W w' := fun W => by have := rtotal_any s l r W; rwa [hg, if_pos rfl] at this
    have HT := Lib.hid hT
    have HG := Lib.hid hg
    clear hT
    go_enter Try.func33, Try.ntmps33
    go_wp2_with fail
    refine (rmay_any _ _ _ _).mono ?_
    rw [hg]
    rintro e w1 ⟨rfl, hk⟩
    obtain ⟨g0, g1, g2⟩ := box3 hk
    have HK1 := Lib.hid (Kp.trans (Kp.self.alloc _) hk)
    clear hk hg
    go_wp2_with fail
    have l0 := fun W : KW w1 => W.cell g0
    have l1 := fun W : KW w1 => W.cell g1
    have l2 := fun W : KW w1 => W.cell g2
    refine wp_region_kw_tail 16 w1 Kp.self (by kernel_rfl) (by kernel_rfl) ?_
    simp only [List.take_succ_cons, List.take_zero, List.drop_succ_cons, List.drop_zero]
    repeat (any_goals (first | go_big_quiet_step ((go_at_call 51; exact kw_call (HT.out _))) | quiet_step ((go_at_call 51; exact kw_call (HT.out _)))))
    refine wpQuiet_nil ?_
    rintro w5 ⟨W, e⟩
    have hk5 : Kp w1 w5 := e ▸ W.2
    clear e W l0 l1 l2
    have HK5 : Hid (Kp w w5) := Kp.trans HK1.out hk5
    clear hk5 g0 g1 g2
    have HI := Lib.hid (superL_rng HG.out)
    have HRD : Hid (RdI (w5.alloc (.cells #[.int .u64 8390880580533249394, .int .u64 3, .int .u64 (s + 65536 * l + 4294967296 * r), .int .u64 (total s l), .int .u64 0, .int .u64 0, .int .u64 0] 28)) .u64 (some ⟨w5.heap.size, 0, none⟩) 7 (superL s l r)) := rd_new (xs := superL s l r) Kp.self (by simp [superL])
    have HO : Hid (OwnI (w5.alloc (.cells #[.int .u64 8390880580533249394, .int .u64 3, .int .u64 (s + 65536 * l + 4294967296 * r), .int .u64 (total s l), .int .u64 0, .int .u64 0, .int .u64 0] 28)) w.heap.size 28 .u64 (.slice (some ⟨w5.heap.size, 0, none⟩) 7 7) (superL s l r)) := rd_own (xs := superL s l r) HK5.out.size (by simp [superL])
    have HK6 : Hid (Kp w (w5.alloc (.cells #[.int .u64 8390880580533249394, .int .u64 3, .int .u64 (s + 65536 * l + 4294967296 * r), .int .u64 (total s l), .int .u64 0, .int .u64 0, .int .u64 0] 28))) := HK5.out.alloc _
    go_wp2_with fail
    generalize w5.alloc (.cells #[.int .u64 8390880580533249394, .int .u64 3, .int .u64 (s + 65536 * l + 4294967296 * r), .int .u64 (total s l), .int .u64 0, .int .u64 0, .int .u64 0] 28) = w6 at *
    refine (rsealed_any _ _ _ _ _ HRD.out HI.out (by omega)).mono ?_
    rintro e w7 ⟨rfl, hk7⟩
    have HO7 : Hid (OwnI w7 w.heap.size 28 .u64 (.slice (some ⟨w5.heap.size, 0, none⟩) 7 7) (superL s l r)) := own_kp HO.out hk7
    have HK7 : Hid (Kp w w7) := Kp.trans HK6.out hk7
    clear hk7 HO HK6 HRD
    go_wp2_with (at_builtin; refine app_num (w0 := w) w.heap.size rfl (.tmp 24) (.tmp 27) 27 28 .u64 8 rfl Try.underlying27 info28 (by decide) _ _ _ rfl rfl HO7.out HK7.out HK7.out.size ?c1 ?_)
    case c1 => simp [superL]
    intro v1 w8 hown hkp _ _
    obtain ⟨A1, c1, rfl⟩ := own_slice hown
    have HO8 := Lib.hid hown
    have HK8 := Lib.hid hkp
    clear hown hkp
    go_wp2
    go_ret
    exact ⟨_, rfl, by unfold superW; rw [HG.out, if_pos rfl]; exact HO8.out, HK8.out⟩

theorem superW_len (s l r : Int) : (superW s l r).length ≤ 8 := by
  unfold superW
  split <;> simp [superL]
theorem superW_111 : superW 1 1 1 = [8390880580533249394, 3, 4295032833, 128, 0, 0, 0, sealI (superL 1 1 1)] := by
  unfold superW
  rw [if_pos (by decide)]
  simp [superL, total]

set_option maxHeartbeats 1000000 in
set_option maxRecDepth 100000 in
theorem alive07 (w : World) : Calls Try.prog 31 #[] w fun e w' => e = .returned (.bool true) ∧ Kp w w' := by
  go_enter Try.func31, Try.ntmps31
  go_wp2_with fail
  refine (swrite_any 1 1 1 _).mono ?_
  rintro e w1 ⟨v, rfl, hown, hk⟩
  rw [superW_111] at hown
  have hown : w1.ownsRow w.heap.size 28 1 v 8 (nums .u64 [8390880580533249394, 3, 4295032833, 128, 0, 0, 0, sealI (superL 1 1 1)]) := hown
  obtain ⟨g, cap, rfl, hb, hg⟩ := hown.form (by decide)
  have h2 : w1.cell? ⟨g, 2, none⟩ = some (.int .u64 4295032833) := own_get hown 2 (by decide)
  have h3 : w1.cell? ⟨g, 3, none⟩ = some (.int .u64 128) := own_get hown 3 (by decide)
  clear hown
  go_wp2
  go_ret
  exact ⟨rfl, hk⟩

set_option maxHeartbeats 1000000 in
set_option maxRecDepth 100000 in
theorem law_SuperWrites (s l r : Int) (w : World) : Calls Try.prog 6 #[geo s l r] w fun e w' => e = .returned (.bool true) ∧ Kp w w' := by
  go_enter Try.func6, Try.ntmps6
  go_wp2_with fail
  refine (alive07 _).mono ?_
  rintro e w1 ⟨rfl, hk⟩
  obtain ⟨g0, g1, g2⟩ := box3 hk
  have HK1 := Lib.hid (Kp.trans (Kp.self.alloc _) hk)
  clear hk
  go_wp2_with fail
  refine wp_region_M [] (fun w' => w'.cell? ⟨w.heap.size, 0, none⟩ = some (.int .i64 s) ∧ w'.cell? ⟨w.heap.size, 1, none⟩ = some (.int .i64 l) ∧ w'.cell? ⟨w.heap.size, 2, none⟩ = some (.int .i64 r)) (by kernel_rfl) ?_
  refine anyM_take 0 (v := ?_) [0, 2] rfl (by decide) (by kernel_rfl) (by kernel_rfl) (by kernel_rfl) (by kernel_rfl) (fun _ _ _ h => h) (Or.inl ⟨by rfl, ?_⟩) ⟨g0, g1, g2⟩ ?_
  rotate_left
  · rintro w' ⟨s0, s1, s2⟩
    go_simp
    rfl
  simp only [Act.put, List.setIfInBounds_toArray, List.set_cons_zero, List.set_cons_succ]
  refine anyM_take 2 (v := ?_) [0, 2] rfl (by decide) (by kernel_rfl) (by kernel_rfl) (by kernel_rfl) (by kernel_rfl) (fun _ _ _ h => h) (Or.inl ⟨by rfl, ?_⟩) ⟨g0, g1, g2⟩ ?_
  rotate_left
  · rintro w' ⟨s0, s1, s2⟩
    go_simp
    rfl
  simp only [Act.put, List.setIfInBounds_toArray, List.set_cons_zero, List.set_cons_succ]
  refine anyM_step 1 (by kernel_rfl) rfl ?_
  go_wp2_with fail
  refine (swrite_any s l r _).mono ?_
  rintro e w2 ⟨v, rfl, hown, hk2⟩
  have hk2 : Kp w1 w2 := Kp.self.drew.trans hk2
  obtain ⟨A, c, rfl, hrd⟩ := own_rd hown
  have h0 := hk2.cell g0
  have h1 := hk2.cell g1
  have h2 := hk2.cell g2
  have HK2 := Lib.hid (Kp.trans HK1.out hk2)
  have HRD := Lib.hid hrd
  clear hk2 hrd hown g0 g1 g2
  go_wp2_with fail
  refine ⟨fun _ => ⟨h0, h1, h2⟩, ?_⟩
  refine anyM_step 3 (by kernel_rfl) rfl ?_
  go_wp2_with fail
  refine (rwrite_any s l r _).mono ?_
  rintro e w3 ⟨v, rfl, hown, hk3⟩
  obtain ⟨A', c', rfl, hrd'⟩ := own_rd hown
  have h0' := hk3.cell h0
  have h1' := hk3.cell h1
  have h2' := hk3.cell h2
  have HK3 := Lib.hid (Kp.trans HK2.out hk3)
  have HRD2 := Lib.hid hrd'
  have HRD1 := Lib.hid (HRD.out.kp hk3)
  clear hk3 hrd' hown h0 h1 h2 HK2 HRD
  go_wp2_with fail
  refine ⟨fun _ => ⟨h0', h1', h2'⟩, ?_⟩
  refine anyM_take 4 (v := ?_) [4, 5] rfl (by decide) (by kernel_rfl) (by kernel_rfl) (by kernel_rfl) (by kernel_rfl) (fun _ _ _ h => h) (Or.inl ⟨by rfl, ?_⟩) ⟨h0', h1', h2'⟩ ?_
  rotate_left
  · rintro w' ⟨s0, s1, s2⟩
    go_simp
    rfl
  simp only [Act.put, List.setIfInBounds_toArray, List.set_cons_zero, List.set_cons_succ]
  refine anyM_take 5 (v := ?_) [4, 5] rfl (by decide) (by kernel_rfl) (by kernel_rfl) (by kernel_rfl) (by kernel_rfl) (fun _ _ _ h => h) (Or.inl ⟨by rfl, ?_⟩) ⟨h0', h1', h2'⟩ ?_
  rotate_left
  · rintro w' ⟨s0, s1, s2⟩
    go_simp
    rfl
  simp only [Act.put, List.setIfInBounds_toArray, List.set_cons_zero, List.set_cons_succ]
  refine ⟨by kernel_rfl, ?_⟩
  clear h0' h1' h2'
  have hlen := superW_len s l r
  go_wp2
  go_loopw [5] (fun i wr => ∃ k : Nat, k ≤ (superW s l r).length ∧ i = .int .i64 k ∧ Hid (Kp w3 wr)) (fun i _ => (superW s l r).length - (intOf i).toNat)
  case atStart => exact ⟨0, by omega, rfl, Kp.self⟩
  case round =>
    obtain ⟨k, hk, rfl, HK⟩ := hrel
    by_cases hlt : k < (superW s l r).length
    · obtain ⟨ad, rfl, hc⟩ := (HRD1.out.kp HK.out).at_ k hlt
      obtain ⟨ad', rfl, hc'⟩ := (HRD2.out.kp HK.out).at_ k hlt
      have q1 := fun W : KW wr => W.cell hc
      have q2 := fun W : KW wr => W.cell hc'
      have b1 : (0 : Int) ≤ k := by omega
      have b2 : (k : Int) < (superW s l r).length := by omega
      go_wp2
      refine wp_region_kw wr Kp.self (by kernel_rfl) (by kernel_rfl) ?_
      repeat (any_goals (first | go_big_quiet_step (fail) | quiet_step (fail)))
      refine wpQuiet_nil ?_
      rintro w5 ⟨W, e⟩
      have hk5 : Kp wr w5 := e ▸ W.2
      clear e W q1 q2
      have HK5 : Hid (Kp w3 w5) := Kp.trans HK.out hk5
      clear hk5
      go_wp2
      go_roundw
      case rel => exact ⟨k + 1, by omega, by go_num, HK5⟩
      case measure => simp [intOf]; omega
    · obtain rfl : k = (superW s l r).length := by omega
      go_wp2
      go_ret
      exact ⟨rfl, Kp.trans HK3.out HK.out⟩
end Go.Proofs.Ytpmbjlmplfejgaa
