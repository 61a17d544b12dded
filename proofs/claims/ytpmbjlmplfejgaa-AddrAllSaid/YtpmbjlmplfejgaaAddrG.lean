/- addr.blocks: the iterator over all blocks. -/
import Derived.RangeFuncNested
import Derived.RangeFuncBox
import Derived.RangeFuncBound
import Derived.RangeFuncCalls
import Derived.RangeFuncLeaves
import Derived.Shelf.Abstract
import Derived.Shelf.RegionOpen
import Derived.WalkKit
import Derived.OwnWalkIn
import Derived.TacticsInMore
import Derived.LoopNIn
import Derived.LoopIn
import Derived.Maps.AppendAt
import Derived.Test.YtpmbjlmplfejgaaAddrF
namespace Go.Proofs.Ytpmbjlmplfejgaa
open Go.RowKit Go.Shelf
set_option linter.unusedVariables false
set_option linter.unusedSimpArgs false
attribute [local go_sem] Oper.semAt_some

def yOf (b : Blk) : Int × Int := (b.1, b.1 + b.2.2.2)
def yL (s l r : Int) (hs : List Hd) (k : Nat) : List (Int × Int) := (allTo s l r hs k).map yOf
theorem yL_len (s l r : Int) (hs : List Hd) (k : Nat) : (yL s l r hs k).length = (allTo s l r hs k).length := by simp [yL]
theorem allTo_prefix (s l r : Int) (hs : List Hd) {k n : Nat} (h : k ≤ n) : allTo s l r hs k <+: allTo s l r hs n := by
  induction n with
  | zero => obtain rfl : k = 0 := by omega
            exact List.prefix_refl _
  | succ n ih =>
    by_cases hk : k = n + 1
    · subst hk; exact List.prefix_refl _
    · rw [allTo_succ]
      exact (ih (by omega)).trans (List.prefix_append _ _)

set_option maxRecDepth 100000 in
set_option maxHeartbeats 2000000 in
theorem blocks1_in (nn : Nat) (hnn : 1 ≤ nn) (ly bh bg : Nat) (K : World → World → Prop) (s l r : Int) (A : Option Addr) (n c : Nat) (hs : List Hd) (J Jx : List (Int × Int) → World → Prop) (hc : n ≤ c) (hcm : c ≤ maxLen)
    (hKr : ∀ A, K A A) (hKt : ∀ A B C, K A B → K B C → K A C) (hKk : ∀ A B, Kp A B → K A B)
    (hJ : ∀ p A B, J p A → Kp A B → J p B)
    (hY : ∀ pre x W, J pre W → pre.length < (yL s l r hs n).length → YieldAt Fence.wide (nn - 1) Try.prog ly #[.int .i64 x.1, .int .i64 x.2] W fun e W' =>
      (e = .returned (.bool true) ∧ J (pre ++ [x]) W' ∧ K W W') ∨ (e = .returned (.bool false) ∧ Jx (pre ++ [x]) W'))
    (W : World)
    (hH : ∀ W', K W W' → W'.cell? ⟨bh, 0, none⟩ = some (.slice A n c) ∧ RdH W' A n hs ∧ W'.cell? ⟨bg, 0, none⟩ = some (.int .i64 s) ∧ W'.cell? ⟨bg, 1, none⟩ = some (.int .i64 l) ∧ W'.cell? ⟨bg, 2, none⟩ = some (.int .i64 r))
    (h0 : J [] W) :
    CallsIn Fence.wide nn Try.prog 164 #[.func (.yield ly) #[] #[], .pointer (some ⟨bh, 0, none⟩), .pointer (some ⟨bg, 0, none⟩)] W fun e W' => (∃ v, e = .returned v) ∧
      ((∃ ys, ys = yL s l r hs n ∧ J ys W') ∨ (∃ pre, pre <+: yL s l r hs n ∧ Jx pre W')) := by
  have hcc : c ≤ 9223372036854775807 := by have := hcm; simp only [maxLen] at this; omega
  have HH := Lib.hid hH
  have HJ := Lib.hid hJ
  have HY := Lib.hid hY
  have HKT := Lib.hid hKt
  have HKK := Lib.hid hKk
  clear hH hJ hY hKt hKk
  have hh := HH.out W (hKr _)
  have HL : Hid (hs.length = n) := hh.2.1.1
  have hcW := hh.1
  clear hh
  refine callsIn_of_wp Try.func164 rfl trivial ?_ rfl
  simp only [Try.ntmps164, List.size_toArray, List.length_cons, List.length_nil, Nat.reduceAdd, Nat.reduceSub, Array.replicate_succ, Array.replicate_zero, List.push_toArray, List.append_toArray, List.nil_append, List.cons_append]
  gi_wp2
  gi_loopw [11] (fun i wr => ∃ k : Nat, k ≤ n ∧ i = .int .i64 k ∧ Hid (J (yL s l r hs k) wr) ∧ Hid (K W wr)) (fun i _ => n - (intOf i).toNat)
  case atStart => exact ⟨0, Nat.zero_le _, rfl, h0, hKr _⟩
  case round =>
    obtain ⟨k, hk, rfl, HJK, HB⟩ := hrel
    by_cases hlt : k < n
    · obtain ⟨q0, hR, g0, g1, g2⟩ := HH.out _ HB.out
      obtain ⟨ad, rfl, hc1, hc2, hc3⟩ := hR.at_ k hlt
      have HR := Lib.hid hR
      have b1 : (0 : Int) ≤ k := by omega
      have b2 : (k : Int) < n := by omega
      clear hR
      gi_wp2_with fail
      refine ⟨trivial, (callsIn_wide.2 (whole_any s l r (some ad) n c hs k _ HR.out hc hcm)).mono ?_⟩
      rintro e w2 ⟨rfl, hk2⟩
      have HJ2 : Hid (J (yL s l r hs k) w2) := HJ.out _ _ _ HJK.out hk2
      have HB2 : Hid (K W w2) := HKT.out _ _ _ HB.out (HKK.out _ _ hk2)
      have q0 := hk2.cell q0
      have g0 := hk2.cell g0
      have g1 := hk2.cell g1
      have g2 := hk2.cell g2
      have hc1 := hk2.cell hc1
      have hc2 := hk2.cell hc2
      have hc3 := hk2.cell hc3
      clear hk2 HR HJK HB
      cases hw : wholeV s l r hs k
      · have HS : Hid (yL s l r hs (k + 1) = yL s l r hs k) := by unfold Hid yL; rw [allTo_succ]; unfold spanB; rw [hw]; simp
        clear hw
        gi_wp2
        go_roundw
        case rel => exact ⟨k + 1, by omega, by go_num, by rw [HS.out]; exact HJ2, HB2⟩
        case measure => simp [intOf]; omega
      · obtain ⟨many, size, hsh, hm0, hz0, hcase⟩ := shape_of hw
        obtain ⟨q1, q2, q3, q4, q5, q6⟩ := whole_parts hw
        have hm32 := shape_le hw
        rw [Int.toNat_natCast] at hsh q4 q6 hcase hm32
        rw [hsh] at hm32
        simp only [Int.toNat_natCast] at hm32
        have hend : many * size ≤ 256 := by
          rcases hcase with ⟨_, h, _⟩ | ⟨h, _, _, h', _⟩
          · omega
          · rw [h]; omega
        have hsz : size ≤ 256 := Nat.le_trans (Nat.le_mul_of_pos_left _ hm0) hend
        have HS : Hid (yL s l r hs (k + 1) = yL s l r hs k ++ (spanBTo s l r hs k many).map yOf) := by unfold Hid yL; rw [allTo_succ]; unfold spanB; rw [hw, if_pos rfl, hsh]; simp
        have hmay := may_bd (right_all q1).1
        have hsv : spanV s l r k = 16 + 40 * l + 8 * s + 64 * k := by unfold spanV; rw [if_pos ⟨(right_all q1).1, by omega, q3⟩]
        have HT : Hid (∀ x, (spanBTo s l r hs k (x + 1)).map yOf = (spanBTo s l r hs k x).map yOf ++ [(16 + 40 * l + 8 * s + 64 * k + (x : Int) * size, 16 + 40 * l + 8 * s + 64 * k + (x : Int) * size + size)]) := fun x => by rw [spanBTo_succ, hsh, hsv]; simp [yOf]
        have HSP : Hid (∀ W, Calls Try.prog 120 #[geo s l r, .int .i64 k] W fun e w' => e = .returned (.int .i64 (16 + 40 * l + 8 * s + 64 * k)) ∧ Kp W w') := fun W => by have := spanV_any s l r k W; rw [hsv] at this; exact this
        have hmm : -1000 ≤ (hdAt hs k).2.2 ∧ (hdAt hs k).2.2 ≤ 1000 := by omega
        have HSH : Hid (∀ W, Calls Try.prog 117 #[hd (hdAt hs k).1 (hdAt hs k).2.1 (hdAt hs k).2.2] W fun e w' => e = .returned (.tuple #[.int .i64 many, .int .i64 size]) ∧ Kp W w') := fun W => by
          have := shape_any (hdAt hs k) W hmm
          rw [hsh] at this
          exact this
        have hsn : (n : Int) ≤ 16 := by have := (right_all q1).2.1; rw [HL.out] at this; omega
        have HLEN : Hid (∀ x, x < many → ((yL s l r hs k) ++ (spanBTo s l r hs k x).map yOf).length < (yL s l r hs n).length) := fun x hx => by
          have h1 := (allTo_prefix s l r hs (show k + 1 ≤ n by omega)).length_le
          rw [← yL_len, ← yL_len, HS.out] at h1
          simp only [List.length_append, List.length_map, spanBTo_len] at h1 ⊢
          omega
        have HPRE : Hid (∀ x, x ≤ many → (yL s l r hs k) ++ (spanBTo s l r hs k x).map yOf <+: yL s l r hs n) := fun x hx => by
          have h1 : yL s l r hs (k + 1) <+: yL s l r hs n := List.IsPrefix.map yOf (allTo_prefix s l r hs (show k + 1 ≤ n by omega))
          rw [HS.out] at h1
          refine List.IsPrefix.trans ?_ h1
          rw [List.prefix_append_right_inj]
          refine List.IsPrefix.map yOf ?_
          refine ⟨(spanBTo s l r hs k many).drop x, ?_⟩
          rw [show spanBTo s l r hs k x = (spanBTo s l r hs k many).take x by unfold spanBTo; rw [← List.map_take, List.take_range, Nat.min_eq_left hx], List.take_append_drop]
        clear hw hsh q1 q4 q5 q6 hcase hmm hsv
        gi_wp2_with fail
        refine ⟨trivial, (callsIn_wide.2 (HSH.out _)).mono ?_⟩
        rintro e w3 ⟨rfl, hk3⟩
        have HJ3 : Hid (J (yL s l r hs k) w3) := HJ.out _ _ _ HJ2.out hk3
        have HB3 : Hid (K W w3) := HKT.out _ _ _ HB2.out (HKK.out _ _ hk3)
        clear hk3 q0 g0 g1 g2 hc1 hc2 hc3 HJ2 HB2 HSH
        gi_wp2
        gi_loopw [28] (fun i wr => ∃ x : Nat, x ≤ many ∧ i = .int .i64 x ∧ Hid (J (yL s l r hs k ++ (spanBTo s l r hs k x).map yOf) wr) ∧ Hid (K W wr)) (fun i _ => many - (intOf i).toNat)
        case atStart => exact ⟨0, Nat.zero_le _, rfl, by simpa [spanBTo] using HJ3, HB3⟩
        case round =>
          obtain ⟨x, hx, rfl, HJX, HBX⟩ := hrel
          by_cases hxm : x < many
          · obtain ⟨_, _, g0, g1, g2⟩ := HH.out _ HBX.out
            have b3 : (0 : Int) ≤ x := by omega
            have b4 : (x : Int) < many := by omega
            have hxs : x * size ≤ 256 := Nat.le_trans (Nat.mul_le_mul_right _ hx) hend
            have hmul : (x : Int) * size = ((x * size : Nat) : Int) := by simp
            gi_wp2_with fail
            refine ⟨trivial, (callsIn_wide.2 (HSP.out _)).mono ?_⟩
            rintro e w4 ⟨rfl, hk4⟩
            have HJ4 : Hid (J (yL s l r hs k ++ (spanBTo s l r hs k x).map yOf) w4) := HJ.out _ _ _ HJX.out hk4
            have HB4 : Hid (K W w4) := HKT.out _ _ _ HBX.out (HKK.out _ _ hk4)
            clear hk4 HJX HBX
            obtain ⟨fn, tmps, assign, body, hy, hR⟩ := HY.out _ (16 + 40 * l + 8 * s + 64 * k + (x : Int) * size, 16 + 40 * l + 8 * s + 64 * k + (x : Int) * size + size) w4 HJ4.out (HLEN.out x hxm)
            have HT1 := Lib.hid (HT.out x)
            dsimp only at hy
            rw [hmul] at hy
            generalize hq : x * size = q at *
            have hq2 : (x : Int) * size = q := hmul
            gi_wp2
            refine hR.mono ?_
            rintro e W3 (⟨rfl, hJ3, hk3⟩ | ⟨rfl, hJx3⟩)
            · gi_wp2
              go_roundw
              case rel => exact ⟨x + 1, by omega, by go_num, by unfold Hid; rw [HT1.out, ← List.append_assoc]; exact hJ3, HKT.out _ _ _ HB4.out hk3⟩
              case measure => simp [intOf]; omega
            · gi_wp2
              refine bodyPost_ret (results_none rfl _ _ _) rfl ?_
              refine ⟨⟨_, rfl⟩, .inr ⟨_, HPRE.out (x + 1) (by omega), ?_⟩⟩
              rw [HT1.out, ← List.append_assoc]
              exact hJx3
          · obtain rfl : x = many := by omega
            gi_wp2
            go_roundw
            case rel => exact ⟨k + 1, by omega, by go_num, by rw [HS.out]; exact HJX, HBX⟩
            case measure => simp [intOf]; omega
    · obtain rfl : k = n := by omega
      gi_wp2
      go_end0
      exact ⟨⟨_, rfl⟩, .inl ⟨_, rfl, HJK.out⟩⟩
end Go.Proofs.Ytpmbjlmplfejgaa
