/- The law ImageFresh, as a walk. -/
import Derived.Test.YtpmbjlmplfejgaaImaK
namespace Go.Proofs.Ytpmbjlmplfejgaa
open Go.RowKit
set_option linter.unusedVariables false
set_option linter.unusedSimpArgs false

theorem rdHead0 : RdHead 0 (0, 0, 0) true := .inl ⟨rfl, by decide, by simp [wordV]⟩
theorem freshL_heads {s l r : Int} {n : Nat} (hg : gMay s l r = true) (hn : (freshL s l r).length = n) : HdsP s l r n (freshL s l r) (List.replicate s.toNat (0, 0, 0)) true := by
  have hl := freshL_len hg
  refine .inl ⟨rfl, by unfold fitsV; simp [hg]; omega, by simp, fun j hj => ?_⟩
  have e : hdAt (List.replicate s.toNat (0, 0, 0)) j = (0, 0, 0) := by unfold hdAt; rw [List.getElem?_replicate]; split <;> rfl
  rw [e, freshL_get (by unfold headAt; omega)]
  exact rdHead0

set_option maxHeartbeats 2000000 in
set_option maxRecDepth 100000 in
theorem law_ImageFresh (s l r : Int) (w : World) : Calls Try.prog 19 #[geo s l r] w fun e w' => e = .returned (.bool true) ∧ Kp w w' := by
  have HM := fun W => Lib.hid (rmay_any s l r W)
  have HF := fun W => Lib.hid (fresh_any s l r W)
  cases hg : gMay s l r
  · have hfl : freshL s l r = [] := by unfold freshL; rw [hg]; rfl
    rw [hfl] at HF
    simp only [hg] at HM
    clear hg hfl
    go_enter Try.func19, Try.ntmps19
    go_wp2_with fail
    refine (alive12 _).mono ?_
    rintro e w1 ⟨rfl, hk1⟩
    obtain ⟨g0, g1, g2⟩ := box3 hk1
    have HK1 : Hid (Kp w w1) := (Kp.self.alloc _).trans hk1
    clear hk1
    go_wp2_with fail
    refine (HM _).out.mono ?_
    rintro e w2 ⟨rfl, hk2⟩
    have g0 := hk2.cell g0
    have g1 := hk2.cell g1
    have g2 := hk2.cell g2
    have HK2 := Lib.hid (HK1.out.trans hk2)
    clear hk2
    go_wp2_with fail
    refine (HF _).out.mono ?_
    rintro e w3 ⟨v, rfl, hown, hk3⟩
    obtain ⟨B, d, rfl, _⟩ := own_open (n := 0) hown rfl
    have HK3 := Lib.hid (HK2.out.trans hk3)
    clear hown hk3
    go_wp2
    go_ret
    exact ⟨rfl, HK3.out⟩
  · have hfl := freshL_len hg
    have hm := may_bd hg
    obtain ⟨n, hn⟩ : ∃ n : Nat, (freshL s l r).length = n := ⟨_, rfl⟩
    have hnb : n ≤ 1328 := by unfold total at hfl; omega
    obtain ⟨N, rfl⟩ : ∃ N : Nat, s = N := ⟨s.toNat, by omega⟩
    have HVAL := Lib.hid (freshL_valid hg hn)
    have HSTL := Lib.hid (freshL_still hg hn)
    have HHDS : Hid (HdsP N l r n (freshL N l r) (List.replicate N (0, 0, 0)) true) := by have h := freshL_heads hg hn; rw [Int.toNat_natCast] at h; exact h
    have HRNG := Lib.hid (freshL_rng N l r)
    simp only [hg] at HM
    have HLEN := Lib.hid hn
    generalize freshL N l r = F at *
    clear hg hfl hn
    go_enter Try.func19, Try.ntmps19
    go_wp2_with fail
    refine (alive12 _).mono ?_
    rintro e w1 ⟨rfl, hk1⟩
    obtain ⟨g0, g1, g2⟩ := box3 hk1
    have HK1 : Hid (Kp w w1) := (Kp.self.alloc _).trans hk1
    clear hk1
    go_wp2_with fail
    refine (HM _).out.mono ?_
    rintro e w2 ⟨rfl, hk2⟩
    have g0 := hk2.cell g0
    have g1 := hk2.cell g1
    have g2 := hk2.cell g2
    have HK2 := Lib.hid (HK1.out.trans hk2)
    clear hk2 HK1 HM
    go_wp2_with fail
    refine (HF _).out.mono ?_
    rintro e w3 ⟨v, rfl, hown, hk3⟩
    obtain ⟨B, d, rfl, hrd, hl1, hl2, hl3⟩ := own_open hown HLEN.out
    have g0 := hk3.cell g0
    have g1 := hk3.cell g1
    have g2 := hk3.cell g2
    have HK3 := Lib.hid (HK2.out.trans hk3)
    have HRD := Lib.hid hrd
    have HL2 := Lib.hid hl2
    have HL3 := Lib.hid hl3
    clear hown hk3 hrd hl2 hl3 HK2 HF
    go_wp2_with fail
    refine (igeo_any B n d F _ HRD.out HRNG.out hl1 HL2.out).mono ?_
    rintro e w4 ⟨⟨g, ok, rfl, hrs⟩, hk4⟩
    obtain ⟨rfl, rfl⟩ := RdSup.uniq hrs (.inl ⟨rfl, HVAL.out⟩ : RdSup F n ((N : Int), l, r) true)
    clear hrs
    simp only [supErr, if_true]
    unfold geov
    dsimp only
    have HKB : Hid (Kp w4 (w4.alloc (.cells #[.int .i64 N, .int .i64 l, .int .i64 r] 38))) := Kp.self.alloc _
    have HG : Hid (GBox (w4.alloc (.cells #[.int .i64 N, .int .i64 l, .int .i64 r] 38)) w4.heap.size N l r) := box3 Kp.self
    have g0 := HKB.out.cell (hk4.cell g0)
    have g1 := HKB.out.cell (hk4.cell g1)
    have g2 := HKB.out.cell (hk4.cell g2)
    have HK4 : Hid (Kp w (w4.alloc (.cells #[.int .i64 N, .int .i64 l, .int .i64 r] 38))) := (HK3.out.trans hk4).alloc _
    have HRD4 : Hid (RdI (w4.alloc (.cells #[.int .i64 N, .int .i64 l, .int .i64 r] 38)) .u64 B n F) := HRD.out.kp (hk4.alloc _)
    clear hk4 HKB HK3 HRD
    go_wp2_with fail
    refine (iheads_any N l r B n d F _ HRD4.out HRNG.out).mono ?_
    rintro e w5 ⟨v5, hs, ok, rfl, hown, hhp, hk5⟩
    obtain ⟨rfl, rfl⟩ := HdsP.uniq hhp HHDS.out
    obtain ⟨C, d2, rfl, hrh⟩ := own_rdH hown
    rw [List.length_replicate] at hrh ⊢
    have HRH := Lib.hid hrh
    have g0 := hk5.cell g0
    have g1 := hk5.cell g1
    have g2 := hk5.cell g2
    have HG5 := Lib.hid (HG.out.kp hk5)
    have HK5 := Lib.hid (HK4.out.trans hk5)
    have HRD5 := Lib.hid (HRD4.out.kp hk5)
    clear hown hhp hk5 hrh HG HK4 HRD4 HHDS
    simp only [rdErr, if_true]
    go_wp2_with fail
    refine (replayed_any B n d F _ HRD5.out HRNG.out hl1 HL2.out HL3.out (by omega)).mono ?_
    rintro e w6 ⟨v6, res, ok, rfl, hown, hrep, hk6⟩
    obtain ⟨rfl, rfl⟩ := RepP.uniq hrep HSTL.out
    obtain ⟨D, d3, rfl, hre, _⟩ := own_open hown HLEN.out
    have HRE := Lib.hid hre
    have g0 := hk6.cell g0
    have g1 := hk6.cell g1
    have g2 := hk6.cell g2
    obtain ⟨x0, x1, x2⟩ := HG5.out.kp hk6
    have HK6 := Lib.hid (HK5.out.trans hk6)
    have HRD6 := Lib.hid (HRD5.out.kp hk6)
    have HRH6 := Lib.hid (HRH.out.kp hk6)
    clear hown hrep hk6 hre HK5 HRD5 HG5 HRH
    simp only [supErr, if_true]
    go_wp2_with fail
    refine (words_any D B n n d3 d res res _ HRE.out HRD6.out).mono ?_
    rw [decide_eq_true (rfl : res = res)]
    rintro e w7 ⟨rfl, hk7⟩
    have HK7 := Lib.hid (HK6.out.trans hk7)
    have HRH7 := Lib.hid (HRH6.out.kp hk7)
    clear hk7 HK6 HRD6 HRE HRH6 g0 g1 g2 x0 x1 x2
    go_wp2
    go_loopw [10] (fun i wr => ∃ k : Nat, k ≤ N ∧ i = .int .i64 k ∧ Hid (Kp w7 wr)) (fun i _ => N - (intOf i).toNat)
    case atStart => exact ⟨0, Nat.zero_le _, rfl, Kp.self⟩
    case round =>
      obtain ⟨k, hk, rfl, HK8⟩ := hrel
      by_cases hlt : k < N
      · obtain ⟨ad, rfl, c1, c2, c3⟩ := (HRH7.out.kp HK8.out).at_ k hlt
        have hz : hdAt (List.replicate N (0, 0, 0)) k = (0, 0, 0) := by unfold hdAt; rw [List.getElem?_replicate]; split <;> rfl
        rw [hz] at c1 c2 c3
        have b1 : (0 : Int) ≤ k := by omega
        have b2 : (k : Int) < N := by omega
        go_wp2
        go_roundw
        case rel => exact ⟨k + 1, by omega, by go_num, HK8⟩
        case measure => simp [intOf]; omega
      · obtain rfl : k = N := by omega
        go_wp2
        go_ret
        exact ⟨rfl, HK7.out.trans HK8.out⟩
end Go.Proofs.Ytpmbjlmplfejgaa
