/- The reference's whole spans. -/
import Derived.Test.YtpmbjlmplfejgaaAddrB
namespace Go.Proofs.Ytpmbjlmplfejgaa
open Go.RowKit
set_option linter.unusedVariables false
set_option linter.unusedSimpArgs false

set_option maxHeartbeats 2000000 in
set_option maxRecDepth 100000 in
theorem rwhole_any (s l r : Int) (A : Option Addr) (n c : Nat) (hs : List Hd) (i : Int) (w : World) (hr : RdH w A n hs) :
    Calls Try.prog 59 #[geo s l r, .slice A n c, .int .i64 i] w fun e w' => e = .returned (.bool (wholeV s l r hs i)) ∧ Kp w w' := by
  have HR := Lib.hid hr
  have HL : Hid (hs.length = n) := hr.1
  have HRT := fun W => Lib.hid (rmayH_any s l r A n c hs W)
  clear hr
  cases hg : rightV s l r hs
  · have HV : Hid (wholeV s l r hs i = false) := by unfold Hid wholeV; rw [hg]; rfl
    rw [hg] at HRT
    go_enter Try.func59, Try.ntmps59
    go_wp2_with fail
    refine ((HRT _).out (HR.out.kp (Kp.self.alloc _))).mono ?_
    rintro e w1 ⟨rfl, hk1⟩
    go_wp2
    go_ret
    exact ⟨ret_bool HV.out.symm, (Kp.self.alloc _).trans hk1⟩
  · have HG := Lib.hid (right_all hg)
    have hsn : (n : Int) = s := by have := HG.out.2.1; rw [HL.out] at this; exact this
    rw [hg] at HRT
    by_cases hi : i < 0
    · have HV : Hid (wholeV s l r hs i = false) := by unfold Hid wholeV; rw [hg, show decide (0 ≤ i ∧ i < s) = false by simp; omega]; rfl
      clear hg
      go_enter Try.func59, Try.ntmps59
      go_wp2_with fail
      refine ((HRT _).out (HR.out.kp (Kp.self.alloc _))).mono ?_
      rintro e w1 ⟨rfl, hk1⟩
      go_wp2
      go_ret
      exact ⟨ret_bool HV.out.symm, (Kp.self.alloc _).trans hk1⟩
    · by_cases hi2 : i ≥ n
      · have HV : Hid (wholeV s l r hs i = false) := by unfold Hid wholeV; rw [hg, show decide (0 ≤ i ∧ i < s) = false by simp; omega]; rfl
        clear hg
        go_enter Try.func59, Try.ntmps59
        go_wp2_with fail
        refine ((HRT _).out (HR.out.kp (Kp.self.alloc _))).mono ?_
        rintro e w1 ⟨rfl, hk1⟩
        go_wp2
        go_ret
        exact ⟨ret_bool HV.out.symm, (Kp.self.alloc _).trans hk1⟩
      · obtain ⟨j, rfl⟩ := Int.eq_ofNat_of_zero_le (show 0 ≤ i by omega)
        have hjn : j < n := by omega
        obtain ⟨ad, rfl, _⟩ := HR.out.at_ j hjn
        have b1 : (0 : Int) ≤ j := by omega
        have b2 : (j : Int) < n := by omega
        have hh := HG.out.2.2 _ (hdAt_mem (by rw [HL.out]; exact hjn))
        have HLG := Lib.hid (hOk_large hh)
        have hmn := hOk_many hh
        have hs16 := may_bd HG.out.1
        have hV : wholeV s l r hs j = (decide ((hdAt hs j).1 = 1) || (decide ((hdAt hs j).1 = 2) && (decide ((j : Int) + (hdAt hs j).2.2 ≤ s) && runFrom 0 0 ((hs.drop j).take (hdAt hs j).2.2.toNat)))) := by
          unfold wholeV
          rw [hg, show decide (0 ≤ (j : Int) ∧ (j : Int) < s) = true by simp; omega]
          simp
        have HC : Hid (∀ W, Kp w W → ∀ j, j < n → W.cell? (ad.add (j * 3)) = some (.int .i64 (hdAt hs j).1) ∧ W.cell? ⟨(ad.add (j * 3)).block, (ad.add (j * 3)).off + 1, none⟩ = some (.int .i64 (hdAt hs j).2.1) ∧ W.cell? ⟨(ad.add (j * 3)).block, (ad.add (j * 3)).off + 2, none⟩ = some (.int .i64 (hdAt hs j).2.2)) := fun W hk j hj => by
          obtain ⟨ad', e, h⟩ := (HR.out.kp hk).at_ j hj
          injection e with e
          subst e
          exact h
        obtain ⟨m, hm⟩ := Int.eq_ofNat_of_zero_le hmn.1
        have HRUN : Hid ((hdAt hs j).1 = 2 → 1 ≤ m → j + m ≤ n → (runFrom 0 0 ((hs.drop j).take m) = true ↔ MoreAt hs j m)) := fun h2 h1 hjm => run_large h1 (by rw [HL.out]; exact hjm) h2 hm
        have HK0 := Lib.hid hm
        clear hg hh
        have HKD : Hid ((hdAt hs j).1 = (hdAt hs j).1) := rfl
        generalize hkd : (hdAt hs j).1 = kd at *
        generalize hcl : (hdAt hs j).2.1 = cl at *
        generalize hmm : (hdAt hs j).2.2 = mn at *
        have HE1 := Lib.hid hkd
        have HE2 := Lib.hid hcl
        have HE3 := Lib.hid hmm
        subst hm
        rw [Int.toNat_natCast] at hV
        clear hkd hcl hmm HKD HK0
        have HC0 : Hid (∀ W, Kp w W → W.cell? (ad.add (j * 3)) = some (.int .i64 kd) ∧ W.cell? ⟨(ad.add (j * 3)).block, (ad.add (j * 3)).off + 1, none⟩ = some (.int .i64 cl) ∧ W.cell? ⟨(ad.add (j * 3)).block, (ad.add (j * 3)).off + 2, none⟩ = some (.int .i64 m)) := fun W hk => by
          have := HC.out W hk j hjn
          rw [HE1.out, HE2.out, HE3.out] at this
          exact this
        by_cases h1 : kd = 1
        · have HV : Hid (wholeV s l r hs j = true) := by unfold Hid; rw [hV]; simp [h1]
          have e1 : (kd == 1) = true := by simp [h1]
          clear hV h1
          go_enter Try.func59, Try.ntmps59
          go_wp2_with fail
          refine ((HRT _).out (HR.out.kp (Kp.self.alloc _))).mono ?_
          rintro e w1 ⟨rfl, hk1⟩
          have HK1 : Hid (Kp w w1) := (Kp.self.alloc _).trans hk1
          obtain ⟨c0, c1, c2⟩ := HC0.out w1 HK1.out
          go_wp2
          go_ret
          exact ⟨ret_bool HV.out.symm, HK1.out⟩
        · by_cases h2 : kd = 2
          · have e1 : (kd == 1) = false := by simp [h1]
            have e2 : (kd != 2) = false := by simp [h2]
            have hm1 := HLG.out h2
            by_cases hjm : (j : Int) + m ≤ n
            · have HV : Hid (wholeV s l r hs j = true ↔ MoreAt hs j m) := by unfold Hid; rw [hV]; simp [h1, h2, show (j : Int) + m ≤ s by omega]; exact HRUN.out h2 (by omega) (by omega)
              clear hV h1 h2
              go_enter Try.func59, Try.ntmps59
              go_wp2_with fail
              refine ((HRT _).out (HR.out.kp (Kp.self.alloc _))).mono ?_
              rintro e w1 ⟨rfl, hk1⟩
              have HK1 : Hid (Kp w w1) := (Kp.self.alloc _).trans hk1
              obtain ⟨c0, c1, c2⟩ := HC0.out w1 HK1.out
              clear hk1
              go_wp2
              go_loopw [7] (fun x wr => ∃ k : Nat, 1 ≤ k ∧ k ≤ m ∧ x = .int .i64 k ∧ Hid (Kp w wr) ∧ Hid (MoreAt hs j k)) (fun x _ => m - (intOf x).toNat)
              case atStart => exact ⟨1, by omega, by omega, rfl, HK1, fun k h1 h2 => absurd h1 (by omega)⟩
              case round =>
                obtain ⟨k, hk1, hk, rfl, HK, HMO⟩ := hrel
                obtain ⟨c0, c1, c2⟩ := HC0.out _ HK.out
                by_cases hlt : k < m
                · obtain ⟨d0, d1, d2⟩ := HC.out _ HK.out (j + k) (by omega)
                  have b3 : (0 : Int) ≤ (j : Int) + k := by omega
                  have b4 : (j : Int) + k < n := by omega
                  have b5 : (k : Int) < m := by omega
                  have t1 : ((j : Int) + k).toNat = j + k := by omega
                  by_cases h3 : (hdAt hs (j + k)).1 = 3
                  · have e3 : ((hdAt hs (j + k)).1 != 3) = false := by simp [h3]
                    by_cases h4 : (hdAt hs (j + k)).2.2 = k
                    · have HM2 : Hid (MoreAt hs j (k + 1)) := fun k' h1 h2 => by
                        by_cases h : k' = k
                        · subst h; exact ⟨h3, h4⟩
                        · exact HMO.out k' h1 (by omega)
                      have e4 : ((hdAt hs (j + k)).2.2 != (k : Int)) = false := by simp [h4]
                      generalize (hdAt hs (j + k)).1 = q1 at *
                      generalize (hdAt hs (j + k)).2.2 = q3 at *
                      clear h3 h4
                      go_wp2
                      go_roundw
                      case rel => exact ⟨k + 1, by omega, by omega, by go_num, HK, HM2⟩
                      case measure => simp [intOf]; omega
                    · have HF : Hid (wholeV s l r hs j = false) := by
                        unfold Hid
                        cases hq : wholeV s l r hs j
                        · rfl
                        · exact absurd ((HV.out.1 hq) k hk1 hlt).2 h4
                      have e4 : ((hdAt hs (j + k)).2.2 != (k : Int)) = true := by simp [h4]
                      generalize (hdAt hs (j + k)).1 = q1 at *
                      generalize (hdAt hs (j + k)).2.2 = q3 at *
                      clear h3 h4
                      go_wp2
                      go_ret
                      exact ⟨ret_bool HF.out.symm, HK.out⟩
                  · have HF : Hid (wholeV s l r hs j = false) := by
                      unfold Hid
                      cases hq : wholeV s l r hs j
                      · rfl
                      · exact absurd ((HV.out.1 hq) k hk1 hlt).1 h3
                    have e3 : ((hdAt hs (j + k)).1 != 3) = true := by simp [h3]
                    generalize (hdAt hs (j + k)).1 = q1 at *
                    generalize (hdAt hs (j + k)).2.2 = q3 at *
                    clear h3
                    go_wp2
                    go_ret
                    exact ⟨ret_bool HF.out.symm, HK.out⟩
                · obtain rfl : k = m := by omega
                  have HT : Hid (wholeV s l r hs j = true) := HV.out.2 HMO.out
                  go_wp2
                  go_ret
                  exact ⟨ret_bool HT.out.symm, HK.out⟩
            · have HV : Hid (wholeV s l r hs j = false) := by unfold Hid; rw [hV]; simp [h1, h2]; omega
              clear hV h1 h2
              go_enter Try.func59, Try.ntmps59
              go_wp2_with fail
              refine ((HRT _).out (HR.out.kp (Kp.self.alloc _))).mono ?_
              rintro e w1 ⟨rfl, hk1⟩
              have HK1 : Hid (Kp w w1) := (Kp.self.alloc _).trans hk1
              obtain ⟨c0, c1, c2⟩ := HC0.out w1 HK1.out
              go_wp2
              go_ret
              exact ⟨ret_bool HV.out.symm, HK1.out⟩
          · have HV : Hid (wholeV s l r hs j = false) := by unfold Hid; rw [hV]; simp [h1, h2]
            have e1 : (kd == 1) = false := by simp [h1]
            have e2 : (kd != 2) = true := by simp [h2]
            clear hV h1 h2
            go_enter Try.func59, Try.ntmps59
            go_wp2_with fail
            refine ((HRT _).out (HR.out.kp (Kp.self.alloc _))).mono ?_
            rintro e w1 ⟨rfl, hk1⟩
            have HK1 : Hid (Kp w w1) := (Kp.self.alloc _).trans hk1
            obtain ⟨c0, c1, c2⟩ := HC0.out w1 HK1.out
            go_wp2
            go_ret
            exact ⟨ret_bool HV.out.symm, HK1.out⟩
end Go.Proofs.Ytpmbjlmplfejgaa
