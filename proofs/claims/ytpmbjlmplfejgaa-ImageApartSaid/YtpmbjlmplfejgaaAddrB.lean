/- head.Run; whole spans. -/
import Derived.Test.YtpmbjlmplfejgaaAddrA
import Derived.WalkMore
namespace Go.Proofs.Ytpmbjlmplfejgaa
open Go.RowKit
set_option linter.unusedVariables false
set_option linter.unusedSimpArgs false

def runFrom (left next : Int) : List Hd → Bool
  | [] => decide (left ≤ 0)
  | h :: t => if h.1 = 3 then (if left = 0 ∨ h.2.2 ≠ next then false else runFrom (left - 1) (next + 1) t) else if left > 0 then false else if h.1 = 2 then runFrom (h.2.2 - 1) 1 t else runFrom left next t
theorem drop_hd {hs : List Hd} {k : Nat} (hk : k < hs.length) : hs.drop k = hdAt hs k :: hs.drop (k + 1) := by
  rw [hdAt_eq hk]
  exact List.drop_eq_getElem_cons hk
theorem hOk_many {h : Hd} (hh : hOk h = true) : 0 ≤ h.2.2 ∧ h.2.2 ≤ 4 := by
  have := hMay_bd hh
  omega
theorem hOk_large {h : Hd} (hh : hOk h = true) (h2 : h.1 = 2) : 1 ≤ h.2.2 ∧ h.2.2 ≤ 4 := by
  obtain ⟨k, c, n⟩ := h
  dsimp only at h2
  subst h2
  unfold hOk at hh
  rw [hMay2] at hh
  simp at hh
  exact hh.2

set_option maxHeartbeats 2000000 in
set_option maxRecDepth 100000 in
theorem run_any (A : Option Addr) (n c : Nat) (hs : List Hd) (w : World) (hr : RdH w A n hs) (hok : ∀ h ∈ hs, hOk h = true) :
    Calls Try.prog 99 #[.slice A n c] w fun e w' => e = .returned (.bool (runFrom 0 0 hs)) ∧ Kp w w' := by
  have HR := Lib.hid hr
  have HL : Hid (hs.length = n) := hr.1
  have HO := Lib.hid hok
  have hn0 := hr.2.1
  clear hr hok
  go_enter Try.func99, Try.ntmps99
  go_wp2
  go_step3
  go_wp2
  go_step3
  go_wp2
  go_loopw [3, 4, 9] (fun l x i wr => ∃ (k : Nat) (left next : Int), k ≤ n ∧ i = .int .i64 k ∧ l = .int .i64 left ∧ x = .int .i64 next ∧ 0 ≤ left ∧ 0 ≤ next ∧ left + next ≤ 4 ∧ Hid (Kp w wr) ∧ Hid (runFrom left next (hs.drop k) = runFrom 0 0 hs)) (fun _ _ i _ => n - (intOf i).toNat)
  case atStart => exact ⟨0, 0, 0, by omega, rfl, rfl, rfl, by omega, by omega, by omega, Kp.self, by unfold Hid; rw [List.drop_zero]⟩
  case round =>
    obtain ⟨k, left, next, hk, rfl, rfl, rfl, hl0, hx0, hlx, HK, HE⟩ := hrel
    by_cases hlt : k < n
    · obtain ⟨ad, rfl, hc, hc2, hc3⟩ := (HR.out.kp HK.out).at_ k hlt
      have b1 : (0 : Int) ≤ k := by omega
      have b2 : (k : Int) < n := by omega
      have hh := HO.out _ (hdAt_mem (by rw [HL.out]; exact hlt))
      have HM := Lib.hid (hOk_large hh)
      have hmany := hOk_many hh
      have hE := HE.out
      rw [drop_hd (by rw [HL.out]; exact hlt), runFrom] at hE
      clear hh HE
      generalize (hdAt hs k).1 = kd at *
      generalize (hdAt hs k).2.1 = cl at *
      generalize (hdAt hs k).2.2 = mn at *
      obtain ⟨g0, g1, g2⟩ := box3 (Kp.self (w := wr.alloc (.cells #[.int .i64 kd, .int .i64 cl, .int .i64 mn] 42)))
      have HK2 : Hid (Kp w (wr.alloc (.cells #[.int .i64 kd, .int .i64 cl, .int .i64 mn] 42))) := HK.out.alloc _
      by_cases h3 : kd = 3
      · rw [if_pos h3] at hE
        have e3 : (kd == 3) = true := by simp [h3]
        by_cases hl : left = 0
        · rw [if_pos (.inl hl)] at hE
          have HE := Lib.hid hE
          have el : (left == 0) = true := by simp [hl]
          clear hE h3 hl
          go_wp2
          rw [Exit.noGoto_ret]
          go_ret
          exact ⟨ret_bool HE.out, HK2.out⟩
        · by_cases hx : mn = next
          · rw [if_neg (by omega)] at hE
            have HE := Lib.hid hE
            have el : (left == 0) = false := by simp [hl]
            have ex : (mn != next) = false := by simp [hx]
            clear hE h3 hx
            go_wp2
            go_roundw
            case rel => exact ⟨k + 1, left - 1, next + 1, by omega, by go_num, by go_num, by go_num, by omega, by omega, by omega, HK2, HE⟩
            case measure => simp [intOf]; omega
          · rw [if_pos (.inr hx)] at hE
            have HE := Lib.hid hE
            have el : (left == 0) = false := by simp [hl]
            have ex : (mn != next) = true := by simp [hx]
            clear hE h3 hx hl
            go_wp2
            rw [Exit.noGoto_ret]
            go_ret
            exact ⟨ret_bool HE.out, HK2.out⟩
      · rw [if_neg h3] at hE
        have e3 : (kd == 3) = false := by simp [h3]
        by_cases hl : left > 0
        · rw [if_pos hl] at hE
          have HE := Lib.hid hE
          clear hE h3
          go_wp2
          rw [Exit.noGoto_ret]
          go_ret
          exact ⟨ret_bool HE.out, HK2.out⟩
        · rw [if_neg hl] at hE
          by_cases h2 : kd = 2
          · rw [if_pos h2] at hE
            have HE := Lib.hid hE
            have e2 : (kd == 2) = true := by simp [h2]
            have hm := HM.out h2
            clear hE h3 h2 HM
            go_wp2
            go_roundw
            case rel => exact ⟨k + 1, mn - 1, 1, by omega, by go_num, by go_num, by go_num, by omega, by omega, by omega, HK2, HE⟩
            case measure => simp [intOf]; omega
          · rw [if_neg h2] at hE
            have HE := Lib.hid hE
            have e2 : (kd == 2) = false := by simp [h2]
            clear hE h3 h2 HM
            go_wp2
            go_roundw
            case rel => exact ⟨k + 1, left, next, by omega, by go_num, by go_num, by go_num, by omega, by omega, by omega, HK2, HE⟩
            case measure => simp [intOf]; omega
    · obtain rfl : k = n := by omega
      have hE := HE.out
      rw [List.drop_of_length_le (by rw [HL.out]; omega), runFrom] at hE
      have HE := Lib.hid hE
      clear hE
      go_wp2
      rw [Exit.noGoto_ret]
      go_ret
      exact ⟨ret_bool HE.out, HK.out⟩

/-- These spans go on a large block. -/
def MoreAt (hs : List Hd) (i m : Nat) : Prop := ∀ k, 1 ≤ k → k < m → (hdAt hs (i + k)).1 = 3 ∧ (hdAt hs (i + k)).2.2 = (k : Int)
theorem runFrom_more : ∀ (t : List Hd) (next : Int), runFrom t.length next t = true ↔ ∀ j, j < t.length → (hdAt t j).1 = 3 ∧ (hdAt t j).2.2 = next + j
  | [], next => by simp [runFrom]
  | h :: t, next => by
    rw [runFrom]
    have e0 : hdAt (h :: t) 0 = h := by simp [hdAt]
    have e1 : ∀ j, hdAt (h :: t) (j + 1) = hdAt t j := fun j => by simp [hdAt]
    by_cases h3 : h.1 = 3
    · rw [if_pos h3]
      by_cases hx : h.2.2 = next
      · rw [if_neg (by simp [hx]; omega), show (((h :: t).length : Nat) : Int) - 1 = (t.length : Int) by simp, runFrom_more t (next + 1)]
        constructor
        · intro H j hj
          cases j with
          | zero => rw [e0]; exact ⟨h3, by simpa using hx⟩
          | succ j =>
            rw [e1]
            have := H j (by simpa using hj)
            exact ⟨this.1, by rw [this.2]; omega⟩
        · intro H j hj
          have := H (j + 1) (by simp; omega)
          rw [e1] at this
          exact ⟨this.1, by rw [this.2]; omega⟩
      · rw [if_pos (.inr hx)]
        constructor
        · intro H; cases H
        · intro H
          have := (H 0 (by simp)).2
          rw [e0] at this
          exact absurd (by simpa using this) hx
    · rw [if_neg h3, if_pos (by simp)]
      constructor
      · intro H; cases H
      · intro H
        have := (H 0 (by simp)).1
        rw [e0] at this
        exact absurd this h3
theorem run_large {hs : List Hd} {i m : Nat} (hm : 1 ≤ m) (him : i + m ≤ hs.length) (h2 : (hdAt hs i).1 = 2) (hmn : (hdAt hs i).2.2 = (m : Int)) :
    runFrom 0 0 ((hs.drop i).take m) = true ↔ MoreAt hs i m := by
  obtain ⟨m', rfl⟩ : ∃ m', m = m' + 1 := ⟨m - 1, by omega⟩
  rw [drop_hd (by omega), List.take_succ_cons, runFrom, if_neg (by rw [h2]; decide), if_neg (by decide), if_pos h2, hmn]
  have hl : ((hs.drop (i + 1)).take m').length = m' := by rw [List.length_take, List.length_drop]; omega
  have h := runFrom_more ((hs.drop (i + 1)).take m') 1
  rw [hl] at h
  rw [show ((m' + 1 : Nat) : Int) - 1 = (m' : Int) by omega, h]
  unfold MoreAt
  constructor
  · intro H k h1 hk
    have := H (k - 1) (by omega)
    rw [hdAt_take _ _ _ (by omega), hdAt_drop, show i + 1 + (k - 1) = i + k by omega] at this
    exact ⟨this.1, by rw [this.2]; omega⟩
  · intro H j hj
    rw [hdAt_take _ _ _ hj, hdAt_drop]
    have := H (j + 1) (by omega) (by omega)
    rw [show i + (j + 1) = i + 1 + j by omega] at this
    exact ⟨this.1, by rw [this.2]; omega⟩

/-- A span is whole. -/
def wholeV (s l r : Int) (hs : List Hd) (i : Int) : Bool :=
  rightV s l r hs && (decide (0 ≤ i ∧ i < s) && (decide ((hdAt hs i.toNat).1 = 1) || (decide ((hdAt hs i.toNat).1 = 2) && (decide (i + (hdAt hs i.toNat).2.2 ≤ s) && runFrom 0 0 ((hs.drop i.toNat).take (hdAt hs i.toNat).2.2.toNat)))))
theorem right_all {s l r : Int} {hs : List Hd} (h : rightV s l r hs = true) : gMay s l r = true ∧ (hs.length : Int) = s ∧ ∀ x ∈ hs, hOk x = true := by
  simp only [rightV, Bool.and_eq_true, decide_eq_true_eq, List.all_eq_true] at h
  exact ⟨h.1, h.2.1, h.2.2⟩

set_option maxHeartbeats 2000000 in
set_option maxRecDepth 100000 in
theorem whole_any (s l r : Int) (A : Option Addr) (n c : Nat) (hs : List Hd) (i : Int) (w : World) (hr : RdH w A n hs) (hc : n ≤ c) (hcm : c ≤ maxLen) :
    Calls Try.prog 58 #[geo s l r, .slice A n c, .int .i64 i] w fun e w' => e = .returned (.bool (wholeV s l r hs i)) ∧ Kp w w' := by
  have HR := Lib.hid hr
  have HL : Hid (hs.length = n) := hr.1
  have hcc : c ≤ 9223372036854775807 := by simp only [maxLen] at hcm; omega
  have HRT := fun W => Lib.hid (right_any s l r A n c hs W)
  clear hr hcm
  cases hg : rightV s l r hs
  · have HV : Hid (wholeV s l r hs i = false) := by unfold Hid wholeV; rw [hg]; rfl
    rw [hg] at HRT
    go_enter Try.func58, Try.ntmps58
    go_wp2_with fail
    refine ((HRT _).out (HR.out.kp (Kp.self.alloc _))).mono ?_
    rintro e w1 ⟨rfl, hk1⟩
    go_wp2
    go_ret
    exact ⟨ret_bool HV.out.symm, (Kp.self.alloc _).trans hk1⟩
  · have HG := Lib.hid (right_all hg)
    rw [hg] at HRT
    by_cases hi : i < 0
    · have HV : Hid (wholeV s l r hs i = false) := by unfold Hid wholeV; rw [hg, show decide (0 ≤ i ∧ i < s) = false by simp; omega]; rfl
      clear hg
      go_enter Try.func58, Try.ntmps58
      go_wp2_with fail
      refine ((HRT _).out (HR.out.kp (Kp.self.alloc _))).mono ?_
      rintro e w1 ⟨rfl, hk1⟩
      go_wp2
      go_ret
      exact ⟨ret_bool HV.out.symm, (Kp.self.alloc _).trans hk1⟩
    · by_cases hi2 : i ≥ s
      · have HV : Hid (wholeV s l r hs i = false) := by unfold Hid wholeV; rw [hg, show decide (0 ≤ i ∧ i < s) = false by simp; omega]; rfl
        clear hg
        go_enter Try.func58, Try.ntmps58
        go_wp2_with fail
        refine ((HRT _).out (HR.out.kp (Kp.self.alloc _))).mono ?_
        rintro e w1 ⟨rfl, hk1⟩
        obtain ⟨g0, g1, g2⟩ := box3 hk1
        go_wp2
        go_ret
        exact ⟨ret_bool HV.out.symm, (Kp.self.alloc _).trans hk1⟩
      · obtain ⟨j, rfl⟩ := Int.eq_ofNat_of_zero_le (show 0 ≤ i by omega)
        have hsn : (n : Int) = s := by have := HG.out.2.1; rw [HL.out] at this; exact this
        have hjn : j < n := by omega
        obtain ⟨ad, rfl, _⟩ := HR.out.at_ j hjn
        have b1 : (0 : Int) ≤ j := by omega
        have b2 : (j : Int) < n := by omega
        have hh := HG.out.2.2 _ (hdAt_mem (by rw [HL.out]; exact hjn))
        have HLG := Lib.hid (hOk_large hh)
        have hmn := hOk_many hh
        have hs16 := may_bd HG.out.1
        have hV : wholeV s l r hs j = (decide ((hdAt hs j).1 = 1) || (decide ((hdAt hs j).1 = 2) && (decide ((j : Int) + (hdAt hs j).2.2 ≤ s) && runFrom 0 0 ((hs.drop j).take (hdAt hs j).2.2.toNat)))) := by
          unfold wholeV
          rw [hg, show decide (0 ≤ (j : Int) ∧ (j : Int) < s) = true by simp; omega]
          simp
        have HC : Hid (∀ W, Kp w W → W.cell? (ad.add (j * 3)) = some (.int .i64 (hdAt hs j).1) ∧ W.cell? ⟨(ad.add (j * 3)).block, (ad.add (j * 3)).off + 1, none⟩ = some (.int .i64 (hdAt hs j).2.1) ∧ W.cell? ⟨(ad.add (j * 3)).block, (ad.add (j * 3)).off + 2, none⟩ = some (.int .i64 (hdAt hs j).2.2)) := fun W hk => by
          obtain ⟨ad', e, h⟩ := (HR.out.kp hk).at_ j hjn
          injection e with e
          subst e
          exact h
        obtain ⟨m, hm⟩ := Int.eq_ofNat_of_zero_le hmn.1
        have HRUN : Hid (∀ W, Kp w W → j + m ≤ n → ∀ C, Calls Try.prog 99 #[.slice (some (ad.add (j * 3))) m C] W fun e w' => e = .returned (.bool (runFrom 0 0 ((hs.drop j).take m))) ∧ Kp W w') := fun W hk hjm C =>
          run_any _ _ _ _ _ ((HR.out.kp hk).cut j m hjm) (fun x hx => HG.out.2.2 x (List.mem_of_mem_drop (List.mem_of_mem_take hx)))
        clear hg hh
        generalize (hdAt hs j).1 = kd at *
        generalize (hdAt hs j).2.1 = cl at *
        generalize (hdAt hs j).2.2 = mn at *
        subst hm
        rw [Int.toNat_natCast] at hV
        by_cases h1 : kd = 1
        · have HV : Hid (wholeV s l r hs j = true) := by unfold Hid; rw [hV]; simp [h1]
          have e1 : (kd == 1) = true := by simp [h1]
          clear hV h1
          go_enter Try.func58, Try.ntmps58
          go_wp2_with fail
          refine ((HRT _).out (HR.out.kp (Kp.self.alloc _))).mono ?_
          rintro e w1 ⟨rfl, hk1⟩
          obtain ⟨g0, g1, g2⟩ := box3 hk1
          have HK1 : Hid (Kp w w1) := (Kp.self.alloc _).trans hk1
          obtain ⟨c0, c1, c2⟩ := HC.out w1 HK1.out
          go_wp2
          go_ret
          exact ⟨ret_bool HV.out.symm, HK1.out.alloc _⟩
        · by_cases h2 : kd = 2
          · have e1 : (kd == 1) = false := by simp [h1]
            have e2 : (kd == 2) = true := by simp [h2]
            have hm1 := HLG.out h2
            by_cases hjm : (j : Int) + m ≤ s
            · have HV : Hid (wholeV s l r hs j = runFrom 0 0 ((hs.drop j).take m)) := by unfold Hid; rw [hV]; simp [h1, h2, hjm]
              have b3 : (j : Int) + m ≤ c := by omega
              have b4 : (c : Int) ≤ 9223372036854775807 := by omega
              have b5 : (j : Int) ≤ (j : Int) + m := by omega
              have b6 : ¬ c = j := by omega
              have t1 : ((j : Int) + m).toNat = j + m := by omega
              have t2 : ((j : Int) + m).toNat - j = m := by omega
              have t3 : j + m - j = m := by omega
              clear hV h1 h2
              go_enter Try.func58, Try.ntmps58
              go_wp2_with fail
              refine ((HRT _).out (HR.out.kp (Kp.self.alloc _))).mono ?_
              rintro e w1 ⟨rfl, hk1⟩
              obtain ⟨g0, g1, g2⟩ := box3 hk1
              have HK1 : Hid (Kp w w1) := (Kp.self.alloc _).trans hk1
              obtain ⟨c0, c1, c2⟩ := HC.out w1 HK1.out
              have g0' : ∀ o, (w1.alloc o).cell? ⟨w.heap.size, 0, none⟩ = some (.int .i64 s) := fun o => (Kp.self.alloc o).cell g0
              clear hk1
              go_wp2_with fail
              refine (HRUN.out _ (HK1.out.alloc _) (by omega) _).mono ?_
              rintro e w2 ⟨rfl, hk2⟩
              go_wp2
              go_ret
              exact ⟨ret_bool HV.out.symm, (HK1.out.alloc _).trans hk2⟩
            · have HV : Hid (wholeV s l r hs j = false) := by unfold Hid; rw [hV]; simp [h1, h2]; omega
              clear hV h1 h2
              go_enter Try.func58, Try.ntmps58
              go_wp2_with fail
              refine ((HRT _).out (HR.out.kp (Kp.self.alloc _))).mono ?_
              rintro e w1 ⟨rfl, hk1⟩
              obtain ⟨g0, g1, g2⟩ := box3 hk1
              have HK1 : Hid (Kp w w1) := (Kp.self.alloc _).trans hk1
              obtain ⟨c0, c1, c2⟩ := HC.out w1 HK1.out
              have g0' : ∀ o, (w1.alloc o).cell? ⟨w.heap.size, 0, none⟩ = some (.int .i64 s) := fun o => (Kp.self.alloc o).cell g0
              go_wp2
              go_ret
              exact ⟨ret_bool HV.out.symm, HK1.out.alloc _⟩
          · have HV : Hid (wholeV s l r hs j = false) := by unfold Hid; rw [hV]; simp [h1, h2]
            have e1 : (kd == 1) = false := by simp [h1]
            have e2 : (kd == 2) = false := by simp [h2]
            clear hV h1 h2
            go_enter Try.func58, Try.ntmps58
            go_wp2_with fail
            refine ((HRT _).out (HR.out.kp (Kp.self.alloc _))).mono ?_
            rintro e w1 ⟨rfl, hk1⟩
            obtain ⟨g0, g1, g2⟩ := box3 hk1
            have HK1 : Hid (Kp w w1) := (Kp.self.alloc _).trans hk1
            obtain ⟨c0, c1, c2⟩ := HC.out w1 HK1.out
            go_wp2
            go_ret
            exact ⟨ret_bool HV.out.symm, HK1.out.alloc _⟩
end Go.Proofs.Ytpmbjlmplfejgaa
