/- The law ImageReplays, as a walk. -/
import Derived.Test.YtpmbjlmplfejgaaImaH
namespace Go.Proofs.Ytpmbjlmplfejgaa
open Go.RowKit
set_option linter.unusedVariables false
set_option linter.unusedSimpArgs false

/-- an owned list, opened -/
theorem own_open {w : World} {base : Nat} {e : TypeId} {k : IntKind} {v : Value} {xs : List Int} {n : Nat} (h : OwnI w base e k v xs) (hn : xs.length = n) :
    ∃ A c, v = .slice A n c ∧ RdI w k A n xs ∧ n ≤ c ∧ c ≤ maxLen ∧ (A = none → n = 0 ∧ c = 0) := by
  obtain ⟨A, c, rfl, hr⟩ := own_rd h
  have hl := own_leL h
  have ha := own_none h
  rw [hn] at hr hl ha
  exact ⟨A, c, by rw [hn], hr, hl.1, hl.2, ha⟩
theorem supErr_ok (ok : Bool) : (supErr ok == 0) = ok := by cases ok <;> decide

set_option maxHeartbeats 2000000 in
set_option maxRecDepth 100000 in
theorem law_ImageReplays (A : Option Addr) (n c : Nat) (xs : List Int) (w : World) (hr : RdI w .u64 A n xs) (hx : InR 18446744073709551616 xs) (hc : n ≤ c) (hcm : c ≤ maxLen) (hA : A = none → n = 0 ∧ c = 0) :
    Calls Try.prog 17 #[.slice A n c] w fun e w' => e = .returned (.bool true) ∧ Kp w w' := by
  have HR := Lib.hid hr
  have HX := Lib.hid hx
  have HCM := Lib.hid hcm
  have HA := Lib.hid hA
  clear hr hx hcm hA
  go_enter Try.func17, Try.ntmps17
  go_wp2_with fail
  refine (alive12 _).mono ?_
  rintro e w1 ⟨rfl, hk1⟩
  have HK1 := Lib.hid hk1
  clear hk1
  by_cases hn : (n : Int) > 2000
  · go_wp2
    go_ret
    exact ⟨rfl, HK1.out⟩
  · have hn' : n ≤ 2000 := by omega
    have HO : Hid (OwnI (w1.alloc (.cells #[] 28)) w.heap.size 28 .u64 (.slice (some ⟨w1.heap.size, 0, none⟩) 0 0) []) := own_cells (xs := []) (heap_alloc_new _ _) HK1.out.size (by simp)
    have HK2 : Hid (Kp w (w1.alloc (.cells #[] 28))) := HK1.out.alloc _
    go_wp2_with (at_builtin; refine app_ints (w0 := w) w.heap.size rfl (.tmp 15) (.tmp 16) 27 28 .u64 8 rfl Try.underlying27 info28 (by decide) _ [] xs _ _ _ rfl rfl HA.out (HR.out.kp HK2.out) HO.out HK2.out HK2.out.size (by simp; omega) ?_)
    intro v1 w2 hown hk2 _ _
    obtain ⟨B, d, rfl, hrd, hld, hdm, hna⟩ := own_open (n := n) hown (by simpa using HR.out.1)
    have hrd : RdI w2 .u64 B n xs := by simpa using hrd
    have HRB := Lib.hid hrd
    have HDM := Lib.hid hdm
    have HNA := Lib.hid hna
    have HK3 : Hid (Kp w w2) := hk2
    clear hown hk2 hrd hdm hna HO HK1 HK2
    go_wp2_with fail
    refine (replayed_any B n d xs _ HRB.out HX.out hld HDM.out HNA.out (by omega)).mono ?_
    rintro e w3 ⟨v, res, ok, rfl, hown, hrep, hk⟩
    have HREP := Lib.hid hrep
    have HO3 := Lib.hid hown
    have HRB3 := Lib.hid (HRB.out.kp hk)
    have HK4 : Hid (Kp w w3) := HK3.out.trans hk
    clear hown hrep hk HK3 HRB
    generalize hse : supErr ok = er at *
    have HSE := Lib.hid hse
    clear hse
    go_wp2_with fail
    refine (rreplayed_any A n c xs _ (HR.out.kp HK4.out) HX.out hc HCM.out HA.out (by omega)).mono ?_
    rintro e w4 ⟨v', res', ok', rfl, hown, hrep, hk⟩
    obtain ⟨rfl, rfl⟩ := RepP.uniq hrep HREP.out
    have HO4 := Lib.hid hown
    have HO5 : Hid (OwnI w4 w2.heap.size 28 .u64 v res') := own_kp HO3.out hk
    have HRB4 := Lib.hid (HRB3.out.kp hk)
    have HK5 : Hid (Kp w w4) := HK4.out.trans hk
    clear hown hrep hk HK4 HRB3 HO3
    cases ok'
    · have hres : res' = [] := by
        rcases HREP.out with ⟨h, _⟩ | ⟨_, h, _⟩
        · cases h
        · exact h
      subst hres
      obtain rfl : er = 11 := HSE.out.symm
      obtain ⟨C, d2, rfl, _⟩ := own_open (n := 0) HO5.out rfl
      go_wp2_with fail
      refine (words_any B A n n d c xs xs _ HRB4.out (HR.out.kp HK5.out)).mono ?_
      rw [decide_eq_true (rfl : xs = xs)]
      rintro e w5 ⟨rfl, hk⟩
      go_wp2
      go_ret
      exact ⟨rfl, HK5.out.trans hk⟩
    · obtain rfl : er = 0 := HSE.out.symm
      have hrl := HREP.out.len HR.out.1
      obtain ⟨C, d2, rfl, hrc, hl1, hl2, hl3⟩ := own_open HO5.out hrl
      obtain ⟨D, d3, rfl, hrd, _⟩ := own_open HO4.out hrl
      have HRC := Lib.hid hrc
      have HRD := Lib.hid hrd
      have HL2 := Lib.hid hl2
      have HL3 := Lib.hid hl3
      clear hrc hrd hl2 hl3 hrl
      go_wp2_with fail
      refine (words_any C D n n d2 d3 res' res' _ HRC.out HRD.out).mono ?_
      rw [decide_eq_true (rfl : res' = res')]
      rintro e w5 ⟨rfl, hk⟩
      have HK6 := Lib.hid (HK5.out.trans hk)
      have HRC2 := Lib.hid (HRC.out.kp hk)
      have HRB5 := Lib.hid (HRB4.out.kp hk)
      clear hk HRC HRD HRB4 HO4 HO5 HK5
      go_wp2_with fail
      refine (words_any B A n n d c xs xs _ HRB5.out (HR.out.kp HK6.out)).mono ?_
      rw [decide_eq_true (rfl : xs = xs)]
      rintro e w6 ⟨rfl, hk⟩
      have HK7 := Lib.hid (HK6.out.trans hk)
      have HRC3 := Lib.hid (HRC2.out.kp hk)
      clear hk HRC2 HRB5 HK6
      go_wp2_with fail
      refine (replayed_any C n d2 res' _ HRC3.out (HREP.out.rng HX.out) hl1 HL2.out HL3.out (by omega)).mono ?_
      rintro e w7 ⟨v7, res7, ok7, rfl, hown, hrep, hk⟩
      obtain ⟨rfl, rfl⟩ := RepP.uniq hrep (HREP.out.twice HR.out.1)
      obtain ⟨E, d7, rfl, hre, _⟩ := own_open hown (HREP.out.len HR.out.1)
      have HRE := Lib.hid hre
      have HRC4 := Lib.hid (HRC3.out.kp hk)
      have HK8 := Lib.hid (HK7.out.trans hk)
      clear hown hrep hk hre HK7 HRC3
      simp only [supErr, if_true]
      go_wp2_with fail
      refine (words_any E C n n d7 d2 res7 res7 _ HRE.out HRC4.out).mono ?_
      rw [decide_eq_true (rfl : res7 = res7)]
      rintro e w8 ⟨rfl, hk⟩
      go_wp2
      go_ret
      exact ⟨rfl, HK8.out.trans hk⟩
end Go.Proofs.Ytpmbjlmplfejgaa
