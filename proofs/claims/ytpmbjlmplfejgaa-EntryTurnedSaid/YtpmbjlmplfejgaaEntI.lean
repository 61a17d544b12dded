/- The laws EntryReads and EntryWords, as walks. -/
import Derived.Test.YtpmbjlmplfejgaaEntH
namespace Go.Proofs.Ytpmbjlmplfejgaa
open Go.RowKit
set_option linter.unusedVariables false
set_option linter.unusedSimpArgs false

set_option maxHeartbeats 1000000 in
set_option maxRecDepth 100000 in
theorem law_EntryReads (s : Int) (A : Option Addr) (n c : Nat) (xs : List Int) (w : World) (h0 : 0 ≤ s) (h1 : s < 18446744073709551616) (hr : RdI w .u64 A n xs) (hx : InR 18446744073709551616 xs) (hc : n ≤ c) (hcm : c ≤ maxLen) :
    Calls Try.prog 10 #[.int .u64 s, .slice A n c] w fun e w' => e = .returned (.bool true) ∧ Kp w w' := by
  have HR := Lib.hid hr
  have HX := Lib.hid hx
  have HC := Lib.hid hcm
  clear hr hx hcm
  go_enter Try.func10, Try.ntmps10
  go_wp2_with fail
  refine (alive10 _).mono ?_
  rintro e w1 ⟨rfl, hk⟩
  have HK1 := Lib.hid hk
  clear hk
  by_cases hn : (n : Int) > 200
  · go_wp2
    go_ret
    exact ⟨rfl, HK1.out⟩
  · go_wp2_with fail
    refine (eread_any s A n c xs _ h0 h1 (HR.out.kp HK1.out) HX.out hc HC.out).mono ?_
    rintro e w2 ⟨es, ok, v, rfl, hrd, hown, _, hk2⟩
    obtain ⟨A1, c1, rfl, hr1⟩ := own_rdE hown
    have HK2 := Lib.hid (HK1.out.trans hk2)
    have HD := Lib.hid hrd
    have HR1 := Lib.hid hr1
    clear hrd hown hk2 hr1
    obtain ⟨er, her⟩ : ∃ er, er = (if ok then (0 : Int) else 11) := ⟨_, rfl⟩
    rw [← her]
    have HER := Lib.hid her
    clear her
    go_wp2_with fail
    refine (erread_any s A n c xs _ h0 h1 (HR.out.kp HK2.out) HX.out hc HC.out).mono ?_
    rintro e w3 ⟨fs, ok', v, rfl, hrd, hown, _, hk3⟩
    obtain ⟨A2, c2, rfl, hr2⟩ := own_rdE hown
    obtain ⟨rfl, rfl⟩ := RdLog.uniq HD.out hrd
    have HK3 := Lib.hid (HK2.out.trans hk3)
    have HR2 := Lib.hid hr2
    have HR1' := Lib.hid (HR1.out.kp hk3)
    clear hrd hown hk3 hr2 HR1 HD
    cases ok
    · obtain rfl : er = 11 := HER.out
      go_wp2_with fail
      refine (same_any _ _ _ _ _ _ _ _ _ HR1'.out HR2.out).mono ?_
      rintro e w4 ⟨rfl, hk4⟩
      go_wp2
      go_ret
      exact ⟨ret_bool (by simp), Kp.trans HK3.out hk4⟩
    · obtain rfl : er = 0 := HER.out
      go_wp2_with fail
      refine (same_any _ _ _ _ _ _ _ _ _ HR1'.out HR2.out).mono ?_
      rintro e w4 ⟨rfl, hk4⟩
      go_wp2
      go_ret
      exact ⟨ret_bool (by simp), Kp.trans HK3.out hk4⟩
theorem rowLe {k : IntKind} {A : Option Addr} {n c : Nat} {zs : List Int} {W : World} (h : IsRow k W A n c zs) : n ≤ c ∧ c ≤ maxLen := by
  rcases h with ⟨rfl, rfl, rfl, rfl⟩ | ⟨x, rfl, h1, h2, _⟩
  · exact ⟨Nat.le_refl _, Nat.zero_le _⟩
  · exact ⟨h1, h2⟩
theorem law_EntryReads' {s : Int} {A : Option Addr} {n c : Nat} {zs : List Int} {W : World} (hs : (Lit.int .u64 s).wf = true) (h : IsRow .u64 W A n c zs) :
    Calls Try.prog 10 #[.int .u64 s, .slice A n c] W fun e w' => e = .returned (.bool true) ∧ Kp W w' := by
  have h1 := rd_row h
  have h2 := wf_u64 hs
  exact law_EntryReads s A n c _ W h2.1 h2.2 h1.1 (inR_u64 h1.2.2) (rowLe h).1 (rowLe h).2

theorem own_le {w : World} {base n : Nat} {e : TypeId} {size : Nat} {A : Option Addr} {m c : Nat} {xs : List Value} (h : w.ownsRow base e size (.slice A m c) n xs) : n ≤ c ∧ c ≤ maxLen := by
  rcases h.2 with ⟨h1, h2⟩ | ⟨g, cap, cur, h1, _, _, h2, h3, _⟩
  · injection h1 with a b d
    subst d
    exact ⟨by omega, Nat.zero_le _⟩
  · injection h1 with a b d
    subst d
    exact ⟨h2, h3⟩

set_option maxHeartbeats 1000000 in
set_option maxRecDepth 100000 in
theorem law_EntryWords (A : Option Addr) (n c : Nat) (es : List Ent) (B : Option Addr) (m d : Nat) (ms : List Int) (w : World) (hr : RdE w A n es) (he : InE es) (hm : RdI w .u64 B m ms) (hx : InR 18446744073709551616 ms) (hB : B = none → m = 0 ∧ d = 0) :
    Calls Try.prog 9 #[.slice A n c, .slice B m d] w fun e w' => e = .returned (.bool true) ∧ Kp w w' := by
  have HR := Lib.hid hr
  have HE := Lib.hid he
  have HM := Lib.hid hm
  have HX := Lib.hid hx
  have HB := Lib.hid hB
  clear hr he hm hx hB
  by_cases hn : (n : Int) > 100
  · go_enter Try.func9, Try.ntmps9
    go_wp2_with fail
    refine (alive10 _).mono ?_
    rintro e w1 ⟨rfl, hk⟩
    go_wp2
    go_ret
    exact ⟨rfl, hk⟩
  · by_cases hmm : (m : Int) > 100
    · go_enter Try.func9, Try.ntmps9
      go_wp2_with fail
      refine (alive10 _).mono ?_
      rintro e w1 ⟨rfl, hk⟩
      go_wp2
      go_ret
      exact ⟨rfl, hk⟩
    · cases hmay : entMay es
      · have hwe : wordsE es = [] := by unfold wordsE; rw [hmay]; rfl
        have hse : sealE es = 0 := by unfold sealE; rw [hmay]; rfl
        have HW := Lib.hid hwe
        have HS := Lib.hid hse
        have HMY := Lib.hid hmay
        clear hwe hse hmay
        go_enter Try.func9, Try.ntmps9
        go_wp2_with fail
        refine (alive10 _).mono ?_
        rintro e w1 ⟨rfl, hk⟩
        have HK1 := Lib.hid hk
        clear hk
        go_wp2_with fail
        refine (ewords_any A n c es _ (HR.out.kp HK1.out) HE.out).mono ?_
        rw [show EWordsPost es w1 = fun e w' => ∃ v, e = .returned v ∧ OwnI w' w1.heap.size 28 .u64 v [] ∧ Kp w1 w' by unfold EWordsPost; rw [HW.out]]
        rintro e w2 ⟨v, rfl, hown, hk2⟩
        obtain ⟨A1, c1, rfl⟩ := own_slice hown
        have HK2 := Lib.hid (HK1.out.trans hk2)
        have hl : (([] : List Int).length : Int) = 0 := rfl
        clear hk2 hown
        go_wp2_with fail
        refine (ermay_any A n c es _ (HR.out.kp HK2.out)).mono ?_
        rw [HMY.out]
        rintro e w3 ⟨rfl, hk3⟩
        have HK3 := Lib.hid (HK2.out.trans hk3)
        clear hk3
        go_wp2_with fail
        refine (eseal_any A n c es _ (HR.out.kp HK3.out) HE.out).mono ?_
        rw [HS.out]
        rintro e w4 ⟨rfl, hk4⟩
        go_wp2
        go_ret
        exact ⟨rfl, HK3.out.trans hk4⟩
      · have hwe : wordsE es = entW es := by unfold wordsE; rw [hmay]; rfl
        have hse : sealE es = sealI (entW es) := by unfold sealE; rw [hmay]; rfl
        have hwr := entW_rng HE.out hmay
        have HBACK := Lib.hid (fun ms => rdLog_back hmay ms)
        have hlen : (entW es).length ≤ 32 := by rw [entW_len]; have := (entMay_len hmay).2; omega
        have HW := Lib.hid hwe
        have HS := Lib.hid hse
        have HMY := Lib.hid hmay
        have HWR := Lib.hid hwr
        have hsr : 0 ≤ sealI (entW es) ∧ sealI (entW es) < 18446744073709551616 := by
          have := crc_rng (entW es)
          unfold sealI
          omega
        clear hwe hse hmay hwr
        go_enter Try.func9, Try.ntmps9
        go_wp2_with fail
        refine (alive10 _).mono ?_
        rintro e w1 ⟨rfl, hk⟩
        have HK1 := Lib.hid hk
        clear hk
        go_wp2_with fail
        refine (ewords_any A n c es _ (HR.out.kp HK1.out) HE.out).mono ?_
        rw [show EWordsPost es w1 = fun e w' => ∃ v, e = .returned v ∧ OwnI w' w1.heap.size 28 .u64 v (entW es) ∧ Kp w1 w' by unfold EWordsPost; rw [HW.out]]
        rintro e w2 ⟨v, rfl, hown, hk2⟩
        generalize hL : (entW es).length = L at *
        obtain ⟨A1, c1, rfl, hrd1⟩ := own_rd (show w2.ownsRow w1.heap.size 28 1 v L (nums .u64 (entW es)) by rw [← hL]; exact hown)
        have HO2 : Hid (OwnI w2 w.heap.size 28 .u64 (.slice A1 L c1) (entW es)) := own_lower hown HK1.out.size
        have HD1 := Lib.hid hrd1
        have HK2 := Lib.hid (HK1.out.trans hk2)
        have HL := Lib.hid hL
        clear hk2 hown hrd1 hL
        go_wp2_with fail
        refine (ermay_any A n c es _ (HR.out.kp HK2.out)).mono ?_
        rw [HMY.out]
        rintro e w3 ⟨rfl, hk3⟩
        have HK3 := Lib.hid (HK2.out.trans hk3)
        have HO3 : Hid (OwnI w3 w.heap.size 28 .u64 (.slice A1 L c1) (entW es)) := own_kp HO2.out hk3
        have HD3 := Lib.hid (HD1.out.kp hk3)
        clear hk3 HO2 HD1
        go_wp2_with fail
        refine (erwords_any A n c es _ (HR.out.kp HK3.out) HE.out HMY.out).mono ?_
        rintro e w4 ⟨v, rfl, hown, hk4⟩
        obtain ⟨A2, c2, rfl, hrd2⟩ := own_rd (show w4.ownsRow w3.heap.size 28 1 v L (nums .u64 (entW es)) by rw [← HL.out]; exact hown)
        have HK4 := Lib.hid (HK3.out.trans hk4)
        have HO4 : Hid (OwnI w4 w.heap.size 28 .u64 (.slice A1 L c1) (entW es)) := own_kp HO3.out hk4
        have HD4 := Lib.hid (HD3.out.kp hk4)
        have HV4 := Lib.hid hrd2
        clear hk4 hown hrd2 HO3 HD3
        go_wp2_with fail
        refine (eseal_any A n c es _ (HR.out.kp HK4.out) HE.out).mono ?_
        rw [HS.out]
        rintro e w5 ⟨rfl, hk5⟩
        have HK5 := Lib.hid (HK4.out.trans hk5)
        have HO5 : Hid (OwnI w5 w.heap.size 28 .u64 (.slice A1 L c1) (entW es)) := own_kp HO4.out hk5
        have HD5 := Lib.hid (HD4.out.kp hk5)
        have HV5 := Lib.hid (HV4.out.kp hk5)
        clear hk5 HO4 HD4 HV4
        go_wp2_with fail
        refine (rsealed_any A2 L c2 (entW es) _ HV5.out HWR.out (by omega)).mono ?_
        rintro e w6 ⟨rfl, hk6⟩
        have HK6 := Lib.hid (HK5.out.trans hk6)
        have HO6 : Hid (OwnI w6 w.heap.size 28 .u64 (.slice A1 L c1) (entW es)) := own_kp HO5.out hk6
        have HD6 := Lib.hid (HD5.out.kp hk6)
        have HV6 := Lib.hid (HV5.out.kp hk6)
        clear hk6 HO5 HD5 HV5
        generalize sealI (entW es) = q at *
        go_wp2_with fail
        go_loopw [7] (fun i wr => ∃ k : Nat, k ≤ L ∧ i = .int .i64 k ∧ Hid (Kp w6 wr)) (fun i _ => L - (intOf i).toNat)
        case atStart => exact ⟨0, by omega, rfl, Kp.self⟩
        case round =>
          obtain ⟨k, hk, rfl, HKR⟩ := hrel
          by_cases hlt : k < L
          · obtain ⟨ad1, rfl, hc1⟩ := (HD6.out.kp HKR.out).at_ k hlt
            obtain ⟨ad2, rfl, hc2⟩ := (HV6.out.kp HKR.out).at_ k hlt
            have q1 := fun W : KW wr => W.cell hc1
            have q2 := fun W : KW wr => W.cell hc2
            have b1 : (0 : Int) ≤ k := by omega
            have b2 : (k : Int) < L := by omega
            clear hc1 hc2
            generalize (entW es)[k]?.getD 0 = x at *
            go_wp2
            refine wp_region_kw wr Kp.self (by kernel_rfl) (by kernel_rfl) ?_
            repeat (any_goals (first | go_big_quiet_step (fail) | quiet_step (fail)))
            refine wpQuiet_nil ?_
            rintro w7 ⟨W, e⟩
            have HK7 : Hid (Kp w6 w7) := Kp.trans HKR.out (e ▸ W.2)
            clear e W q1 q2
            go_wp2
            go_roundw
            case rel => exact ⟨k + 1, by omega, by go_num, HK7⟩
            case measure => simp [intOf]; omega
          · obtain rfl : k = L := by omega
            have HK7 := Lib.hid (HK6.out.trans HKR.out)
            have HO7 : Hid (OwnI wr w.heap.size 28 .u64 (.slice A1 k c1) (entW es)) := own_kp HO6.out HKR.out
            clear HKR HO6 HD6 HV6
            go_wp2_with fail
            refine (eseal_any A n c es _ (HR.out.kp HK7.out) HE.out).mono ?_
            rw [HS.out]
            rintro e w8 ⟨rfl, hk8⟩
            have HK8 := Lib.hid (HK7.out.trans hk8)
            have HO8 : Hid (OwnI w8 w.heap.size 28 .u64 (.slice A1 k c1) (entW es)) := own_kp HO7.out hk8
            clear hk8 HO7
            go_wp2_with (at_builtin; refine app_ints (w0 := w) w.heap.size rfl (.tmp 65) (.tmp 66) 27 28 .u64 8 rfl Try.underlying27 info28 (by decide) _ _ ms _ _ _ rfl rfl HB.out (HM.out.kp HK8.out) HO8.out HK8.out HK8.out.size ?c1 ?_)
            case c1 => rw [HL.out]; omega
            intro v1 w9 hown hk9 _ _
            have hll : (entW es ++ ms).length = k + m := by rw [List.length_append, HL.out, HM.out.1]
            obtain ⟨A3, c3, rfl, hrd3⟩ := own_rd (show w9.ownsRow w.heap.size 28 1 v1 (k + m) (nums .u64 (entW es ++ ms)) by rw [← hll]; exact hown)
            have HLE := Lib.hid (own_le hown)
            have HRD := Lib.hid hrd3
            have HK9 : Hid (Kp w w9) := hk9
            have HLL := Lib.hid hll
            clear hown hk9 hrd3 hll
            go_wp2_with fail
            refine (eread_any _ _ _ _ (entW es ++ ms) _ hsr.1 hsr.2 HRD.out (HWR.out.app HX.out) (by have := HLE.out.1; rw [HLL.out] at this; exact this) HLE.out.2).mono ?_
            rintro e w10 ⟨fs, ok, v, rfl, hrd, hown, _, hk10⟩
            obtain ⟨rfl, rfl⟩ := RdLog.uniq hrd (HBACK.out ms)
            obtain ⟨A4, c4, rfl, hr4⟩ := own_rdE hown
            have HK10 := Lib.hid (Kp.trans HK9.out hk10)
            have HR4 := Lib.hid hr4
            clear hrd hown hk10 hr4
            simp only [if_true]
            go_wp2_with fail
            refine (same_any _ _ _ _ _ _ _ _ _ (HR.out.kp HK10.out) HR4.out).mono ?_
            rintro e w11 ⟨rfl, hk11⟩
            go_wp2
            go_ret
            exact ⟨ret_bool (by simp), HK10.out.trans hk11⟩
theorem law_EntryWords' {A : Option Addr} {n c : Nat} {es : List Ent} {B : Option Addr} {m d : Nat} {zs : List Int} {W : World} (h : IsEnts W A n c es) (k : IsRow .u64 W B m d zs) :
    Calls Try.prog 9 #[.slice A n c, .slice B m d] W fun e w' => e = .returned (.bool true) ∧ Kp W w' := by
  have h1 := rd_row k
  exact law_EntryWords A n c es B m d _ W h.1 h.2.1 h1.1 (inR_u64 h1.2.2) (row_none k)
end Go.Proofs.Ytpmbjlmplfejgaa
