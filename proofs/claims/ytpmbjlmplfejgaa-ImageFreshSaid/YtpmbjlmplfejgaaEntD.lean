/- entry.Seal, entry.many, entry.Read. -/
import Derived.Test.YtpmbjlmplfejgaaEntC
import Derived.Test.YtpmbjlmplfejgaaSupC
namespace Go.Proofs.Ytpmbjlmplfejgaa
open Go.RowKit
set_option linter.unusedVariables false
set_option linter.unusedSimpArgs false

set_option maxRecDepth 100000 in
theorem eseal_any (A : Option Addr) (n c : Nat) (es : List Ent) (w : World) (hr : RdE w A n es) (he : InE es) :
    Calls Try.prog 43 #[.slice A n c] w fun e w' => e = .returned (.int .u64 (sealE es)) ∧ Kp w w' := by
  have HM := Lib.hid (emay_any A n c es w hr)
  cases hm : entMay es
  · rw [hm] at HM
    clear hr he
    go_enter Try.func43, Try.ntmps43
    go_wp2_with fail
    refine HM.out.mono ?_
    rintro e w1 ⟨rfl, hk1⟩
    go_wp2
    go_ret
    exact ⟨by unfold sealE; rw [hm]; rfl, hk1⟩
  · rw [hm] at HM
    have HR := Lib.hid hr
    have HI := Lib.hid he
    clear hr he
    have HN := Lib.hid hm
    clear hm
    go_enter Try.func43, Try.ntmps43
    go_wp2_with fail
    refine HM.out.mono ?_
    rintro e w1 ⟨rfl, hk1⟩
    have HK1 := Lib.hid hk1
    clear hk1
    go_wp2_with fail
    refine (ewords_any _ _ _ es _ (HR.out.kp HK1.out) HI.out).mono ?_
    rintro e w2 ⟨v, rfl, hown, hk2⟩
    have hw : wordsE es = entW es := by unfold wordsE; rw [HN.out, if_pos rfl]
    rw [hw] at hown
    obtain ⟨B, d, rfl, hrb⟩ := own_rd hown
    have HRB := Lib.hid hrb
    have HK2 : Hid (Kp w w2) := Kp.trans HK1.out hk2
    have hl : (entW es).length ≤ 32 := by rw [entW_len]; have := (entMay_len HN.out).2; omega
    clear hown hrb hk2 hw
    go_wp2_with fail
    refine (sealed_any _ _ _ _ _ HRB.out (entW_rng HI.out HN.out) (by omega)).mono ?_
    rintro e w3 ⟨rfl, rfl⟩
    go_wp2
    go_ret
    exact ⟨by unfold sealE; rw [HN.out, if_pos rfl]; rfl, HK2.out⟩

theorem many_any (s : Int) (w : World) (h0 : 0 ≤ s) (h1 : s < 18446744073709551616) :
    Calls Try.prog 106 #[.int .u64 s] w fun e w' => e = .returned (.int .i64 (manyI s)) ∧ Kp w w' := by
  have HG := Lib.hid (get_any s 32 31 w h0 h1 (by omega) (by omega) (by omega))
  have hq : 0 ≤ s / 4294967296 % 2147483648 ∧ s / 4294967296 % 2147483648 < 2147483648 := by omega
  have hm : manyI s = if s / 4294967296 % 2147483648 % 2 = 0 ∧ s / 4294967296 % 2147483648 ≤ 32 then (s / 4294967296 % 2147483648 / 2).toNat else 0 := rfl
  have he : s / 2 ^ (32 : Int).toNat % 2 ^ (31 : Int).toNat = s / 4294967296 % 2147483648 := rfl
  rw [he] at HG
  clear he
  have HE := Lib.hid hm
  clear hm
  generalize s / 4294967296 % 2147483648 = q at *
  by_cases hc : q % 2 = 0
  · by_cases hd : q > 32
    · have hz : manyI s = 0 := by rw [HE.out, if_neg (by omega)]
      have HZ := Lib.hid hz
      clear hz
      go_enter Try.func106, Try.ntmps106
      go_wp2_with fail
      refine HG.out.mono ?_
      rintro e w1 ⟨rfl, hk1⟩
      go_wp2
      go_ret
      exact ⟨by rw [HZ.out]; rfl, hk1⟩
    · have hz : (manyI s : Int) = q / 2 := by rw [HE.out, if_pos (by omega)]; omega
      have HZ := Lib.hid hz
      clear hz
      go_enter Try.func106, Try.ntmps106
      go_wp2_with fail
      refine HG.out.mono ?_
      rintro e w1 ⟨rfl, hk1⟩
      go_wp2
      go_ret
      exact ⟨by rw [HZ.out]; rfl, hk1⟩
  · have hz : manyI s = 0 := by rw [HE.out, if_neg (by omega)]
    have HZ := Lib.hid hz
    clear hz
    go_enter Try.func106, Try.ntmps106
    go_wp2_with fail
    refine HG.out.mono ?_
    rintro e w1 ⟨rfl, hk1⟩
    go_wp2
    go_ret
    exact ⟨by rw [HZ.out]; rfl, hk1⟩

def ERdPost (s : Int) (xs : List Int) (w : World) (e : Ending) (w' : World) : Prop :=
  ∃ es ok v, e = .returned (.tuple #[v, .int .i64 (if ok then 0 else 11)]) ∧ RdLog s xs es ok ∧ OwnE w' w.heap.size v es ∧ InE es ∧ Kp w w'
theorem InE.nil : InE [] := fun e h => by cases h
set_option maxHeartbeats 1000000 in
set_option maxRecDepth 100000 in
theorem eread_any (s : Int) (A : Option Addr) (m c : Nat) (xs : List Int) (w : World) (h0 : 0 ≤ s) (h1 : s < 18446744073709551616) (hr : RdI w .u64 A m xs) (hx : InR 18446744073709551616 xs) (hc : m ≤ c) (hcm : c ≤ maxLen) :
    Calls Try.prog 45 #[.int .u64 s, .slice A m c] w (ERdPost s xs w) := by
  have HR := Lib.hid hr
  have HX := Lib.hid hx
  have HL : Hid (xs.length = m) := hr.1
  have hcc : c ≤ 9223372036854775807 := by simp only [maxLen] at hcm; omega
  have HM := Lib.hid hcm
  clear hr hx hcm
  by_cases hs0 : s = 0
  · subst hs0
    go_enter Try.func45, Try.ntmps45
    go_wp2
    go_ret2
    exact ⟨[], true, _, rfl, .inl ⟨rfl, rfl, rfl⟩, World.ownsRow_nil _ _ _ _, InE.nil, Kp.self⟩
  · have hn := manyI_le s
    have HY := Lib.hid (many_any s w h0 h1)
    have HNN : Hid (manyI s = manyI s) := rfl
    generalize hnn : manyI s = n at *
    have HN := Lib.hid hnn
    clear hnn HNN
    by_cases hz : n = 0
    · subst hz
      have HZ : Hid (RdLog s xs [] false) := rdLog_not hs0 0 HN.out.symm (fun h => absurd rfl h)
      go_enter Try.func45, Try.ntmps45
      go_wp2_with fail
      refine HY.out.mono ?_
      rintro e w1 ⟨rfl, hk1⟩
      go_wp2
      go_ret2
      exact ⟨[], false, _, rfl, HZ.out, World.ownsRow_nil _ _ _ _, InE.nil, hk1⟩
    · by_cases hlen : m < 2 * n
      · have HZ : Hid (RdLog s xs [] false) := rdLog_not hs0 n HN.out.symm (fun _ h => by have := HL.out; omega)
        go_enter Try.func45, Try.ntmps45
        go_wp2_with fail
        refine HY.out.mono ?_
        rintro e w1 ⟨rfl, hk1⟩
        go_wp2
        go_ret2
        exact ⟨[], false, _, rfl, HZ.out, World.ownsRow_nil _ _ _ _, InE.nil, hk1⟩
      · obtain ⟨ad, rfl, _⟩ := HR.out.2.2 (by omega)
        go_enter Try.func45, Try.ntmps45
        go_wp2_with fail
        refine HY.out.mono ?_
        rintro e w1 ⟨rfl, hk1⟩
        have HK1 := Lib.hid hk1
        clear hk1
        have hb1 : ((n : Int) == 0) = false := by simp; omega
        have hb2 : ¬ ((m : Int) < 2 * n) := by omega
        go_wp2
        go_loopw [7, 8, 23] (fun v _ i wr => ∃ k : Nat, k ≤ n ∧ i = .int .i64 k ∧ OwnE wr w.heap.size v (entsOf xs k) ∧ Kp w wr) (fun _ _ i _ => n - (intOf i).toNat)
        case atStart => exact ⟨0, by omega, rfl, World.ownsRow_nil _ _ _ _, HK1.out⟩
        case round =>
          obtain ⟨k, hk, rfl, hown, hkp⟩ := hrel
          by_cases hlt : k < n
          · obtain ⟨ad1, e1, hc1⟩ := HR.out.at_ (2 * k) (by omega)
            obtain ⟨ad2, e2, hc2⟩ := HR.out.at_ (2 * k + 1) (by omega)
            injection e1 with e1
            injection e2 with e2
            subst e1
            subst e2
            have b1 : (0 : Int) ≤ k := by omega
            have b2 : (k : Int) < n := by omega
            obtain ⟨A', c', rfl⟩ := own_slice hown
            have HO := Lib.hid hown
            have HK := Lib.hid hkp
            have hx1 := HX.out.getD (by decide) (2 * k)
            have hx2 := HX.out.getD (by decide) (2 * k + 1)
            clear hown hkp
            generalize hxx1 : xs[2 * k]?.getD 0 = x1 at *
            generalize hxx2 : xs[2 * k + 1]?.getD 0 = x2 at *
            have HX1 := Lib.hid hxx1
            have HX2 := Lib.hid hxx2
            clear hxx1 hxx2
            go_wp2_with fail
            have e1 : IntKind.i64.wrap (2 * (k : Int)) = 2 * k := by rw [IntKind.wrap_i64]; omega
            have e2 : IntKind.i64.wrap (2 * (k : Int) + 1) = 2 * k + 1 := by rw [IntKind.wrap_i64]; omega
            have t1 : (2 * (k : Int)).toNat = 2 * k := by omega
            have t2 : (2 * (k : Int) + 1).toNat = 2 * k + 1 := by omega
            rw [Addr.add_succ'] at hc2
            have b3 : (0 : Int) ≤ 2 * k := by omega
            have b4 : 2 * (k : Int) < m := by omega
            have b5 : (0 : Int) ≤ 2 * k + 1 := by omega
            have b6 : 2 * (k : Int) + 1 < m := by omega
            refine wp_region_Md [] (fun w' => Kp w w') (by kernel_rfl) ?_
            refine anyM_takes (fuel := 6) [0, 1, 2, 3, 4, 5, 8, 9, 10, 11, 12, 13] (by kernel_rfl) (by kernel_rfl) (by kernel_rfl) (fun d _ _ _ _ h => by cases d <;> exact h) HK.out.drew ?_
            iterate 12
              refine takes_pos (v := ?_) rfl (by rfl) ?_ ?_
              rotate_left
              · intro w' hS
                have s0 := Kp.cell hS hc1
                have s1 := Kp.cell hS hc2
                go_simp
                rfl
              simp only [List.getElem_toArray, List.getElem_cons_succ, List.getElem_cons_zero, Act.put, List.setIfInBounds_toArray, List.set_cons_zero, List.set_cons_succ, e1, e2, t1, t2]
            refine takes_nil ?_
            refine anyM_step 6 (by kernel_rfl) rfl ?_
            go_wp2_with fail
            refine (get_any _ _ _ _ hx1.1 hx1.2 (by omega) (by omega) (by omega)).mono ?_
            rintro e w2 ⟨rfl, hk2⟩
            have hk2 : Kp wr w2 := Kp.self.drew.trans hk2
            have hg : x1 / 2 ^ (0 : Int).toNat % 2 ^ (32 : Int).toNat = x1 % 4294967296 := by simp
            rw [hg]
            have e3 : IntKind.i64.wrap (x1 % 4294967296) = x1 % 4294967296 := by rw [IntKind.wrap_i64]; omega
            have HK2 : Hid (Kp w w2) := Kp.trans HK.out hk2
            have HO2 : Hid (OwnE w2 w.heap.size (.slice A' (entsOf xs k).length c') (entsOf xs k)) := own_kp HO.out hk2
            clear hk2 hg HO HK
            go_wp2_with fail
            refine ⟨fun _ => HK2.out, ?_⟩
            refine anyM_takes (fuel := 3) [7, 14] (by kernel_rfl) (by kernel_rfl) (by kernel_rfl) (fun d _ _ _ _ h => by cases d <;> exact h) HK2.out ?_
            iterate 2
              refine takes_pos (v := ?_) rfl (by rfl) ?_ ?_
              rotate_left
              · intro w' hS
                go_simp
                rfl
              simp only [List.getElem_toArray, List.getElem_cons_succ, List.getElem_cons_zero, Act.put, List.setIfInBounds_toArray, List.set_cons_zero, List.set_cons_succ, e3]
            refine takes_nil ?_
            refine anyM_step 15 (by kernel_rfl) rfl ?_
            go_wp2_with fail
            refine ⟨fun _ => HK2.out.alloc _, ?_⟩
            refine anyM_step 16 (by kernel_rfl) rfl ?_
            refine app_cells (w0 := w) w.heap.size rfl (.tmp 26) (.tmp 41) 53 136 (.agg #[.int .i64 0, .int .u64 0]) 2 16 rfl Try.underlying53 info136 rfl (by omega) (by omega) _ _ (entC (entsOf xs k)) [.int .i64 (x1 % 4294967296), .int .u64 x2] rfl rfl rfl (by simp [Value.oneCell']) HO2.out HK2.out HK2.out.size (by rw [entsOf_len]; omega) ?_
            intro v1 w3 hown hk3 _ _
            have HO3 : Hid (OwnE w3 w.heap.size v1 (entsOf xs (k + 1))) := by
              have e : entsOf xs (k + 1) = entsOf xs k ++ [(x1 % 4294967296, x2)] := by rw [entsOf_succ, HX1.out, HX2.out]
              unfold Hid
              rw [e]
              unfold OwnE
              rw [List.length_append, entC_app]
              exact hown
            have HK3 := Lib.hid hk3
            clear hown hk3 HO2 HK2
            go_wp2_with fail
            refine ⟨fun _ => HK3.out, ?_⟩
            refine anyM_step 17 (by kernel_rfl) rfl ?_
            go_wp2_with fail
            refine ⟨fun _ => HK3.out, ?_⟩
            refine ⟨by kernel_rfl, ?_⟩
            go_wp2
            go_roundw
            case rel => exact ⟨k + 1, by omega, by go_num, HO3.out, HK3.out⟩
            case measure => simp [intOf]; omega
          · obtain rfl : k = n := by omega
            obtain ⟨A', c', rfl, hrde⟩ := own_rdE hown
            have HO := Lib.hid hown
            have HK := Lib.hid hkp
            have HE := Lib.hid hrde
            have HI : Hid (InE (entsOf xs k)) := entsOf_rng xs k HX.out
            clear hown hkp hrde
            by_cases hse : s = sealE (entsOf xs k)
            · have hb : (s != sealE (entsOf xs k)) = false := by simp [hse]
              have HSE := Lib.hid hse
              clear hse
              generalize hg : sealE (entsOf xs k) = q at *
              have HG := Lib.hid hg
              clear hg
              have e1 : IntKind.i64.wrap (2 * (k : Int)) = 2 * k := by rw [IntKind.wrap_i64]; omega
              have b3 : (0 : Int) ≤ 2 * k := by omega
              have b4 : 2 * (k : Int) ≤ c := by omega
              have b7 : (c : Int) ≤ 9223372036854775807 := by omega
              have t1 : (2 * (k : Int)).toNat = 2 * k := by omega
              go_wp2_with fail
              refine wp_region_Md [] (fun w' => Kp w w') (by kernel_rfl) ?_
              refine anyM_takes (fuel := 12) [0, 1] (by kernel_rfl) (by kernel_rfl) (by kernel_rfl) (fun d _ _ _ _ h => by cases d <;> exact h) HK.out.drew ?_
              iterate 2
                refine takes_pos (v := ?_) rfl (by rfl) ?_ ?_
                rotate_left
                · intro w' hS
                  go_simp
                  rfl
                simp only [List.getElem_toArray, List.getElem_cons_succ, List.getElem_cons_zero, Act.put, List.setIfInBounds_toArray, List.set_cons_zero, List.set_cons_succ]
              refine takes_nil ?_
              refine anyM_step 2 (by kernel_rfl) rfl ?_
              go_wp2_with fail
              refine (eseal_any _ _ _ (entsOf xs k) _ (HE.out.kp Kp.self.drew) HI.out).mono ?_
              rw [HG.out]
              rintro e w2 ⟨rfl, hk2⟩
              have hk2 : Kp wr w2 := Kp.self.drew.trans hk2
              have HK2 : Hid (Kp w w2) := Kp.trans HK.out hk2
              have HE2 := Lib.hid (HE.out.kp hk2)
              have HO2 : Hid (OwnE w2 w.heap.size (.slice A' (entsOf xs k).length c') (entsOf xs k)) := own_kp HO.out hk2
              clear hk2 HK HE HO
              go_wp2_with fail
              refine ⟨fun _ => HK2.out, ?_⟩
              refine anyM_takes (fuel := 4) [3, 4, 5, 6, 7, 8, 9] (by kernel_rfl) (by kernel_rfl) (by kernel_rfl) (fun d _ _ _ _ h => by cases d <;> exact h) HK2.out ?_
              iterate 7
                refine takes_pos (v := ?_) rfl (by rfl) ?_ ?_
                rotate_left
                · intro w' hS
                  go_simp
                  rfl
                simp only [List.getElem_toArray, List.getElem_cons_succ, List.getElem_cons_zero, Act.put, List.setIfInBounds_toArray, List.set_cons_zero, List.set_cons_succ, e1, t1, hb]
              refine takes_nil ?_
              refine anyM_step 10 (by kernel_rfl) rfl ?_
              go_wp2_with fail
              refine (ewords_any _ _ _ (entsOf xs k) _ HE2.out HI.out).mono ?_
              rintro e w3 ⟨v, rfl, hown3, hk3⟩
              obtain ⟨B, d, rfl, hrb⟩ := own_rd hown3
              have HK3 : Hid (Kp w w3) := Kp.trans HK2.out hk3
              have HRB := Lib.hid hrb
              have HRT : Hid (RdI w3 .u64 (some ad) (2 * k) (xs.take (2 * k))) := ⟨by rw [List.length_take, HL.out]; omega, by omega, fun _ => ⟨ad, rfl, fun j hj => by
                obtain ⟨ad', e, hcj⟩ := HR.out.at_ j (by omega)
                injection e with e
                subst e
                rw [take_getD _ _ _ hj]
                exact Kp.cell HK3.out hcj⟩⟩
              have HO3 : Hid (OwnE w3 w.heap.size (.slice A' (entsOf xs k).length c') (entsOf xs k)) := own_kp HO2.out hk3
              clear hown3 hrb hk3 HK2 HO2
              go_wp2_with fail
              refine ⟨fun _ => HK3.out, ?_⟩
              refine anyM_step 11 (by kernel_rfl) rfl ?_
              go_wp2_with fail
              refine (equal_any _ _ _ _ _ _ _ _ _ HRT.out HRB.out).mono ?_
              rintro e w4 ⟨rfl, hk4⟩
              have HK4 : Hid (Kp w w4) := Kp.trans HK3.out hk4
              have HO4 : Hid (OwnE w4 w.heap.size (.slice A' (entsOf xs k).length c') (entsOf xs k)) := own_kp HO3.out hk4
              clear hk4 HK3 HO3 HRT HRB
              go_wp2_with fail
              refine ⟨fun _ => HK4.out, ?_⟩
              by_cases heq : xs.take (2 * k) = wordsE (entsOf xs k)
              · have HZ : Hid (RdLog s xs (entsOf xs k) true) := rdLog_of hs0 k HN.out.symm hz (by rw [HL.out]; omega) (by rw [HSE.out, HG.out]) heq
                have hd : decide (xs.take (2 * k) = wordsE (entsOf xs k)) = true := by simp [heq]
                simp only [hd]
                clear heq hd
                refine anyM_takes (fuel := 0) [12, 13] (by kernel_rfl) (by kernel_rfl) (by kernel_rfl) (fun d _ _ _ _ h => by cases d <;> exact h) HK4.out ?_
                iterate 2
                  refine takes_pos (v := ?_) rfl (by rfl) ?_ ?_
                  rotate_left
                  · intro w' hS
                    go_simp
                    rfl
                  simp only [List.getElem_toArray, List.getElem_cons_succ, List.getElem_cons_zero, Act.put, List.setIfInBounds_toArray, List.set_cons_zero, List.set_cons_succ]
                refine takes_nil ?_
                refine ⟨by kernel_rfl, ?_⟩
                go_wp2
                go_ret2
                exact ⟨_, true, _, rfl, HZ.out, HO4.out, HI.out, HK4.out⟩
              · have HZ : Hid (RdLog s xs [] false) := rdLog_not hs0 k HN.out.symm (fun _ _ h => heq h.2)
                have hd : decide (xs.take (2 * k) = wordsE (entsOf xs k)) = false := by simp [heq]
                simp only [hd]
                clear heq hd
                refine anyM_takes (fuel := 0) [12, 13] (by kernel_rfl) (by kernel_rfl) (by kernel_rfl) (fun d _ _ _ _ h => by cases d <;> exact h) HK4.out ?_
                iterate 2
                  refine takes_pos (v := ?_) rfl (by rfl) ?_ ?_
                  rotate_left
                  · intro w' hS
                    go_simp
                    rfl
                  simp only [List.getElem_toArray, List.getElem_cons_succ, List.getElem_cons_zero, Act.put, List.setIfInBounds_toArray, List.set_cons_zero, List.set_cons_succ]
                refine takes_nil ?_
                refine ⟨by kernel_rfl, ?_⟩
                go_wp2
                go_ret2
                exact ⟨[], false, _, rfl, HZ.out, World.ownsRow_nil _ _ _ _, InE.nil, HK4.out⟩
            · have hb : (s != sealE (entsOf xs k)) = true := by simp [hse]
              have HZ : Hid (RdLog s xs [] false) := rdLog_not hs0 k HN.out.symm (fun _ _ h => hse h.1)
              clear hse
              generalize hg : sealE (entsOf xs k) = q at *
              have HG := Lib.hid hg
              clear hg
              go_wp2_with fail
              refine wp_region_Md [] (fun w' => Kp w w') (by kernel_rfl) ?_
              refine anyM_takes (fuel := 12) [0, 1] (by kernel_rfl) (by kernel_rfl) (by kernel_rfl) (fun d _ _ _ _ h => by cases d <;> exact h) HK.out.drew ?_
              iterate 2
                refine takes_pos (v := ?_) rfl (by rfl) ?_ ?_
                rotate_left
                · intro w' hS
                  go_simp
                  rfl
                simp only [List.getElem_toArray, List.getElem_cons_succ, List.getElem_cons_zero, Act.put, List.setIfInBounds_toArray, List.set_cons_zero, List.set_cons_succ]
              refine takes_nil ?_
              refine anyM_step 2 (by kernel_rfl) rfl ?_
              go_wp2_with fail
              refine (eseal_any _ _ _ (entsOf xs k) _ (HE.out.kp Kp.self.drew) HI.out).mono ?_
              rw [HG.out]
              rintro e w2 ⟨rfl, hk2⟩
              have hk2 : Kp wr w2 := Kp.self.drew.trans hk2
              have HK2 : Hid (Kp w w2) := Kp.trans HK.out hk2
              clear hk2 HK HE HO
              go_wp2_with fail
              refine ⟨fun _ => HK2.out, ?_⟩
              refine anyM_takes (fuel := 0) [3, 4, 5, 6, 7, 8, 9, 10, 11, 12, 13] (by kernel_rfl) (by kernel_rfl) (by kernel_rfl) (fun d _ _ _ _ h => by cases d <;> exact h) HK2.out ?_
              iterate 2
                refine takes_pos (v := ?_) rfl (by rfl) ?_ ?_
                rotate_left
                · intro w' hS
                  go_simp
                  rfl
                simp only [List.getElem_toArray, List.getElem_cons_succ, List.getElem_cons_zero, Act.put, List.setIfInBounds_toArray, List.set_cons_zero, List.set_cons_succ, hb]
              iterate 8
                refine takes_neg rfl (by rfl) ?_
                simp only [List.getElem_toArray, List.getElem_cons_succ, List.getElem_cons_zero, Act.put, List.setIfInBounds_toArray, List.set_cons_zero, List.set_cons_succ]
              iterate 1
                refine takes_pos (v := ?_) rfl (by rfl) ?_ ?_
                rotate_left
                · intro w' hS
                  go_simp
                  rfl
                simp only [List.getElem_toArray, List.getElem_cons_succ, List.getElem_cons_zero, Act.put, List.setIfInBounds_toArray, List.set_cons_zero, List.set_cons_succ]
              refine takes_nil ?_
              refine ⟨by kernel_rfl, ?_⟩
              go_wp2
              go_ret2
              exact ⟨[], false, _, rfl, HZ.out, World.ownsRow_nil _ _ _ _, InE.nil, HK2.out⟩
end Go.Proofs.Ytpmbjlmplfejgaa
