/- The reference's reading of logs. -/
import Derived.Test.YtpmbjlmplfejgaaEntE
namespace Go.Proofs.Ytpmbjlmplfejgaa
open Go.RowKit
set_option linter.unusedVariables false
set_option linter.unusedSimpArgs false

def ERRdPost (s : Int) (xs : List Int) (w : World) (e : Ending) (w' : World) : Prop :=
  ∃ es ok v, e = .returned (.tuple #[v, .bool ok]) ∧ RdLog s xs es ok ∧ OwnE w' w.heap.size v es ∧ InE es ∧ Kp w w'
set_option maxHeartbeats 1000000 in
set_option maxRecDepth 100000 in
theorem erread_any (s : Int) (A : Option Addr) (m c : Nat) (xs : List Int) (w : World) (h0 : 0 ≤ s) (h1 : s < 18446744073709551616) (hr : RdI w .u64 A m xs) (hx : InR 18446744073709551616 xs) (hc : m ≤ c) (hcm : c ≤ maxLen) :
    Calls Try.prog 47 #[.int .u64 s, .slice A m c] w (ERRdPost s xs w) := by
  have HR := Lib.hid hr
  have HX := Lib.hid hx
  have HL : Hid (xs.length = m) := hr.1
  have hcc : c ≤ 9223372036854775807 := by simp only [maxLen] at hcm; omega
  have HM := Lib.hid hcm
  clear hr hx hcm
  by_cases hs0 : s = 0
  · subst hs0
    go_enter Try.func47, Try.ntmps47
    go_wp2
    go_ret2
    exact ⟨[], true, _, rfl, .inl ⟨rfl, rfl, rfl⟩, World.ownsRow_nil _ _ _ _, InE.nil, Kp.self⟩
  · have hb0 : (s == 0) = false := by simp [hs0]
    go_enter Try.func47, Try.ntmps47
    go_wp2
    go_loopw [6] (fun i wr => ∃ k : Nat, 1 ≤ k ∧ k ≤ 17 ∧ i = .int .i64 k ∧ Hid (Kp w wr) ∧ Hid (∀ j, 1 ≤ j → j < k → 2 * j ≤ m → sealI (xs.take (2 * j)) ≠ s)) (fun i _ => 17 - (intOf i).toNat)
    case atStart => exact ⟨1, by omega, by omega, rfl, Kp.self, fun j hj hj2 => absurd hj (by omega)⟩
    case round =>
      obtain ⟨k, hk1, hk, rfl, HK, HE⟩ := hrel
      by_cases h16 : (k : Int) ≤ 16
      · by_cases hlen : 2 * (k : Int) ≤ m
        · obtain ⟨ad, rfl, _⟩ := HR.out.2.2 (by omega)
          have b1 : (0 : Int) ≤ k := by omega
          have b3 : (0 : Int) ≤ 2 * k := by omega
          have b4 : 2 * (k : Int) ≤ c := by omega
          have b7 : (c : Int) ≤ 9223372036854775807 := by omega
          have HRT : Hid (∀ w3, Kp w w3 → RdI w3 .u64 (some ad) (2 * k) (xs.take (2 * k))) := fun w3 hk3 => ⟨by rw [List.length_take, HL.out]; omega, by omega, fun _ => ⟨ad, rfl, fun j hj => by
            obtain ⟨ad', e, hcj⟩ := HR.out.at_ j (by omega)
            injection e with e
            subst e
            rw [take_getD _ _ _ hj]
            exact Kp.cell hk3 hcj⟩⟩
          have t1 : (2 * (k : Int)).toNat = 2 * k := by omega
          go_wp2_with fail
          refine (rsealed_any _ _ _ (xs.take (2 * k)) _ (HRT.out _ HK.out) (HX.out.take _) (by omega)).mono ?_
          rintro e w2 ⟨rfl, hk2⟩
          have HK2 : Hid (Kp w w2) := Kp.trans HK.out hk2
          clear hk2 HK
          by_cases hse : sealI (xs.take (2 * k)) = s
          · have hb : (sealI (xs.take (2 * k)) != s) = false := by simp [hse]
            have HSE := Lib.hid hse
            clear hse
            generalize hq : sealI (xs.take (2 * k)) = q at *
            have HQ := Lib.hid hq
            clear hq
            go_wp2_with fail
            go_loopw [7, 8] (fun v i wr => ∃ i' : Nat, i' ≤ k ∧ i = .int .i64 i' ∧ OwnE wr w.heap.size v (entsOf xs i') ∧ Kp w wr ∧ Hid (∀ j, j < i' → xs[2 * j]?.getD 0 / 4294967296 = (j : Int))) (fun _ i _ => k - (intOf i).toNat)
            case atStart => exact ⟨0, by omega, rfl, World.ownsRow_nil _ _ _ _, HK2.out, fun j hj => absurd hj (by omega)⟩
            case round =>
              obtain ⟨i, hi, rfl, hown, hkp, HF⟩ := hrel
              by_cases hlt : i < k
              · obtain ⟨ad1, e1, hc1⟩ := HR.out.at_ (2 * i) (by omega)
                obtain ⟨ad2, e2, hc2⟩ := HR.out.at_ (2 * i + 1) (by omega)
                injection e1 with e1
                injection e2 with e2
                subst e1
                subst e2
                obtain ⟨A', c', rfl⟩ := own_slice hown
                have HO := Lib.hid hown
                have HK := Lib.hid hkp
                have hx1 : 0 ≤ xs[2 * i]?.getD 0 ∧ xs[2 * i]?.getD 0 < 18446744073709551616 := HX.out.getD (by decide) (2 * i)
                have hx2 := HX.out.getD (by decide) (2 * i + 1)
                clear hown hkp
                generalize hxx1 : xs[2 * i]?.getD 0 = x1 at *
                generalize hxx2 : xs[2 * i + 1]?.getD 0 = x2 at *
                have HX1 := Lib.hid hxx1
                have HX2 := Lib.hid hxx2
                clear hxx1 hxx2
                have e1 : IntKind.i64.wrap (2 * (i : Int)) = 2 * i := by rw [IntKind.wrap_i64]; omega
                have e2 : IntKind.i64.wrap (2 * (i : Int) + 1) = 2 * i + 1 := by rw [IntKind.wrap_i64]; omega
                have e3 : IntKind.i64.wrap (x1 % 4294967296) = x1 % 4294967296 := by rw [IntKind.wrap_i64]; omega
                have t2 : (2 * (i : Int)).toNat = 2 * i := by omega
                have t3 : (2 * (i : Int) + 1).toNat = 2 * i + 1 := by omega
                rw [Addr.add_succ'] at hc2
                have c3 : (0 : Int) ≤ 2 * i := by omega
                have c4 : 2 * (i : Int) < m := by omega
                have c5 : (0 : Int) ≤ 2 * i + 1 := by omega
                have c6 : 2 * (i : Int) + 1 < m := by omega
                go_wp2_with fail
                refine wp_region_Md [] (fun w' => Kp w w') (by kernel_rfl) ?_
                refine anyM_takes (fuel := 3) [0, 1, 2, 3, 4, 5, 6, 7, 8, 9, 10, 11, 12, 13, 14] (by kernel_rfl) (by kernel_rfl) (by kernel_rfl) (fun d _ _ _ _ h => by cases d <;> exact h) HK.out.drew ?_
                iterate 15
                  refine takes_pos (v := ?_) rfl (by rfl) ?_ ?_
                  rotate_left
                  · intro w' hS
                    have s0 := Kp.cell hS hc1
                    have s1 := Kp.cell hS hc2
                    go_simp
                    rfl
                  simp only [List.getElem_toArray, List.getElem_cons_succ, List.getElem_cons_zero, Act.put, List.setIfInBounds_toArray, List.set_cons_zero, List.set_cons_succ, e1, e2, e3, t2, t3]
                refine takes_nil ?_
                refine anyM_step 15 (by kernel_rfl) rfl ?_
                go_wp2_with fail
                refine ⟨fun _ => (HK.out.alloc _).drew, ?_⟩
                refine anyM_step 16 (by kernel_rfl) rfl ?_
                have HO2 : Hid (OwnE wr.drew w.heap.size (.slice A' (entsOf xs i).length c') (entsOf xs i)) := own_kp HO.out Kp.self.drew
                have HK3 : Hid (Kp w wr.drew) := Kp.drew HK.out
                refine app_cells (W := wr.drew) (w0 := w) w.heap.size rfl (.tmp 34) (.tmp 49) 53 136 (.agg #[.int .i64 0, .int .u64 0]) 2 16 rfl Try.underlying53 info136 rfl (by omega) (by omega) _ _ (entC (entsOf xs i)) [.int .i64 (x1 % 4294967296), .int .u64 x2] rfl rfl rfl (by simp [Value.oneCell']) HO2.out HK3.out HK3.out.size (by rw [entsOf_len]; omega) ?_
                intro v1 w3 hown hk3 _ _
                have HO3 : Hid (OwnE w3 w.heap.size v1 (entsOf xs (i + 1))) := by
                  have e : entsOf xs (i + 1) = entsOf xs i ++ [(x1 % 4294967296, x2)] := by rw [entsOf_succ, HX1.out, HX2.out]
                  unfold Hid
                  rw [e]
                  unfold OwnE
                  rw [List.length_append, entC_app]
                  exact hown
                have HK4 := Lib.hid hk3
                have hc3 := Kp.cell hk3 hc1
                clear hown hk3 HO2 HK3 HO HK hc1 hc2
                go_wp2_with fail
                refine ⟨fun _ => HK4.out, ?_⟩
                refine anyM_step 17 (by kernel_rfl) rfl ?_
                go_wp2_with fail
                refine ⟨fun _ => HK4.out, ?_⟩
                refine ⟨by kernel_rfl, ?_⟩
                have e5 : IntKind.u64.wrap (i : Int) = i := wraps_u64 _ (by omega) (by omega)
                by_cases hd : x1 / 4294967296 = (i : Int)
                · have hbd : (x1 / 4294967296 != (i : Int)) = false := by simp [hd]
                  have HF2 : Hid (∀ j, j < i + 1 → xs[2 * j]?.getD 0 / 4294967296 = (j : Int)) := fun j hj => by
                    by_cases h : j = i
                    · subst h; rw [HX1.out]; exact hd
                    · exact HF.out j (by omega)
                  clear hd
                  go_wp2
                  go_roundw
                  case rel => exact ⟨i + 1, by omega, by go_num, HO3.out, HK4.out, HF2⟩
                  case measure => simp [intOf]; omega
                · have hbd : (x1 / 4294967296 != (i : Int)) = true := by simp [hd]
                  have HZ : Hid (RdLog s xs [] false) := .inr (.inr ⟨hs0, rfl, rfl, fun l hl => by
                    have hlen := logs_at hl k (by omega) (by rw [HL.out]; omega) (HQ.out.trans HSE.out)
                    have h2 := (hl.get i (by omega)).1
                    have h3 := entMay_at hl.1 i
                    rw [HX1.out] at h2
                    exact hd (by omega)⟩)
                  clear hd
                  go_wp2
                  go_ret2
                  exact ⟨[], false, _, rfl, HZ.out, World.ownsRow_nil _ _ _ _, InE.nil, HK4.out⟩
              · obtain rfl : i = k := by omega
                obtain ⟨A', c', rfl, hrde⟩ := own_rdE hown
                have HO := Lib.hid hown
                have HK := Lib.hid hkp
                have HEN := Lib.hid hrde
                have HI : Hid (InE (entsOf xs i)) := entsOf_rng xs i HX.out
                clear hown hkp hrde
                go_wp2_with fail
                refine (ermay_any _ _ _ _ _ HEN.out).mono ?_
                rintro e w3 ⟨rfl, hk3⟩
                have HK3 : Hid (Kp w w3) := Kp.trans HK.out hk3
                have HO3 : Hid (OwnE w3 w.heap.size (.slice A' (entsOf xs i).length c') (entsOf xs i)) := own_kp HO.out hk3
                clear hk3
                cases hm : entMay (entsOf xs i)
                · have HZ : Hid (RdLog s xs [] false) := .inr (.inr ⟨hs0, rfl, rfl, fun l hl => by
                    have hlen := logs_at hl i (by omega) (by rw [HL.out]; omega) (HQ.out.trans HSE.out)
                    have h2 := hl.ents
                    rw [hlen] at h2
                    rw [h2, hl.1] at hm
                    cases hm⟩)
                  clear hm
                  go_wp2
                  go_ret2
                  exact ⟨[], false, _, rfl, HZ.out, World.ownsRow_nil _ _ _ _, InE.nil, HK3.out⟩
                · have HZ : Hid (RdLog s xs (entsOf xs i) true) := .inr (.inl ⟨hs0, rfl, by
                    have := logs_of_ref (n := i) (by rw [HL.out]; omega) hm HX.out HF.out
                    rwa [HQ.out.trans HSE.out] at this⟩)
                  clear hm
                  go_wp2
                  go_ret2
                  exact ⟨_, true, _, rfl, HZ.out, HO3.out, HI.out, HK3.out⟩
          · have hb : (sealI (xs.take (2 * k)) != s) = true := by simp [hse]
            have HE2 : Hid (∀ j, 1 ≤ j → j < k + 1 → 2 * j ≤ m → sealI (xs.take (2 * j)) ≠ s) := fun j hj hj2 hj3 => by
              by_cases h : j = k
              · subst h; exact hse
              · exact HE.out j hj (by omega) hj3
            clear hse
            generalize sealI (xs.take (2 * k)) = q at *
            go_wp2
            go_roundw
            case rel => exact ⟨k + 1, by omega, by omega, by go_num, HK2, HE2⟩
            case measure => simp [intOf]; omega
        · have HZ : Hid (RdLog s xs [] false) := .inr (.inr ⟨hs0, rfl, rfl, fun l hl => by
            have h1 := entMay_len hl.1
            have h2 := hl.2.2.1
            rw [HL.out] at h2
            exact HE.out l.length (by omega) (by omega) h2 (logs_seal hl)⟩)
          go_wp2
          go_ret2
          exact ⟨[], false, _, rfl, HZ.out, World.ownsRow_nil _ _ _ _, InE.nil, HK.out⟩
      · have HZ : Hid (RdLog s xs [] false) := .inr (.inr ⟨hs0, rfl, rfl, fun l hl => by
          have h1 := entMay_len hl.1
          have h2 := hl.2.2.1
          rw [HL.out] at h2
          exact HE.out l.length (by omega) (by omega) h2 (logs_seal hl)⟩)
        go_wp2
        go_ret2
        exact ⟨[], false, _, rfl, HZ.out, World.ownsRow_nil _ _ _ _, InE.nil, HK.out⟩
end Go.Proofs.Ytpmbjlmplfejgaa
