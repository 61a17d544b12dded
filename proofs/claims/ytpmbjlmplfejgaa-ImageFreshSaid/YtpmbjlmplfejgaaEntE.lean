/- The references' logs. -/
import Derived.Test.YtpmbjlmplfejgaaEntD
namespace Go.Proofs.Ytpmbjlmplfejgaa
open Go.RowKit
set_option linter.unusedVariables false
set_option linter.unusedSimpArgs false

set_option maxHeartbeats 1000000 in
set_option maxRecDepth 100000 in
theorem ermay_any (A : Option Addr) (n c : Nat) (es : List Ent) (w : World) (hr : RdE w A n es) :
    Calls Try.prog 42 #[.slice A n c] w fun e w' => e = .returned (.bool (entMay es)) ∧ Kp w w' := by
  have HR := Lib.hid hr
  have HL : Hid (es.length = n) := hr.1
  have hn := hr.2.1
  clear hr
  go_enter Try.func42, Try.ntmps42
  go_wp2
  go_loopw [3] (fun i wr => ∃ k : Nat, k ≤ n ∧ i = .int .i64 k ∧ Hid (Kp w wr) ∧ Hid (∀ j, j < k → entOk (entAt es j) = true)) (fun i _ => n - (intOf i).toNat)
  case atStart => exact ⟨0, by omega, rfl, Kp.self, fun j hj => absurd hj (by omega)⟩
  case round =>
    obtain ⟨k, hk, rfl, HK, HE⟩ := hrel
    by_cases hlt : k < n
    · obtain ⟨ad, rfl, hc, hc2⟩ := (HR.out.kp HK.out).at_ k hlt
      have b1 : (0 : Int) ≤ k := by omega
      have b2 : (k : Int) < n := by omega
      by_cases hok : entOk (entAt es k) = true
      · have HE2 : Hid (∀ j, j < k + 1 → entOk (entAt es j) = true) := fun j hj => by
          by_cases h : j = k
          · subst h; exact hok
          · exact HE.out j (by omega)
        simp only [entOk, Bool.and_eq_true, decide_eq_true_eq] at hok
        generalize (entAt es k).1 = a at *
        have h1 : decide (a < 0) = false := by simp; omega
        have h2 : decide (a > 16383) = false := by simp; omega
        go_wp2
        go_roundw
        case rel => exact ⟨k + 1, by omega, by go_num, HK, HE2⟩
        case measure => simp [intOf]; omega
      · have HN : Hid (entMay es = false) := by
          unfold Hid entMay
          rw [Bool.and_eq_false_iff]
          refine .inr ?_
          rw [List.all_eq_false]
          exact ⟨_, entAt_mem (by rw [HL.out]; exact hlt), hok⟩
        by_cases h1 : (entAt es k).1 < 0
        · generalize (entAt es k).1 = a at *
          clear hok
          go_wp2
          go_ret
          exact ⟨ret_bool HN.out.symm, HK.out⟩
        · have h2 : (entAt es k).1 > 16383 := by
            simp only [entOk, Bool.and_eq_true, decide_eq_true_eq] at hok
            omega
          generalize (entAt es k).1 = a at *
          clear hok
          go_wp2
          go_ret
          exact ⟨ret_bool HN.out.symm, HK.out⟩
    · obtain rfl : k = n := by omega
      have HQ : Hid (entMay es = (decide (1 ≤ k) && decide (k ≤ 16))) := by
        unfold Hid entMay
        have : es.all entOk = true := by
          rw [List.all_eq_true]
          intro x hx
          obtain ⟨j, hj, rfl⟩ := List.getElem_of_mem hx
          have := HE.out j (by rw [← HL.out]; exact hj)
          rwa [entAt_eq hj] at this
        rw [this, HL.out]
        simp
      by_cases h1 : (1 : Int) ≤ k
      · go_wp2
        go_ret
        exact ⟨ret_bool (by rw [HQ.out, show decide (1 ≤ k) = true by simp; omega]; simp; omega), HK.out⟩
      · go_wp2
        go_ret
        exact ⟨ret_bool (by rw [HQ.out, show decide (1 ≤ k) = false by simp; omega]; rfl), HK.out⟩

set_option maxHeartbeats 1000000 in
set_option maxRecDepth 100000 in
theorem erwords_any (A : Option Addr) (n c : Nat) (es : List Ent) (w : World) (hr : RdE w A n es) (he : InE es) (hm : entMay es = true) :
    Calls Try.prog 44 #[.slice A n c] w fun e w' => ∃ v, e = .returned v ∧ OwnI w' w.heap.size 28 .u64 v (entW es) ∧ Kp w w' := by
  have HR := Lib.hid hr
  have HI := Lib.hid he
  have HA := Lib.hid (entMay_at hm)
  have hn := hr.2.1
  have HL : Hid (es.length = n) := hr.1
  have h16 := (entMay_len hm).2
  rw [HL.out] at h16
  have HW : Hid (entW es = entWTo es n) := by unfold Hid entW; rw [HL.out]
  clear hr he hm
  go_enter Try.func44, Try.ntmps44
  go_wp2
  go_loopw [3, 4] (fun v i wr => ∃ k : Nat, k ≤ n ∧ i = .int .i64 k ∧ OwnI wr w.heap.size 28 .u64 v (entWTo es k) ∧ Kp w wr) (fun _ i _ => n - (intOf i).toNat)
  case atStart => exact ⟨0, by omega, rfl, World.ownsRow_nil _ _ _ _, Kp.self⟩
  case round =>
    obtain ⟨k, hk, rfl, hown, hkp⟩ := hrel
    by_cases hlt : k < n
    · obtain ⟨ad, rfl, hc, hc2⟩ := HR.out.at_ k hlt
      have b1 : (0 : Int) ≤ k := by omega
      have b2 : (k : Int) < n := by omega
      obtain ⟨A', c', rfl⟩ := own_slice hown
      have HO := Lib.hid hown
      have HK := Lib.hid hkp
      have ha := HA.out k
      have hx := (HI.out.at_ k).2
      clear hown hkp
      generalize hat : (entAt es k).1 = at_ at *
      generalize hxx : (entAt es k).2 = x at *
      have HAT := Lib.hid hat
      have HXX := Lib.hid hxx
      clear hat hxx
      have e1 : IntKind.u64.wrap at_ = at_ := wraps_u64 at_ (by omega) (by omega)
      have e2 : IntKind.u64.wrap (k : Int) = k := wraps_u64 _ (by omega) (by omega)
      have e3 : IntKind.u64.wrap (4294967296 * (k : Int)) = 4294967296 * k := wraps_u64 _ (by omega) (by omega)
      have e4 : IntKind.u64.wrap (at_ + 4294967296 * (k : Int)) = at_ + 4294967296 * k := wraps_u64 _ (by omega) (by omega)
      go_wp2_with fail
      refine wp_region_Md [] (fun w' => Kp w w') (by kernel_rfl) ?_
      refine anyM_takes (fuel := 3) [0, 1, 2, 3, 4, 5, 6, 7, 8, 9, 10, 11, 12, 13, 14, 15] (by kernel_rfl) (by kernel_rfl) (by kernel_rfl) (fun d _ _ _ _ h => by cases d <;> exact h) HK.out.drew ?_
      iterate 16
        refine takes_pos (v := ?_) rfl (by rfl) ?_ ?_
        rotate_left
        · intro w' hS
          have s0 := Kp.cell hS hc
          have s1 := Kp.cell hS hc2
          go_simp
          rfl
        simp only [List.getElem_toArray, List.getElem_cons_succ, List.getElem_cons_zero, Act.put, List.setIfInBounds_toArray, List.set_cons_zero, List.set_cons_succ, e1, e2, e3, e4]
      refine takes_nil ?_
      refine anyM_step 16 (by kernel_rfl) rfl ?_
      go_wp2_with fail
      refine ⟨fun _ => HK.out.drew.alloc _, ?_⟩
      refine anyM_step 17 (by kernel_rfl) rfl ?_
      have HK1 : Hid (Kp w (wr.alloc (.cells #[.int .u64 (at_ + 4294967296 * (k : Int)), .int .u64 x] 28)).drew) := (HK.out.alloc _).drew
      have HO1 : Hid (OwnI (wr.alloc (.cells #[.int .u64 (at_ + 4294967296 * (k : Int)), .int .u64 x] 28)).drew w.heap.size 28 .u64 (.slice A' (entWTo es k).length c') (entWTo es k)) := own_kp HO.out ((Kp.self.alloc _).drew)
      refine app_ints (w0 := w) w.heap.size rfl (.tmp 11) (.tmp 27) 27 28 .u64 8 rfl Try.underlying27 info28 (by decide) _ _ [at_ + 4294967296 * (k : Int), x] _ _ _ rfl rfl (fun h => by cases h) (rd_new (xs := [at_ + 4294967296 * (k : Int), x]) Kp.self.drew (by simp)) HO1.out HK1.out HK1.out.size ?c1 ?_
      case c1 => rw [entWTo_len]; omega
      intro v1 w4 hown hkp _ _
      have HO4 : Hid (OwnI w4 w.heap.size 28 .u64 v1 (entWTo es (k + 1))) := by
        unfold Hid
        rw [entWTo_succ]
        unfold entW1
        rw [HAT.out, HXX.out]
        exact hown
      have HK4 := Lib.hid hkp
      clear hown hkp HO HK HO1 HK1
      go_wp2_with fail
      refine ⟨fun _ => HK4.out, ?_⟩
      refine anyM_step 18 (by kernel_rfl) rfl ?_
      go_wp2_with fail
      refine ⟨fun _ => HK4.out, ?_⟩
      refine ⟨by kernel_rfl, ?_⟩
      go_wp2
      go_roundw
      case rel => exact ⟨k + 1, by omega, by go_num, HO4.out, HK4.out⟩
      case measure => simp [intOf]; omega
    · obtain rfl : k = n := by omega
      have HO := Lib.hid hown
      have HK := Lib.hid hkp
      clear hown hkp
      obtain ⟨A', c', rfl⟩ := own_slice HO.out
      go_wp2
      go_ret
      exact ⟨_, rfl, by rw [HW.out]; exact HO.out, HK.out⟩
end Go.Proofs.Ytpmbjlmplfejgaa
