/- entry.may, entry.Words, entry.Seal. -/
import Derived.Test.YtpmbjlmplfejgaaEntP
import Derived.Test.YtpmbjlmplfejgaaLibC
import Derived.Test.YtpmbjlmplfejgaaSupA
namespace Go.Proofs.Ytpmbjlmplfejgaa
open Go.RowKit
set_option linter.unusedVariables false
set_option linter.unusedSimpArgs false

theorem may1_any (e : Ent) (w : World) : Calls Try.prog 156 #[entV e] w fun x w' => x = .returned (.bool (!entOk e)) ∧ Kp w w' := by
  obtain ⟨a, x⟩ := e
  by_cases h1 : a < 0
  · have e1 : entOk (a, x) = false := by simp [entOk]; omega
    go_enter Try.func156, Try.ntmps156
    go_wp2
    go_ret
    exact ⟨ret_bool (by simp [e1]), Kp.self.alloc _⟩
  · have e1 : entOk (a, x) = decide (a < 16384) := by simp [entOk]; omega
    go_enter Try.func156, Try.ntmps156
    go_wp2
    go_ret
    exact ⟨ret_bool (by rw [← decide_not]; simp), Kp.self.alloc _⟩
theorem call156 (args : Array Value) (w : World) : (callFunc 156 args).run Try.prog w = .ok (.enter 156 args) w := by kernel_rfl

set_option maxRecDepth 100000 in
theorem emay_any (A : Option Addr) (n c : Nat) (es : List Ent) (w : World) (hr : RdE w A n es) :
    Calls Try.prog 104 #[.slice A n c] w fun e w' => e = .returned (.bool (entMay es)) ∧ Kp w w' := by
  have HR := Lib.hid hr
  have HL : Hid (es.length = n) := hr.1
  have hn := hr.2.1
  clear hr
  by_cases h1 : (n : Int) < 1
  · have e1 : entMay es = false := by
      have := HL.out
      simp [entMay]; omega
    go_enter Try.func104, Try.ntmps104
    go_wp2
    go_ret
    exact ⟨ret_bool e1.symm, Kp.self⟩
  · by_cases h2 : (n : Int) > 16
    · have e1 : entMay es = false := by
        have := HL.out
        simp [entMay]; omega
      go_enter Try.func104, Try.ntmps104
      go_wp2
      go_ret
      exact ⟨rfl, Kp.self⟩
    · have H := Lib.hid (containsE_any A n c es 156 #[] (fun e => !entOk e) w HR.out call156 (fun w' e _ _ => may1_any e w'))
      have HE : Hid (entMay es = !(es.any fun e => !entOk e)) := by
        have := HL.out
        unfold Hid entMay
        rw [show decide (1 ≤ es.length) = true by simp; omega, show decide (es.length ≤ 16) = true by simp; omega]
        simp only [Bool.true_and, List.not_any_eq_all_not, Bool.not_not]
      go_enter Try.func104, Try.ntmps104
      go_wp2_with fail
      refine H.out.mono ?_
      rintro e w1 ⟨rfl, hk1⟩
      go_wp2
      go_ret
      exact ⟨ret_bool (by rw [HE.out]), hk1⟩

theorem widths105 (w : World) : Calls Try.prog 105 #[] w fun e w' => ∃ ad, e = .returned (.slice (some ad) 2 2) ∧ RdI w' .i64 (some ad) 2 [32, 32] ∧ Kp w w' := by
  go_enter Try.func105, Try.ntmps105
  go_wp2
  go_ret
  exact ⟨_, rfl, rd_new (xs := [32, 32]) Kp.self (by decide), Kp.self.alloc _⟩
theorem f32 : ∀ j, j < 2 → 0 ≤ sumTo [32, 32] j ∧ 1 ≤ ([32, 32] : List Int)[j]?.getD 0 ∧ sumTo [32, 32] j + ([32, 32] : List Int)[j]?.getD 0 ≤ 64 := by decide
theorem fv32 (a i : Int) (h : 0 ≤ a ∧ a < 16384 ∧ 0 ≤ i ∧ i ≤ 16) : ∀ j, j < 2 → 0 ≤ [a, i][j]?.getD 0 ∧ [a, i][j]?.getD 0 ≤ 2 ^ (([32, 32] : List Int)[j]?.getD 0).toNat - 1 := by
  intro j hj
  match j, hj with
  | 0, _ => simp; omega
  | 1, _ => simp; omega
theorem join32 (a i : Int) : joinTo [32, 32] [a, i] 2 = a + 4294967296 * i := by
  simp [joinTo, sumTo]
  omega
theorem info136 : (Try.prog.info? 136).map (fun i => (i.zero, i.size, i.bytes)) = some (some (.agg #[.int .i64 0, .int .u64 0]), 2, 16) := by kernel_rfl

def EWordsPost (es : List Ent) (w : World) (e : Ending) (w' : World) : Prop := ∃ v, e = .returned v ∧ OwnI w' w.heap.size 28 .u64 v (wordsE es) ∧ Kp w w'
set_option maxHeartbeats 1000000 in
set_option maxRecDepth 100000 in
theorem ewords_any (A : Option Addr) (n c : Nat) (es : List Ent) (w : World) (hr : RdE w A n es) (he : InE es) :
    Calls Try.prog 41 #[.slice A n c] w (EWordsPost es w) := by
  have HR := Lib.hid hr
  have HI := Lib.hid he
  have HM := Lib.hid (emay_any A n c es w hr)
  have hn := hr.2.1
  have HL : Hid (es.length = n) := hr.1
  clear hr he
  cases hm : entMay es
  · rw [hm] at HM
    go_enter Try.func41, Try.ntmps41
    go_wp2_with fail
    refine HM.out.mono ?_
    rintro e w1 ⟨rfl, hk1⟩
    go_wp2
    go_ret
    exact ⟨_, rfl, by unfold wordsE; rw [hm]; exact World.ownsRow_nil _ _ _ _, hk1⟩
  · rw [hm] at HM
    have HA := Lib.hid (entMay_at hm)
    have h16 := (entMay_len hm).2
    rw [HL.out] at h16
    have HW : Hid (wordsE es = entWTo es n) := by unfold Hid wordsE entW; rw [hm, if_pos rfl, HL.out]
    go_enter Try.func41, Try.ntmps41
    go_wp2_with fail
    refine HM.out.mono ?_
    rintro e w1 ⟨rfl, hk1⟩
    have HK1 := Lib.hid hk1
    clear hk1 HM hm
    go_wp2
    go_loopw [3, 4, 5, 6, 7, 13] (fun v _ _ _ _ i wr => ∃ k : Nat, k ≤ n ∧ i = .int .i64 k ∧ OwnI wr w.heap.size 28 .u64 v (entWTo es k) ∧ Kp w wr) (fun _ _ _ _ _ i _ => n - (intOf i).toNat)
    case atStart => exact ⟨0, by omega, rfl, World.ownsRow_nil _ _ _ _, HK1.out⟩
    case round =>
      obtain ⟨k, hk, rfl, hown, hkp⟩ := hrel
      by_cases hlt : k < n
      · obtain ⟨ad, rfl, hc, hc2⟩ := (HR.out.kp hkp).at_ k hlt
        have b1 : (0 : Int) ≤ k := by omega
        have b2 : (k : Int) < n := by omega
        obtain ⟨A', c', rfl⟩ := own_slice hown
        have HO := Lib.hid hown
        have HK := Lib.hid hkp
        have ha := HA.out k
        have hx := (HI.out.at_ k).2
        clear hown hkp
        generalize hat : (entAt es k).1 = at_ at *
        generalize hxx : (entAt es k).2 = x at *
        have HAT := Lib.hid hat
        have HXX := Lib.hid hxx
        clear hat hxx
        go_wp2_with fail
        obtain ⟨g0, g1⟩ := box2 (Kp.self (w := wr.alloc (.cells #[.int .i64 at_, .int .u64 x] 136)))
        have HK2 : Hid (Kp w (wr.alloc (.cells #[.int .i64 at_, .int .u64 x] 136))) := Kp.alloc HK.out _
        have HO2 : Hid (OwnI (wr.alloc (.cells #[.int .i64 at_, .int .u64 x] 136)) w.heap.size 28 .u64 (.slice A' (entWTo es k).length c') (entWTo es k)) := own_kp HO.out (Kp.self.alloc _)
        clear HO HK hc hc2
        generalize wr.alloc (.cells #[.int .i64 at_, .int .u64 x] 136) = W1 at *
        generalize wr.heap.size = bx at *
        refine wp_region_Md [] (fun w' => Kp W1 w') (by kernel_rfl) ?_
        refine anyM_takes (fuel := 8) [1, 2, 3, 4, 5] (by kernel_rfl) (by kernel_rfl) (by kernel_rfl) (fun d _ _ _ _ h => by cases d <;> exact h) Kp.self.drew ?_
        iterate 5
          refine takes_pos (v := ?_) rfl (by rfl) ?_ ?_
          rotate_left
          · intro w' hS
            have s0 := Kp.cell hS g0
            go_simp
            rfl
          simp only [List.getElem_toArray, List.getElem_cons_succ, List.getElem_cons_zero, Act.put, List.setIfInBounds_toArray, List.set_cons_zero, List.set_cons_succ]
        rw [wraps_u64 at_ (by omega) (by omega), wraps_u64 (k : Int) (by omega) (by omega)]
        refine takes_nil ?_
        refine anyM_two (w0 := W1) (fuel := 6) 0 6 (A := fun v w' => ∃ ad, v = .slice (some ad) 2 2 ∧ RdI w' .i64 (some ad) 2 [32, 32]) (B := fun v w' => ∃ ad, v = .slice (some ad) 2 2 ∧ RdI w' .u64 (some ad) 2 [at_, k]) rfl rfl (by kernel_rfl) Kp.self.drew (fun _ h => h)
          (fun v w w' hk ⟨ad, e, h⟩ => ⟨ad, e, h.kp hk⟩) (fun v w w' hk ⟨ad, e, h⟩ => ⟨ad, e, h.kp hk⟩) (makes_of rfl ?_) (makes_of rfl ?_) ?_
        · intro w2 _
          go_wp2_with fail
          refine (widths105 _).mono ?_
          rintro e w3 ⟨ad, rfl, h1, h2⟩
          go_wp2_with fail
          exact ⟨.slice (some ad) 2 2, rfl, h2, ad, rfl, h1⟩
        · intro w2 _
          go_wp2_with fail
          exact ⟨.slice (some ⟨w2.heap.size, 0, none⟩) 2 2, rfl, Kp.self.alloc _, _, rfl, rd_new (xs := [at_, (k : Int)]) Kp.self (by simp)⟩
        rintro _ _ w2 hk2 ⟨ad1, rfl, hr1⟩ ⟨ad2, rfl, hr2⟩
        simp only [Act.put, List.setIfInBounds_toArray, List.set_cons_zero, List.set_cons_succ]
        refine anyM_step 7 (by kernel_rfl) rfl ?_
        go_wp2_with fail
        refine (pjoin_any _ _ _ _ _ _ _ _ (by omega) hr1 hr2 f32 (fv32 at_ k (by omega))).mono ?_
        rintro e w3 ⟨rfl, hk3⟩
        have hk3 : Kp W1 w3 := hk2.trans hk3
        rw [join32]
        go_wp2_with fail
        refine ⟨fun _ => hk3, ?_⟩
        refine anyM_takes (fuel := 0) [8, 9, 10, 11, 12] (by kernel_rfl) (by kernel_rfl) (by kernel_rfl) (fun d _ _ _ _ h => by cases d <;> exact h) hk3 ?_
        iterate 5
          refine takes_pos (v := ?_) rfl (by rfl) ?_ ?_
          rotate_left
          · intro w' hS
            go_simp
            rfl
          simp only [List.getElem_toArray, List.getElem_cons_succ, List.getElem_cons_zero, Act.put, List.setIfInBounds_toArray, List.set_cons_zero, List.set_cons_succ]
        refine takes_nil ?_
        refine ⟨by kernel_rfl, ?_⟩
        have s1 := hk3.cell g1
        have HK3 : Hid (Kp w w3) := Kp.trans HK2.out hk3
        have HO3 : Hid (OwnI w3 w.heap.size 28 .u64 (.slice A' (entWTo es k).length c') (entWTo es k)) := own_kp HO2.out hk3
        clear hk2 hk3 HK2 HO2 hr1 hr2
        go_wp2_with (at_builtin; refine app_ints (w0 := w) w.heap.size rfl (.tmp 29) (.tmp 33) 27 28 .u64 8 rfl Try.underlying27 info28 (by decide) _ _ [at_ + 4294967296 * (k : Int), x] _ _ _ rfl rfl (fun h => by cases h) (rd_new (xs := [at_ + 4294967296 * (k : Int), x]) Kp.self (by simp)) (own_kp HO3.out (Kp.self.alloc _)) (HK3.out.alloc _) (HK3.out.alloc _).size ?c1 ?_)
        case c1 => rw [entWTo_len]; omega
        intro v1 w4 hown hkp _ _
        have HO4 : Hid (OwnI w4 w.heap.size 28 .u64 v1 (entWTo es (k + 1))) := by
          unfold Hid
          rw [entWTo_succ]
          unfold entW1
          rw [HAT.out, HXX.out]
          exact hown
        have HK4 := Lib.hid hkp
        clear hown hkp
        go_wp2
        go_roundw
        case rel => exact ⟨k + 1, by omega, by go_num, HO4.out, HK4.out⟩
        case measure => simp [intOf]; omega
      · obtain rfl : k = n := by omega
        have HO := Lib.hid hown
        have HK := Lib.hid hkp
        clear hown hkp
        obtain ⟨A', c', rfl⟩ := own_slice HO.out
        go_wp2
        go_ret
        exact ⟨_, rfl, by rw [HW.out]; exact HO.out, HK.out⟩
end Go.Proofs.Ytpmbjlmplfejgaa
