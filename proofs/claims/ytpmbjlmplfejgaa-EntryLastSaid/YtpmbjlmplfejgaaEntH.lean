/- The reference's Last; the law of Last. -/
import Derived.Test.YtpmbjlmplfejgaaEntG
import Derived.Test.YtpmbjlmplfejgaaOpen
namespace Go.Proofs.Ytpmbjlmplfejgaa
open Go.RowKit
set_option linter.unusedVariables false
set_option linter.unusedSimpArgs false

theorem any_drop_iff (es : List Ent) (i : Nat) (a : Int) : ((es.drop (i + 1)).any (fun x => x.1 == a)) = true ↔ ∃ j, i < j ∧ j < es.length ∧ (entAt es j).1 = a := by
  rw [List.any_eq_true]
  constructor
  · rintro ⟨x, hx, h⟩
    obtain ⟨j, hj, rfl⟩ := List.getElem_of_mem hx
    have hj' : i + 1 + j < es.length := by simpa [Nat.lt_sub_iff_add_lt, Nat.add_comm, Nat.add_left_comm] using hj
    refine ⟨i + 1 + j, by omega, hj', ?_⟩
    rw [entAt_eq hj']
    simpa using h
  · rintro ⟨j, h1, h2, h3⟩
    refine ⟨es[j], ?_, by rw [entAt_eq h2] at h3; simpa using h3⟩
    rw [List.mem_iff_getElem]
    exact ⟨j - (i + 1), by simp; omega, by simp [show i + 1 + (j - (i + 1)) = j by omega]⟩

def NoneIn (es : List Ent) (a : Int) (k m : Nat) (b : Bool) : Prop := b = true ↔ ∀ j, k < j → j < m → (entAt es j).1 ≠ a
set_option maxHeartbeats 1000000 in
set_option maxRecDepth 100000 in
theorem erlast_any (A : Option Addr) (n c : Nat) (es : List Ent) (w : World) (hr : RdE w A n es) (hn : n ≤ 200) :
    Calls Try.prog 53 #[.slice A n c] w fun e w' => ∃ v, e = .returned v ∧ OwnE w' w.heap.size v (lastTo es n) ∧ Kp w w' := by
  have HR := Lib.hid hr
  have HL : Hid (es.length = n) := hr.1
  clear hr
  go_enter Try.func53, Try.ntmps53
  go_wp2
  go_loopw [3, 4] (fun v i wr => ∃ k : Nat, k ≤ n ∧ i = .int .i64 k ∧ OwnE wr w.heap.size v (lastTo es k) ∧ Kp w wr) (fun _ i _ => n - (intOf i).toNat)
  case atStart => exact ⟨0, by omega, rfl, World.ownsRow_nil _ _ _ _, Kp.self⟩
  case round =>
    obtain ⟨k, hk, rfl, hown, hkp⟩ := hrel
    by_cases hlt : k < n
    · obtain ⟨ad, rfl, hc1, hc2⟩ := HR.out.at_ k hlt
      have b1 : (0 : Int) ≤ k := by omega
      have b2 : (k : Int) < n := by omega
      obtain ⟨A', c', rfl⟩ := own_slice hown
      have HO := Lib.hid hown
      have HK := Lib.hid hkp
      clear hown hkp
      generalize hat : (entAt es k).1 = a at *
      generalize hxx : (entAt es k).2 = x at *
      have HAT := Lib.hid hat
      have HXX := Lib.hid hxx
      clear hat hxx
      go_wp2_with fail
      go_loopw [5, 6] (fun v i wr => ∃ (b : Bool) (m : Nat), k + 1 ≤ m ∧ m ≤ n ∧ i = .int .i64 m ∧ v = .bool b ∧ Hid (NoneIn es a k m b) ∧ Hid (OwnE wr w.heap.size (.slice A' (lastTo es k).length c') (lastTo es k)) ∧ Hid (Kp w wr)) (fun _ i _ => n - (intOf i).toNat)
      case atStart => exact ⟨true, k + 1, by omega, by omega, by go_num, rfl, ⟨fun _ j h1 h2 => absurd h1 (by omega), fun _ => rfl⟩, HO, HK⟩
      case round =>
        obtain ⟨b, m, hm1, hm2, rfl, rfl, HB, HO, HK⟩ := hrel
        by_cases hml : m < n
        · obtain ⟨ad', e, hd1, hd2⟩ := HR.out.at_ m hml
          injection e with e
          subst e
          have q1 := fun W : KW wr => W.cell (Kp.cell HK.out hc1)
          have q2 := fun W : KW wr => W.cell (Kp.cell HK.out hd1)
          have b3 : (0 : Int) ≤ m := by omega
          have b4 : (m : Int) < n := by omega
          generalize hay : (entAt es m).1 = y at *
          have HAY := Lib.hid hay
          clear hay hd1 hd2
          cases b
          · have HB2 : Hid (NoneIn es a k (m + 1) false) := ⟨fun h => (by cases h), fun h => HB.out.2 fun j h1 h2 => h j h1 (by omega)⟩
            go_wp2
            refine wp_region_kw wr Kp.self (by kernel_rfl) (by kernel_rfl) ?_
            repeat (any_goals (first | go_big_quiet_step (fail) | quiet_step (fail)))
            refine wpQuiet_nil ?_
            rintro w5 ⟨W, e⟩
            have hk5 : Kp wr w5 := e ▸ W.2
            have HK5 : Hid (Kp w w5) := Kp.trans HK.out hk5
            have HO5 : Hid (OwnE w5 w.heap.size (.slice A' (lastTo es k).length c') (lastTo es k)) := own_kp HO.out hk5
            clear e W q1 q2 hk5
            go_wp2
            go_roundw
            case rel => exact ⟨false, m + 1, by omega, by omega, by go_num, rfl, HB2, HO5, HK5⟩
            case measure => simp [intOf]; omega
          · by_cases hya : y = a
            · have hbe : (y != a) = false := by simp [hya]
              have HB2 : Hid (NoneIn es a k (m + 1) false) := ⟨fun h => (by cases h), fun h => absurd (HAY.out.trans hya) (h m (by omega) (by omega))⟩
              clear hya
              go_wp2
              refine wp_region_kw wr Kp.self (by kernel_rfl) (by kernel_rfl) ?_
              repeat (any_goals (first | go_big_quiet_step (fail) | quiet_step (fail)))
              refine wpQuiet_nil ?_
              rintro w5 ⟨W, e⟩
              have hk5 : Kp wr w5 := e ▸ W.2
              have HK5 : Hid (Kp w w5) := Kp.trans HK.out hk5
              have HO5 : Hid (OwnE w5 w.heap.size (.slice A' (lastTo es k).length c') (lastTo es k)) := own_kp HO.out hk5
              clear e W q1 q2 hk5
              go_wp2
              go_roundw
              case rel => exact ⟨false, m + 1, by omega, by omega, by go_num, rfl, HB2, HO5, HK5⟩
              case measure => simp [intOf]; omega
            · have hbe : (y != a) = true := by simp [hya]
              have HB2 : Hid (NoneIn es a k (m + 1) true) := ⟨fun _ j h1 h2 => by
                by_cases hjm : j = m
                · subst hjm; rw [HAY.out]; exact hya
                · exact HB.out.1 rfl j h1 (by omega), fun _ => rfl⟩
              clear hya
              go_wp2
              refine wp_region_kw wr Kp.self (by kernel_rfl) (by kernel_rfl) ?_
              repeat (any_goals (first | go_big_quiet_step (fail) | quiet_step (fail)))
              refine wpQuiet_nil ?_
              rintro w5 ⟨W, e⟩
              have hk5 : Kp wr w5 := e ▸ W.2
              have HK5 : Hid (Kp w w5) := Kp.trans HK.out hk5
              have HO5 : Hid (OwnE w5 w.heap.size (.slice A' (lastTo es k).length c') (lastTo es k)) := own_kp HO.out hk5
              clear e W q1 q2 hk5
              go_wp2
              go_roundw
              case rel => exact ⟨true, m + 1, by omega, by omega, by go_num, rfl, HB2, HO5, HK5⟩
              case measure => simp [intOf]; omega
        · obtain rfl : m = n := by omega
          have HANY : Hid (b = !((es.drop (k + 1)).any (fun x => x.1 == a))) := by
            unfold Hid
            cases hq : (es.drop (k + 1)).any (fun x => x.1 == a)
            · refine HB.out.2 fun j h1 h2 h3 => ?_
              have := (any_drop_iff es k a).2 ⟨j, h1, by rw [HL.out]; exact h2, h3⟩
              rw [hq] at this
              cases this
            · obtain ⟨j, h1, h2, h3⟩ := (any_drop_iff es k a).1 hq
              cases b
              · rfl
              · exact absurd h3 (HB.out.1 rfl j h1 (by rw [← HL.out]; exact h2))
          have hc1 := Kp.cell HK.out hc1
          have hc2 := Kp.cell HK.out hc2
          cases b
          · have HS : Hid (lastTo es (k + 1) = lastTo es k) := by
              unfold Hid
              have := HANY.out
              rw [lastTo_succ, HAT.out, show (es.drop (k + 1)).any (fun x => x.1 == a) = true by simpa using this.symm]
              simp
            go_wp2
            go_roundw
            case rel => exact ⟨k + 1, by omega, by go_num, by rw [HS.out]; exact HO.out, HK.out⟩
            case measure => simp [intOf]; omega
          · have HS : Hid (lastTo es (k + 1) = lastTo es k ++ [(a, x)]) := by
              unfold Hid
              have := HANY.out
              rw [lastTo_succ, HAT.out, show (es.drop (k + 1)).any (fun x => x.1 == a) = false by simpa using this.symm]
              have : entAt es k = (a, x) := Prod.ext HAT.out HXX.out
              rw [this]
              rfl
            have hll := lastTo_len es k
            go_wp2_with (at_builtin; refine app_cells (w0 := w) w.heap.size rfl (.tmp 36) (.tmp 41) 53 136 (.agg #[.int .i64 0, .int .u64 0]) 2 16 rfl Try.underlying53 info136 rfl (by omega) (by omega) _ _ (entC (lastTo es k)) [.int .i64 a, .int .u64 x] rfl rfl rfl (by simp [Value.oneCell']) HO.out HK.out HK.out.size (by omega) ?_)
            intro v1 w3 hown hk3 _ _
            have HO3 : Hid (OwnE w3 w.heap.size v1 (lastTo es (k + 1))) := by
              unfold Hid
              rw [HS.out]
              unfold OwnE
              rw [List.length_append, entC_app]
              exact hown
            have HK3 := Lib.hid hk3
            clear hown hk3 HO HK
            go_wp2
            go_roundw
            case rel => exact ⟨k + 1, by omega, by go_num, HO3.out, HK3.out⟩
            case measure => simp [intOf]; omega
    · obtain rfl : k = n := by omega
      have HO := Lib.hid hown
      have HK := Lib.hid hkp
      clear hown hkp
      obtain ⟨A', c', rfl⟩ := own_slice HO.out
      go_wp2
      go_ret
      exact ⟨_, rfl, HO.out, HK.out⟩

set_option maxHeartbeats 1000000 in
set_option maxRecDepth 100000 in
theorem law_EntryLast (A : Option Addr) (n c : Nat) (es : List Ent) (w : World) (hr : RdE w A n es) (hc : n ≤ c) (hcm : c ≤ maxLen) :
    Calls Try.prog 14 #[.slice A n c] w fun e w' => e = .returned (.bool true) ∧ Kp w w' := by
  have HR := Lib.hid hr
  have HC := Lib.hid hcm
  clear hr hcm
  by_cases hb : (n : Int) > 200
  · go_enter Try.func14, Try.ntmps14
    go_wp2_with fail
    refine (alive10 _).mono ?_
    rintro e w1 ⟨rfl, hk1⟩
    go_wp2
    go_ret
    exact ⟨rfl, hk1⟩
  · go_enter Try.func14, Try.ntmps14
    go_wp2_with fail
    refine (alive10 _).mono ?_
    rintro e w1 ⟨rfl, hk1⟩
    go_wp2_with fail
    refine (elast_any _ _ _ es _ (HR.out.kp hk1) hc HC.out (by omega)).mono ?_
    rintro e w2 ⟨v, rfl, hown, hk2⟩
    obtain ⟨A1, c1, rfl, h1⟩ := own_rdE hown
    have HK2 := Lib.hid (hk1.trans hk2)
    have H1 := Lib.hid h1
    clear hk1 hk2 hown h1
    go_wp2_with fail
    refine (erlast_any _ _ _ es _ (HR.out.kp HK2.out) (by omega)).mono ?_
    rintro e w3 ⟨v, rfl, hown, hk3⟩
    obtain ⟨A2, c2, rfl, h2⟩ := own_rdE hown
    have HK3 : Hid (Kp w w3) := Kp.trans HK2.out hk3
    have H1' : Hid (RdE w3 A1 (lastTo es n).length (lastTo es n)) := H1.out.kp hk3
    have H2 := Lib.hid h2
    clear hk3 hown h2 H1
    go_wp2_with fail
    refine (same_any _ _ _ _ _ _ _ _ _ H1'.out H2.out).mono ?_
    rintro e w4 ⟨rfl, hk4⟩
    go_wp2
    go_ret
    exact ⟨ret_bool (by simp), Kp.trans HK3.out hk4⟩
theorem law_EntryLast' {A : Option Addr} {n c : Nat} {es : List Ent} {W : World} (h : IsEnts W A n c es) :
    Calls Try.prog 14 #[.slice A n c] W fun e w' => e = .returned (.bool true) ∧ Kp W w' := law_EntryLast A n c es W h.1 h.2.2.1 h.2.2.2.1
end Go.Proofs.Ytpmbjlmplfejgaa
