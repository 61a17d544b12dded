/- entry.Last, the reference's, and the examples. -/
import Derived.Test.YtpmbjlmplfejgaaEntF
namespace Go.Proofs.Ytpmbjlmplfejgaa
open Go.RowKit
set_option linter.unusedVariables false
set_option linter.unusedSimpArgs false

theorem rdE_new {w w1 : World} {e : TypeId} {es : List Ent} {fr : Nat × Nat} (h : Kp (w.alloc (.cells (entC es).toArray e fr)) w1) (hl : es.length ≤ 1000) :
    RdE w1 (some ⟨w.heap.size, 0, none⟩) es.length es := by
  refine ⟨rfl, by omega, fun _ => ⟨_, rfl, fun j hj => ?_⟩⟩
  obtain ⟨h1, h2⟩ := entC_get es j hj
  rw [add0]
  exact ⟨box_cell h _ (by simpa using h1), box_cell h _ (by simpa using h2)⟩

set_option maxHeartbeats 1000000 in
set_option maxRecDepth 100000 in
theorem alive10 (w : World) : Calls Try.prog 40 #[] w fun e w' => e = .returned (.bool true) ∧ Kp w w' := by
  have HR : Hid (RdE (w.alloc (.cells #[.int .i64 5, .int .u64 9, .int .i64 6, .int .u64 1] 136)) (some ⟨w.heap.size, 0, none⟩) 2 [(5, 9), (6, 1)]) := rdE_new (es := [(5, 9), (6, 1)]) Kp.self (by decide)
  have HI : Hid (InE [(5, 9), (6, 1)]) := by
    intro e he
    simp only [List.mem_cons, List.not_mem_nil, or_false] at he
    rcases he with rfl | rfl <;> simp
  have HW : Hid (wordsE [(5, 9), (6, 1)] = [5, 9, 4294967302, 1]) := by unfold Hid; decide +kernel
  have HX : Hid (InR 18446744073709551616 ([] : List Int)) := by unfold Hid InR; simp
  go_enter Try.func40, Try.ntmps40
  go_wp2_with fail
  refine (ewords_any _ _ _ _ _ HR.out HI.out).mono ?_
  rintro e w1 ⟨v, rfl, hown, hk⟩
  rw [HW.out] at hown
  have hown : w1.ownsRow (w.alloc (.cells #[.int .i64 5, .int .u64 9, .int .i64 6, .int .u64 1] 136)).heap.size 28 1 v 4 (nums .u64 [5, 9, 4294967302, 1]) := hown
  obtain ⟨g, cap, rfl, hb, hg⟩ := hown.form (by decide)
  have h0 : w1.cell? ⟨g, 0, none⟩ = some (.int .u64 5) := own_get hown 0 (by decide)
  have h1 : w1.cell? ⟨g, 1, none⟩ = some (.int .u64 9) := own_get hown 1 (by decide)
  have h2 : w1.cell? ⟨g, 2, none⟩ = some (.int .u64 4294967302) := own_get hown 2 (by decide)
  have h3 : w1.cell? ⟨g, 3, none⟩ = some (.int .u64 1) := own_get hown 3 (by decide)
  have HK : Hid (Kp w w1) := Kp.trans (Kp.self.alloc _) hk
  clear hown hb hg hk HR HI HW
  go_wp2_with fail
  refine (eread_any 0 _ _ _ [] _ (by omega) (by omega) RdI.nil HX.out (Nat.le_refl _) (Nat.zero_le _)).mono ?_
  rintro e w2 ⟨es, ok, v, rfl, hrd, hown, _, hk2⟩
  obtain ⟨rfl, rfl⟩ : es = [] ∧ ok = true := by
    rcases hrd with ⟨_, h1, h2⟩ | ⟨h, _⟩ | ⟨h, _⟩
    · exact ⟨h1, h2⟩
    · exact absurd rfl h
    · exact absurd rfl h
  obtain ⟨A', c', rfl⟩ := own_slice hown
  have q0 := hk2.cell h0
  have q1 := hk2.cell h1
  have q2 := hk2.cell h2
  have q3 := hk2.cell h3
  have HK2 : Hid (Kp w w2) := Kp.trans HK.out hk2
  have hl : (([] : List Ent).length : Int) = 0 := rfl
  clear hrd hown hk2 h0 h1 h2 h3
  go_wp2
  go_ret
  exact ⟨rfl, HK2.out⟩

def lastTo (es : List Ent) (j : Nat) : List Ent := (List.range j).flatMap fun i => if (es.drop (i + 1)).any (fun x => x.1 == (entAt es i).1) then [] else [entAt es i]
theorem lastTo_succ (es : List Ent) (j : Nat) : lastTo es (j + 1) = lastTo es j ++ if (es.drop (j + 1)).any (fun x => x.1 == (entAt es j).1) then [] else [entAt es j] := by
  unfold lastTo
  rw [List.range_succ]
  simp
theorem lastTo_len (es : List Ent) (j : Nat) : (lastTo es j).length ≤ j := by
  induction j with
  | zero => simp [lastTo]
  | succ j ih =>
    rw [lastTo_succ, List.length_append]
    split <;> simp <;> omega
theorem entAt_drop (es : List Ent) (k j : Nat) : entAt (es.drop k) j = entAt es (k + j) := by
  unfold entAt
  rw [List.getElem?_drop]
/-- The entries behind so many. -/
theorem RdE.drop {w : World} {ad : Addr} {n : Nat} {es : List Ent} (h : RdE w (some ad) n es) (k : Nat) (hk : k ≤ n) : RdE w (some (ad.add (k * 2))) (n - k) (es.drop k) := by
  refine ⟨by rw [List.length_drop, h.1], by have := h.2.1; omega, fun hp => ⟨_, rfl, fun j hj => ?_⟩⟩
  obtain ⟨ad', e, hc⟩ := h.at_ (k + j) (by omega)
  injection e with e
  subst e
  rw [entAt_drop, Addr.add_add, show k * 2 + j * 2 = (k + j) * 2 by omega]
  exact hc

theorem last1_any (e : Ent) (g : Nat) (a : Int) (w : World) (hg : w.cell? ⟨g, 0, none⟩ = some (.int .i64 a)) :
    Calls Try.prog 113 #[entV e, .pointer (some ⟨g, 0, none⟩)] w fun x w' => x = .returned (.bool (e.1 == a)) ∧ Kp w w' := by
  obtain ⟨b, x⟩ := e
  have LW := fun W : KW (w.alloc (.cells #[.int .i64 b, .int .u64 x] 136)) => W.cell ((Kp.self.alloc (.cells #[.int .i64 b, .int .u64 x] 136)).cell hg)
  have hg' := (Kp.self.alloc (.cells #[.int .i64 b, .int .u64 x] 136)).cell hg
  go_enter Try.func113, Try.ntmps113
  go_wp2
  go_ret
  exact ⟨rfl, Kp.self.alloc _⟩
theorem call113 (args : Array Value) (w : World) : (callFunc 113 args).run Try.prog w = .ok (.enter 113 args) w := by kernel_rfl

set_option maxHeartbeats 1000000 in
set_option maxRecDepth 100000 in
theorem elast_any (A : Option Addr) (n c : Nat) (es : List Ent) (w : World) (hr : RdE w A n es) (hc : n ≤ c) (hcm : c ≤ maxLen) (hn : n ≤ 200) :
    Calls Try.prog 52 #[.slice A n c] w fun e w' => ∃ v, e = .returned v ∧ OwnE w' w.heap.size v (lastTo es n) ∧ Kp w w' := by
  have HR := Lib.hid hr
  have HL : Hid (es.length = n) := hr.1
  have hcc : c ≤ 9223372036854775807 := by simp only [maxLen] at hcm; omega
  clear hr hcm
  go_enter Try.func52, Try.ntmps52
  go_wp2
  go_loopw [3, 9] (fun v i wr => ∃ k : Nat, k ≤ n ∧ i = .int .i64 k ∧ OwnE wr w.heap.size v (lastTo es k) ∧ Kp w wr) (fun _ i _ => n - (intOf i).toNat)
  case atStart => exact ⟨0, by omega, rfl, World.ownsRow_nil _ _ _ _, Kp.self⟩
  case round =>
    obtain ⟨k, hk, rfl, hown, hkp⟩ := hrel
    by_cases hlt : k < n
    · obtain ⟨ad, rfl, hc1, hc2⟩ := (HR.out.kp hkp).at_ k hlt
      have b1 : (0 : Int) ≤ k := by omega
      have b2 : (k : Int) < n := by omega
      have b3 : (k : Int) + 1 ≤ n := by omega
      have b4 : (n : Int) ≤ c := by omega
      have b5 : (c : Int) ≤ 9223372036854775807 := by omega
      have t1 : ((k : Int) + 1).toNat = k + 1 := by omega
      obtain ⟨A', c', rfl⟩ := own_slice hown
      have HO := Lib.hid hown
      have HK := Lib.hid hkp
      clear hown hkp
      generalize hat : (entAt es k).1 = a at *
      generalize hxx : (entAt es k).2 = x at *
      have HAT := Lib.hid hat
      have HXX := Lib.hid hxx
      clear hat hxx
      have HB : Hid (RdE (wr.alloc (.cells #[.int .i64 a, .int .u64 x] 136)) (some (ad.add ((k + 1) * 2))) (n - (k + 1)) (es.drop (k + 1))) := (HR.out.kp (Kp.alloc HK.out _)).drop (k + 1) (by omega)
      obtain ⟨g0, g1⟩ := box2 (Kp.self (w := wr.alloc (.cells #[.int .i64 a, .int .u64 x] 136)))
      have HC : Hid (∀ (B : Addr) (N C : Nat), RdE (wr.alloc (.cells #[.int .i64 a, .int .u64 x] 136)) (some B) N (es.drop (k + 1)) → Calls Try.prog 114 #[.slice (some B) N C, .func (.func 113) #[] #[.pointer (some ⟨wr.heap.size, 0, none⟩)]] (wr.alloc (.cells #[.int .i64 a, .int .u64 x] 136)) fun e w' => e = .returned (.bool ((es.drop (k + 1)).any fun e => e.1 == a)) ∧ Kp (wr.alloc (.cells #[.int .i64 a, .int .u64 x] 136)) w') := fun B N C hB =>
        containsE_any (some B) N C (es.drop (k + 1)) 113 #[.pointer (some ⟨wr.heap.size, 0, none⟩)] (fun e => e.1 == a) (wr.alloc (.cells #[.int .i64 a, .int .u64 x] 136)) hB call113 (fun w' e hk _ => last1_any e wr.heap.size a w' (hk.cell g0))
      have hck : c = k + 1 ∨ ¬ c = k + 1 := by omega
      rcases hck with rfl | hck
      all_goals
        go_wp2_with fail
        refine (HC.out _ _ _ (by first | exact HB.out | exact ⟨by rw [List.length_drop, HL.out]; omega, by omega, fun h => absurd h (by omega)⟩)).mono ?_
        rintro e w2 ⟨rfl, hk2⟩
        have q0 := hk2.cell g0
        have q1 := hk2.cell g1
        have hk3 : Kp wr w2 := (Kp.self.alloc _).trans hk2
        have HK2 : Hid (Kp w w2) := Kp.trans HK.out hk3
        have HO2 : Hid (OwnE w2 w.heap.size (.slice A' (lastTo es k).length c') (lastTo es k)) := own_kp HO.out hk3
        clear hk2 hk3 HK HO g0 g1 HB
        cases hany : (es.drop (k + 1)).any fun e => e.1 == a
        · have HS : Hid (lastTo es (k + 1) = lastTo es k ++ [(a, x)]) := by
            unfold Hid
            rw [lastTo_succ, HAT.out, hany]
            have : entAt es k = (a, x) := Prod.ext HAT.out HXX.out
            rw [this]
            rfl
          clear hany
          generalize wr.heap.size = bx at *
          have hll := lastTo_len es k
          go_wp2_with (at_builtin; refine app_cells (w0 := w) w.heap.size rfl (.tmp 22) (.tmp 24) 53 136 (.agg #[.int .i64 0, .int .u64 0]) 2 16 rfl Try.underlying53 info136 rfl (by omega) (by omega) _ _ (entC (lastTo es k)) [.int .i64 a, .int .u64 x] rfl rfl rfl (by simp [Value.oneCell']) HO2.out HK2.out HK2.out.size (by omega) ?_)
          intro v1 w3 hown hk3 _ _
          have HO3 : Hid (OwnE w3 w.heap.size v1 (lastTo es (k + 1))) := by
            unfold Hid
            rw [HS.out]
            unfold OwnE
            rw [List.length_append, entC_app]
            exact hown
          have HK3 := Lib.hid hk3
          clear hown hk3 HO2 HK2
          go_wp2
          go_roundw
          case rel => exact ⟨k + 1, by omega, by go_num, HO3.out, HK3.out⟩
          case measure => simp [intOf]; omega
        · have HS : Hid (lastTo es (k + 1) = lastTo es k) := by
            unfold Hid
            rw [lastTo_succ, HAT.out, hany]
            simp
          clear hany
          go_wp2
          go_roundw
          case rel => exact ⟨k + 1, by omega, by go_num, by rw [HS.out]; exact HO2.out, HK2.out⟩
          case measure => simp [intOf]; omega
    · obtain rfl : k = n := by omega
      have HO := Lib.hid hown
      have HK := Lib.hid hkp
      clear hown hkp
      obtain ⟨A', c', rfl⟩ := own_slice HO.out
      go_wp2
      go_ret
      exact ⟨_, rfl, HO.out, HK.out⟩
end Go.Proofs.Ytpmbjlmplfejgaa
