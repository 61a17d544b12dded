/- Slices of entries; the statement's Same. -/
import Derived.Test.YtpmbjlmplfejgaaSupC
namespace Go.Proofs.Ytpmbjlmplfejgaa
open Go.RowKit
set_option linter.unusedVariables false
set_option linter.unusedSimpArgs false

abbrev Ent := Int × Int
def entAt (es : List Ent) (j : Nat) : Ent := es[j]?.getD (0, 0)
/-- A slice of entries that is read. -/
def RdE (w : World) (A : Option Addr) (n : Nat) (es : List Ent) : Prop :=
  es.length = n ∧ n ≤ 9223372036854775807 ∧ (0 < n → ∃ ad, A = some ad ∧ ∀ j, j < n → w.cell? (ad.add (j * 2)) = some (.int .i64 (entAt es j).1) ∧ w.cell? ⟨(ad.add (j * 2)).block, (ad.add (j * 2)).off + 1, none⟩ = some (.int .u64 (entAt es j).2))
theorem RdE.kp {w w' : World} {A : Option Addr} {n : Nat} {es : List Ent} (h : RdE w A n es) (hk : Kp w w') : RdE w' A n es :=
  ⟨h.1, h.2.1, fun hn => by obtain ⟨ad, e, hc⟩ := h.2.2 hn; exact ⟨ad, e, fun j hj => ⟨hk.cell (hc j hj).1, hk.cell (hc j hj).2⟩⟩⟩
theorem RdE.at_ {w : World} {A : Option Addr} {n : Nat} {es : List Ent} (h : RdE w A n es) (j : Nat) (hj : j < n) :
    ∃ ad, A = some ad ∧ w.cell? (ad.add (j * 2)) = some (.int .i64 (entAt es j).1) ∧ w.cell? ⟨(ad.add (j * 2)).block, (ad.add (j * 2)).off + 1, none⟩ = some (.int .u64 (entAt es j).2) := by
  obtain ⟨ad, e, hc⟩ := h.2.2 (by omega)
  exact ⟨ad, e, hc j hj⟩
theorem RdE.nil {w : World} {A : Option Addr} : RdE w A 0 [] := ⟨rfl, by omega, fun h => absurd h (by omega)⟩

set_option maxHeartbeats 1000000 in
set_option maxRecDepth 100000 in
theorem same_any (A B : Option Addr) (n m c d : Nat) (xs ys : List Ent) (w : World) (hx : RdE w A n xs) (hy : RdE w B m ys) :
    Calls Try.prog 46 #[.slice A n c, .slice B m d] w fun e w' => e = .returned (.bool (decide (xs = ys))) ∧ Kp w w' := by
  have HX := Lib.hid hx
  have HY := Lib.hid hy
  clear hx hy
  by_cases hnm : n = m
  · subst hnm
    have hn := HX.out.2.1
    go_enter Try.func46, Try.ntmps46
    go_wp2
    go_loopw [5] (fun i wr => ∃ k : Nat, k ≤ n ∧ i = .int .i64 k ∧ Hid (Kp w wr) ∧ Hid (∀ j, j < k → entAt xs j = entAt ys j)) (fun i _ => n - (intOf i).toNat)
    case atStart => exact ⟨0, by omega, rfl, Kp.self, fun j hj => absurd hj (by omega)⟩
    case round =>
      obtain ⟨k, hk, rfl, HK, HE⟩ := hrel
      by_cases hlt : k < n
      · obtain ⟨ad, rfl, hc, hc2⟩ := (HX.out.kp HK.out).at_ k hlt
        obtain ⟨ad', rfl, hc', hc2'⟩ := (HY.out.kp HK.out).at_ k hlt
        have q1 := fun W : KW wr => W.cell hc
        have q2 := fun W : KW wr => W.cell hc'
        have q3 := fun W : KW wr => W.cell hc2
        have q4 := fun W : KW wr => W.cell hc2'
        have b1 : (0 : Int) ≤ k := by omega
        have b2 : (k : Int) < n := by omega
        by_cases heq : entAt xs k = entAt ys k
        · have HE2 : Hid (∀ j, j < k + 1 → entAt xs j = entAt ys j) := fun j hj => by
            by_cases h : j = k
            · subst h; exact heq
            · exact HE.out j (by omega)
          rw [← heq] at q2 q4
          generalize (entAt xs k).1 = x1 at *
          generalize (entAt xs k).2 = x2 at *
          clear heq hc hc' hc2 hc2'
          go_wp2
          refine wp_region_kw wr Kp.self (by kernel_rfl) (by kernel_rfl) ?_
          repeat (any_goals (first | go_big_quiet_step (fail) | quiet_step (fail)))
          refine wpQuiet_nil ?_
          rintro w5 ⟨W, e⟩
          have HK5 : Hid (Kp w w5) := Kp.trans HK.out (e ▸ W.2)
          clear e W q1 q2 q3 q4
          go_wp2
          go_roundw
          case rel => exact ⟨k + 1, by omega, by go_num, HK5, HE2⟩
          case measure => simp [intOf]; omega
        · have HN : Hid (xs ≠ ys) := fun e => heq (by rw [e])
          have hd : (entAt xs k).1 ≠ (entAt ys k).1 ∨ ((entAt xs k).1 = (entAt ys k).1 ∧ (entAt xs k).2 ≠ (entAt ys k).2) := by
            by_cases h : (entAt xs k).1 = (entAt ys k).1
            · exact .inr ⟨h, fun h2 => heq (Prod.ext h h2)⟩
            · exact .inl h
          generalize (entAt xs k).1 = x1 at *
          generalize (entAt xs k).2 = x2 at *
          generalize (entAt ys k).1 = y1 at *
          generalize (entAt ys k).2 = y2 at *
          clear heq hc hc' hc2 hc2'
          rcases hd with h | ⟨rfl, h⟩
          all_goals
            go_wp2
            refine wp_region_kw wr Kp.self (by kernel_rfl) (by kernel_rfl) ?_
            repeat (any_goals (first | go_big_quiet_step (fail) | quiet_step (fail)))
            refine wpQuiet_nil ?_
            rintro w5 ⟨W, e⟩
            have HK5 : Hid (Kp w w5) := Kp.trans HK.out (e ▸ W.2)
            clear e W q1 q2 q3 q4
            go_wp2
            go_ret
            exact ⟨ret_bool (by simp [HN.out]), HK5.out⟩
      · obtain rfl : k = n := by omega
        have HQ : Hid (xs = ys) := by
          apply List.ext_getElem?
          intro j
          by_cases hj : j < k
          · have := HE.out j hj
            unfold entAt at this
            have l1 := HX.out.1
            have l2 := HY.out.1
            rw [List.getElem?_eq_getElem (by omega), List.getElem?_eq_getElem (by omega)] at this ⊢
            simpa using this
          · rw [List.getElem?_eq_none (by have := HX.out.1; omega), List.getElem?_eq_none (by have := HY.out.1; omega)]
        go_wp2
        go_ret
        exact ⟨ret_bool (by simp [HQ.out]), HK.out⟩
  · have hne : xs ≠ ys := fun e => hnm (by rw [← HX.out.1, ← HY.out.1, e])
    have HN := Lib.hid hne
    have hb : ((n : Int) == (m : Int)) = false := by simp; omega
    go_enter Try.func46, Try.ntmps46
    go_wp2
    go_ret
    exact ⟨ret_bool (by simp [HN.out]), Kp.self⟩
end Go.Proofs.Ytpmbjlmplfejgaa
