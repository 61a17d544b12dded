/- Entries: rows of a call's own, slices.ContainsFunc over entries. -/
import Derived.Test.YtpmbjlmplfejgaaEntA
namespace Go.Proofs.Ytpmbjlmplfejgaa
open Go.RowKit
set_option linter.unusedVariables false
set_option linter.unusedSimpArgs false

abbrev entV (e : Ent) : Value := .agg #[.int .i64 e.1, .int .u64 e.2]
def entC (es : List Ent) : List Value := es.flatMap fun e => [.int .i64 e.1, .int .u64 e.2]
theorem entC_len (es : List Ent) : (entC es).length = es.length * 2 := by
  induction es with
  | nil => rfl
  | cons e es ih => simp only [entC, List.flatMap_cons, List.length_append, List.length_cons, List.length_nil] at *; omega
theorem entC_get (es : List Ent) : ∀ j, j < es.length → (entC es)[j * 2]? = some (.int .i64 (entAt es j).1) ∧ (entC es)[j * 2 + 1]? = some (.int .u64 (entAt es j).2) := by
  induction es with
  | nil => intro j hj; simp at hj
  | cons e es ih =>
    intro j hj
    cases j with
    | zero => simp [entC, entAt]
    | succ j =>
      have h := ih j (by simpa using hj)
      have e1 : entC (e :: es) = [.int .i64 e.1, .int .u64 e.2] ++ entC es := rfl
      have e2 : entAt (e :: es) (j + 1) = entAt es j := by simp [entAt]
      rw [e1, e2, List.getElem?_append_right (by simp; omega), List.getElem?_append_right (by simp; omega)]
      have e3 : (j + 1) * 2 - [Value.int .i64 e.1, Value.int .u64 e.2].length = j * 2 := by simp; omega
      have e4 : (j + 1) * 2 + 1 - [Value.int .i64 e.1, Value.int .u64 e.2].length = j * 2 + 1 := by simp; omega
      rw [e3, e4]
      exact h
theorem entC_one (es : List Ent) : ∀ u ∈ entC es, u.oneCell' = true := by
  intro u hu
  simp only [entC, List.mem_flatMap] at hu
  obtain ⟨e, _, h⟩ := hu
  simp only [List.mem_cons, List.not_mem_nil, or_false] at h
  rcases h with rfl | rfl <;> rfl
theorem entC_app (a b : List Ent) : entC (a ++ b) = entC a ++ entC b := by simp [entC]
abbrev OwnE (w : World) (base : Nat) (v : Value) (es : List Ent) : Prop := w.ownsRow base 136 2 v es.length (entC es)
theorem own_rdE {w : World} {base n : Nat} {v : Value} {es : List Ent} (h : w.ownsRow base 136 2 v n (entC es)) : ∃ A c, v = .slice A n c ∧ RdE w A n es := by
  have hl : es.length = n := by have := h.1; rw [entC_len] at this; omega
  rcases Nat.eq_zero_or_pos n with h0 | h0
  · obtain ⟨A, c, rfl⟩ := own_slice h
    exact ⟨A, c, rfl, hl, by omega, fun hp => absurd hp (by omega)⟩
  · rcases h.2 with ⟨_, h1⟩ | ⟨g', cap', cur, rfl, hb, hh, h1, h2, h3, h4⟩
    · omega
    · refine ⟨_, _, rfl, hl, ?_, fun _ => ⟨_, rfl, fun j hj => ?_⟩⟩
      · simp only [maxLen] at h2; omega
      · have e := entC_get es j (by omega)
        have c1 := h.cells (g := g') rfl (j * 2) _ e.1
        have c2 := h.cells (g := g') rfl (j * 2 + 1) _ e.2
        rw [add0] at c1 c2
        rw [add0]
        exact ⟨c1, c2⟩
theorem entAt_mem {es : List Ent} {j : Nat} (hj : j < es.length) : entAt es j ∈ es := by
  unfold entAt
  rw [List.getElem?_eq_getElem hj]
  exact List.getElem_mem hj
theorem entAt_eq {es : List Ent} {j : Nat} (hj : j < es.length) : entAt es j = es[j] := by
  unfold entAt
  rw [List.getElem?_eq_getElem hj]
  rfl

set_option maxHeartbeats 1000000 in
set_option maxRecDepth 100000 in
theorem indexE_any (A : Option Addr) (n c : Nat) (es : List Ent) (fid : FuncId) (caps : Array Value) (p : Ent → Bool) (w : World) (hr : RdE w A n es)
    (hcall : ∀ (args : Array Value) (w : World), (callFunc fid args).run Try.prog w = .ok (.enter fid args) w)
    (hp : ∀ w' e, Kp w w' → e ∈ es → Calls Try.prog fid (#[entV e] ++ caps) w' fun x w'' => x = .returned (.bool (p e)) ∧ Kp w' w'') :
    Calls Try.prog 159 #[.slice A n c, .func (.func fid) #[] caps] w fun e w' => (∃ k : Int, e = .returned (.int .i64 k) ∧ (decide (0 ≤ k) = es.any p)) ∧ Kp w w' := by
  have HR := Lib.hid hr
  have HP := Lib.hid hp
  have hn := hr.2.1
  have HL : Hid (es.length = n) := hr.1
  clear hr hp
  go_enter Try.func159, Try.ntmps159
  go_wp2
  go_loopw [5, 8] (fun _ i wr => ∃ k : Nat, k ≤ n ∧ i = .int .i64 k ∧ Hid (Kp w wr) ∧ Hid (∀ j, j < k → p (entAt es j) = false)) (fun _ i _ => n - (intOf i).toNat)
  case atStart => exact ⟨0, by omega, rfl, Kp.self, fun j hj => absurd hj (by omega)⟩
  case round =>
    obtain ⟨k, hk, rfl, HK, HE⟩ := hrel
    by_cases hlt : k < n
    · obtain ⟨ad, rfl, hc, hc2⟩ := (HR.out.kp HK.out).at_ k hlt
      have b1 : (0 : Int) ≤ k := by omega
      have b2 : (k : Int) < n := by omega
      go_wp2_with fail
      refine (HP.out wr (entAt es k) HK.out (entAt_mem (by rw [HL.out]; exact hlt))).mono ?_
      rintro e w1 ⟨rfl, hk1⟩
      have HK1 : Hid (Kp w w1) := Kp.trans HK.out hk1
      clear hk1 hc hc2
      cases hpk : p (entAt es k)
      · have HE2 : Hid (∀ j, j < k + 1 → p (entAt es j) = false) := fun j hj => by
          by_cases h : j = k
          · subst h; exact hpk
          · exact HE.out j (by omega)
        go_wp2
        go_roundw
        case rel => exact ⟨k + 1, by omega, by go_num, HK1, HE2⟩
        case measure => simp [intOf]; omega
      · go_wp2
        go_ret
        refine ⟨⟨k, rfl, ?_⟩, HK1.out⟩
        rw [List.any_eq_true.2 ⟨_, entAt_mem (by rw [HL.out]; exact hlt), hpk⟩]
        simp
    · obtain rfl : k = n := by omega
      go_wp2
      go_ret
      refine ⟨⟨-1, rfl, ?_⟩, HK.out⟩
      symm
      rw [show decide ((0 : Int) ≤ -1) = false from by decide, List.any_eq_false]
      intro x hx
      obtain ⟨j, hj, rfl⟩ := List.getElem_of_mem hx
      have := HE.out j (by rw [← HL.out]; exact hj)
      rw [entAt_eq hj] at this
      simp [this]

set_option maxRecDepth 100000 in
theorem containsE_any (A : Option Addr) (n c : Nat) (es : List Ent) (fid : FuncId) (caps : Array Value) (p : Ent → Bool) (w : World) (hr : RdE w A n es)
    (hcall : ∀ (args : Array Value) (w : World), (callFunc fid args).run Try.prog w = .ok (.enter fid args) w)
    (hp : ∀ w' e, Kp w w' → e ∈ es → Calls Try.prog fid (#[entV e] ++ caps) w' fun x w'' => x = .returned (.bool (p e)) ∧ Kp w' w'') :
    Calls Try.prog 114 #[.slice A n c, .func (.func fid) #[] caps] w fun e w' => e = .returned (.bool (es.any p)) ∧ Kp w w' := by
  have H := Lib.hid (indexE_any A n c es fid caps p w hr hcall hp)
  clear hr hp
  go_enter Try.func114, Try.ntmps114
  go_wp2_with fail
  refine H.out.mono ?_
  rintro e w1 ⟨⟨k, rfl, hk⟩, hk1⟩
  go_wp2
  go_ret
  exact ⟨rfl, hk1⟩
end Go.Proofs.Ytpmbjlmplfejgaa
