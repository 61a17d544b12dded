/- The laws of images, in plain Lean; the example. -/
import Derived.Test.YtpmbjlmplfejgaaImaG
namespace Go.Proofs.Ytpmbjlmplfejgaa
open Go.RowKit
set_option linter.unusedVariables false
set_option linter.unusedSimpArgs false

theorem replayed_any (A : Option Addr) (n c : Nat) (xs : List Int) (w : World) (hr : RdI w .u64 A n xs) (hx : InR 18446744073709551616 xs) (hc : n ≤ c) (hcm : c ≤ maxLen) (hA : A = none → n = 0 ∧ c = 0) (hn : n ≤ 10000) :
    Calls Try.prog 64 #[.slice A n c] w fun e W' => ∃ v res ok, e = .returned (.tuple #[v, .int .i64 (supErr ok)]) ∧ OwnI W' w.heap.size 28 .u64 v res ∧ RepP xs n res ok ∧ Kp w W' :=
  callsIn_wide.1 (replayed_in 3 (by omega) A n c xs w hr hx hc hcm hA hn)

theorem lgOf_zero (ws : List Int) : lgOf 0 ws = [] := lgOf_eq (ok := true) (.inl ⟨rfl, rfl, rfl⟩)
theorem lgOf_rng (sl : Int) {ws : List Int} (h : InR 18446744073709551616 ws) : InE (lgOf sl ws) := by
  by_cases hx : ∃ es, RdLog sl ws es true
  · obtain ⟨es, he⟩ := hx
    rw [lgOf_eq he]
    rcases he with ⟨_, rfl, _⟩ | ⟨_, _, hl⟩ | ⟨_, h, _⟩
    · exact InE.nil
    · rw [← hl.ents]; exact entsOf_rng _ _ h
    · cases h
  · unfold lgOf
    rw [dif_neg hx]
    exact InE.nil
theorem laneLog_rng {xs : List Int} (h : InR 18446744073709551616 xs) (t : Nat) : InE (laneLog xs t) := lgOf_rng _ ((h.drop _).take _)
theorem InR.setL {m : Int} {a : List Int} (h : InR m a) (i : Nat) (x : Int) (hx : 0 ≤ x ∧ x < m) : InR m (a.set i x) := fun y hy => by
  rcases List.mem_or_eq_of_mem_set hy with h' | rfl
  · exact h y h'
  · exact hx
theorem setAll_rng {ys : List Int} (h : InR 18446744073709551616 ys) {es : List Ent} (he : InE es) : InR 18446744073709551616 (setAll ys es) := by
  induction es generalizing ys with
  | nil => exact h
  | cons e es ih => exact ih (h.setL _ _ (he e (by simp)).2) (fun x hx => he x (by simp [hx]))
theorem repTo_rng {xs : List Int} (h : InR 18446744073709551616 xs) (t : Nat) : InR 18446744073709551616 (repTo xs t) := by
  induction t with
  | zero => exact h
  | succ t ih => exact (setAll_rng ih (laneLog_rng h t)).setL _ _ (by omega)
theorem set_self {xs : List Int} {i : Nat} (h : xs[i]?.getD 0 = 0) : xs.set i 0 = xs := by
  apply List.ext_getElem?
  intro j
  by_cases hj : i = j
  · subst hj
    by_cases hi : i < xs.length
    · rw [List.getElem?_set_self hi, List.getElem?_eq_getElem hi]
      rw [List.getElem?_eq_getElem hi] at h
      exact congrArg some h.symm
    · rw [List.set_eq_of_length_le (by omega)]
  · rw [List.getElem?_set_ne hj]
theorem repTo_same {xs : List Int} {k : Nat} (h : ∀ t, t < k → xs[laneAt t]?.getD 0 = 0) : repTo xs k = xs := by
  induction k with
  | zero => rfl
  | succ k ih =>
    rw [repTo, ih (fun t ht => h t (by omega))]
    unfold laneLog
    rw [h k (by omega), lgOf_zero]
    exact set_self (h k (by omega))
theorem log_same {xs : List Int} {t : Nat} (h : xs[laneAt t]?.getD 0 = 0) : laneLog xs t = [] := by unfold laneLog; rw [h, lgOf_zero]
/-- words whose lanes are all empty are replayed as themselves -/
theorem RepP.still {xs : List Int} {n : Nat} {s l r : Int} (hv : Valid xs n s l r) (h : ∀ t : Nat, (t : Int) < l → xs[laneAt t]?.getD 0 = 0) : RepP xs n xs true :=
  .inl ⟨rfl, s, l, r, hv, (fun t ht e he => by rw [log_same (h t ht)] at he; cases he), (repTo_same (fun t ht => h t (by omega))).symm⟩
theorem setAll_get {ys : List Int} {es : List Ent} {i : Nat} (h : ∀ e ∈ es, e.1.toNat ≠ i) : (setAll ys es)[i]?.getD 0 = ys[i]?.getD 0 := by
  induction es generalizing ys with
  | nil => rfl
  | cons e es ih =>
    have := ih (ys := ys.set e.1.toNat e.2) (fun x hx => h x (by simp [hx]))
    rw [List.getElem?_set_ne (h e (by simp))] at this
    exact this
theorem setAll_take {ys : List Int} {es : List Ent} (h : ∀ e ∈ es, 8 ≤ e.1.toNat) : (setAll ys es).take 8 = ys.take 8 := by
  induction es generalizing ys with
  | nil => rfl
  | cons e es ih =>
    have := ih (ys := ys.set e.1.toNat e.2) (fun x hx => h x (by simp [hx]))
    rw [List.take_set_of_le (h e (by simp))] at this
    exact this
theorem repTo_take {xs : List Int} {s l r : Int} {k : Nat} (h : ∀ t, t < k → ∀ e ∈ laneLog xs t, mayA s l r e.1 = true) : (repTo xs k).take 8 = xs.take 8 := by
  induction k with
  | zero => rfl
  | succ k ih =>
    rw [repTo, List.take_set_of_le (by unfold laneAt; omega), setAll_take, ih (fun t ht => h t (by omega))]
    intro e he
    have := (mayA_bd (h k (by omega) e he)).2.1
    omega
theorem repTo_seal {xs : List Int} {s l r : Int} {k : Nat} (hl : (k : Int) ≤ l) (hlen : laneAt k ≤ xs.length + 40) (h : ∀ t, t < k → ∀ e ∈ laneLog xs t, mayA s l r e.1 = true) : ∀ t, t < k → laneAt t < xs.length → (repTo xs k)[laneAt t]?.getD 0 = 0 := by
  induction k with
  | zero => intro t ht; omega
  | succ k ih =>
    intro t ht htl
    rw [repTo]
    by_cases htk : t = k
    · subst htk
      rw [List.getElem?_set_self (by rw [setAll_len, repTo_len]; exact htl)]
      rfl
    · rw [List.getElem?_set_ne (by unfold laneAt; omega), setAll_get, ih (by omega) (by unfold laneAt at *; omega) (fun t ht => h t (by omega)) t (by omega) htl]
      intro e he
      have hb := mayA_bd (h k (by omega) e he)
      unfold laneAt
      omega
/-- twice is once -/
theorem RepP.twice {xs res : List Int} {n : Nat} (hlen : xs.length = n) (h : RepP xs n res true) : RepP res n res true := by
  rcases h with ⟨_, s, l, r, hv, hm, rfl⟩ | ⟨h, _⟩
  · have hb := may_bd hv.1
    have hnt := hv.2.2.2
    have hm' : ∀ t, t < l.toNat → ∀ e ∈ laneLog xs t, mayA s l r e.1 = true := fun t ht => hm t (by omega)
    refine RepP.still (s := s) (l := l) (r := r) ⟨hv.1, hv.2.1, ?_, hv.2.2.2⟩ (fun t ht => ?_)
    · rw [repTo_take hm']; exact hv.2.2.1
    · refine repTo_seal (l := l) (by omega) ?_ hm' t (by omega) ?_
      · unfold laneAt; unfold total at hnt; omega
      · unfold laneAt; unfold total at hnt; omega
  · cases h
theorem RepP.len {xs res : List Int} {n : Nat} (hlen : xs.length = n) (h : RepP xs n res true) : res.length = n := by
  rcases h with ⟨_, s, l, r, hv, hm, rfl⟩ | ⟨h, _⟩
  · rw [repTo_len, hlen]
  · cases h
theorem RepP.rng {xs res : List Int} {n : Nat} {ok : Bool} (hx : InR 18446744073709551616 xs) (h : RepP xs n res ok) : InR 18446744073709551616 res := by
  rcases h with ⟨_, s, l, r, hv, hm, rfl⟩ | ⟨_, rfl, _⟩
  · exact repTo_rng hx _
  · intro x hx; cases hx
theorem freshL_len {s l r : Int} (hg : gMay s l r = true) : ((freshL s l r).length : Int) = total s l := by
  have hm := may_bd hg
  unfold freshL
  rw [if_pos hg, List.length_append, superW_len8 hg, List.length_replicate]
  unfold total
  omega
theorem freshL_rng (s l r : Int) : InR 18446744073709551616 (freshL s l r) := by
  unfold freshL
  cases hg : gMay s l r
  · intro x hx; simp at hx
  · rw [if_pos rfl]
    refine InR.app ?_ ?_
    · rw [superW_eq hg]
      refine (superL_rng hg).app ?_
      intro z hz
      simp only [List.mem_cons, List.not_mem_nil, or_false] at hz
      subst hz
      exact sealI_rng _ (by rw [superL_len]; decide)
    · intro z hz
      have := List.eq_of_mem_replicate hz
      omega
theorem freshL_valid {s l r : Int} {n : Nat} (hg : gMay s l r = true) (hn : (freshL s l r).length = n) : Valid (freshL s l r) n s l r := by
  have hl := freshL_len hg
  have hm := may_bd hg
  refine ⟨hg, by unfold total at hl; omega, ?_, by omega⟩
  unfold freshL
  rw [if_pos hg, ← superW_len8 hg, List.take_left]
theorem freshL_get {s l r : Int} {i : Nat} (hi : 8 ≤ i) : (freshL s l r)[i]?.getD 0 = 0 := by
  unfold freshL
  cases hg : gMay s l r
  · simp
  · rw [if_pos rfl, List.getElem?_append_right (by rw [superW_len8 hg]; exact hi)]
    rw [List.getElem?_replicate]
    split <;> rfl
theorem freshL_still {s l r : Int} {n : Nat} (hg : gMay s l r = true) (hn : (freshL s l r).length = n) : RepP (freshL s l r) n (freshL s l r) true :=
  RepP.still (freshL_valid hg hn) (fun t _ => freshL_get (by unfold laneAt; omega))
theorem own_leL {w : World} {base n : Nat} {e : TypeId} {size : Nat} {A : Option Addr} {m c : Nat} {xs : List Value} (h : w.ownsRow base e size (.slice A m c) n xs) : n ≤ c ∧ c ≤ maxLen := by
  rcases h.2 with ⟨h1, h2⟩ | ⟨g, cap, cur, h1, hb, hh, hnc, hm, _⟩
  · injection h1 with h1 h3 h4
    subst h4
    exact ⟨by omega, by simp⟩
  · injection h1 with h1 h3 h4
    subst h4
    exact ⟨hnc, hm⟩
theorem own_none {W : World} {base n m c : Nat} {e : TypeId} {size : Nat} {A : Option Addr} {xs : List Value} (h : W.ownsRow base e size (.slice A n c) m xs) : A = none → n = 0 ∧ c = 0 := by
  rintro rfl
  rcases h.2 with ⟨h1, _⟩ | ⟨g, cap, cur, h1, _⟩
  · injection h1 with h1 h2 h3
    exact ⟨h2, h3⟩
  · cases h1

set_option maxHeartbeats 1000000 in
set_option maxRecDepth 100000 in
theorem alive12 (w : World) : Calls Try.prog 63 #[] w fun e w' => e = .returned (.bool true) ∧ Kp w w' := by
  have hg : gMay 1 1 1 = true := by decide
  have hfl : (freshL 1 1 1).length = 128 := by have := freshL_len hg; unfold total at this; omega
  have HST := Lib.hid (freshL_still hg hfl)
  have HRN := Lib.hid (freshL_rng 1 1 1)
  have HFL := Lib.hid hfl
  have HFR := fun W => Lib.hid (fresh_any 1 1 1 W)
  generalize freshL 1 1 1 = F at *
  clear hfl hg
  go_enter Try.func63, Try.ntmps63
  go_wp2_with fail
  refine (HFR _).out.mono ?_
  rintro e w1 ⟨v, rfl, hown, hk⟩
  obtain ⟨B, d, rfl, hrd⟩ : ∃ B d, v = .slice B 128 d ∧ RdI w1 .u64 B 128 F := by
    obtain ⟨B, d, h1, h2⟩ := own_rd hown
    rw [HFL.out] at h1 h2
    exact ⟨B, d, h1, h2⟩
  have HLE := Lib.hid (own_leL hown)
  have HNO := Lib.hid (own_none hown)
  have HRD := Lib.hid hrd
  have HK := Lib.hid hk
  clear hown hrd hk HFR
  go_wp2_with fail
  refine (replayed_any B 128 d F _ HRD.out HRN.out (by have := HLE.out.1; rw [HFL.out] at this; exact this) HLE.out.2 HNO.out (by omega)).mono ?_
  rintro e w2 ⟨v2, res, ok, rfl, hown, hrep, hk⟩
  obtain ⟨rfl, rfl⟩ := RepP.uniq hrep HST.out
  obtain ⟨B2, d2, rfl, hrd2⟩ := own_rd hown
  have HRD2 := Lib.hid hrd2
  have HK2 : Hid (Kp w w2) := Kp.trans HK.out hk
  have HRD1 : Hid (RdI w2 .u64 B 128 res) := HRD.out.kp hk
  clear hown hrep hk hrd2
  simp only [supErr, if_true]
  go_wp2_with fail
  refine (words_any B2 B _ 128 d2 d res res _ HRD2.out HRD1.out).mono ?_
  rw [decide_eq_true (rfl : res = res)]
  rintro e w3 ⟨rfl, hk⟩
  go_wp2
  go_ret
  exact ⟨rfl, HK2.out.trans hk⟩

set_option maxHeartbeats 1000000 in
set_option maxRecDepth 100000 in
theorem law_ImageApart (s l r a : Int) (w : World) (hb : a < 9223372036854775808) : Calls Try.prog 18 #[geo s l r, .int .i64 a] w fun e w' => e = .returned (.bool true) ∧ Kp w w' := by
  have HRW := fun W => Lib.hid (rwhere_any s l r a W)
  have HMY := fun W => Lib.hid (mayA_any s l r a W hb)
  unfold mayA at HMY
  generalize whereV s l r a = p at *
  obtain ⟨p0, p1, p2⟩ := p
  go_enter Try.func18, Try.ntmps18
  go_wp2_with fail
  refine (alive12 _).mono ?_
  rintro e w1 ⟨rfl, hk1⟩
  obtain ⟨g0, g1, g2⟩ := box3 hk1
  have HK1 : Hid (Kp w w1) := (Kp.self.alloc _).trans hk1
  clear hk1
  go_wp2_with fail
  refine (HRW _).out.mono ?_
  rintro e w2 ⟨rfl, hk2⟩
  have HKA : Hid (Kp w2 (w2.alloc (.cells #[.int .i64 p0, .int .i64 p1, .int .i64 p2] 97))) := Kp.self.alloc _
  have g0 := HKA.out.cell (hk2.cell g0)
  have g1 := HKA.out.cell (hk2.cell g1)
  have g2 := HKA.out.cell (hk2.cell g2)
  have hx := box3 (Kp.self (w := w2.alloc (.cells #[.int .i64 p0, .int .i64 p1, .int .i64 p2] 97)))
  have HX := Lib.hid hx
  have HK2 : Hid (Kp w (w2.alloc (.cells #[.int .i64 p0, .int .i64 p1, .int .i64 p2] 97))) := HKA.out |> (HK1.out.trans hk2).trans
  clear hk2 hx HRW
  go_wp2_with fail
  refine (HMY _).out.mono ?_
  rintro e w3 ⟨rfl, hk3⟩
  have x0 := hk3.cell HX.out.1
  have x1 := hk3.cell HX.out.2.1
  have x2 := hk3.cell HX.out.2.2
  have HK3 : Hid (Kp w w3) := HK2.out.trans hk3
  clear hk3 HX g0 g1 g2
  by_cases h1 : p0 = 1
  · subst h1
    by_cases hp : 0 ≤ p1
    · have hm : mayP (1, p1, p2) = true := by simp [mayP, hp]
      rw [hm]
      go_wp2
      go_ret
      exact ⟨rfl, HK3.out⟩
    · have hm : mayP (1, p1, p2) = false := by simp [mayP, hp]
      have hp' : p1 < 0 := by omega
      rw [hm]
      go_wp2
      go_ret
      exact ⟨rfl, HK3.out⟩
  · have e1 : (p0 == 1) = false := by simp [h1]
    have e1' : (p0 != 1) = true := by simp [h1]
    by_cases h3 : p0 = 3
    · subst h3
      cases hm : mayP (3, p1, p2)
      · go_wp2
        go_ret
        exact ⟨rfl, HK3.out⟩
      · go_wp2
        go_ret
        exact ⟨rfl, HK3.out⟩
    · have e3 : (p0 == 3) = false := by simp [h3]
      by_cases h4 : p0 = 4
      · subst h4
        have hm : mayP (4, p1, p2) = true := by simp [mayP]
        rw [hm]
        go_wp2
        go_ret
        exact ⟨rfl, HK3.out⟩
      · have e4 : (p0 != 4) = true := by simp [h4]
        have hm : mayP (p0, p1, p2) = false := by simp [mayP, h1, h3, h4]
        rw [hm]
        go_wp2
        go_ret
        exact ⟨rfl, HK3.out⟩
end Go.Proofs.Ytpmbjlmplfejgaa
