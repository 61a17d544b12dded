/- image.Heads, and the reference's. -/
import Derived.Test.YtpmbjlmplfejgaaImaJ
import Derived.Test.YtpmbjlmplfejgaaAddrA
namespace Go.Proofs.Ytpmbjlmplfejgaa
open Go.RowKit
set_option linter.unusedVariables false
set_option linter.unusedSimpArgs false

def hdC (hs : List Hd) : List Value := hs.flatMap fun h => [.int .i64 h.1, .int .i64 h.2.1, .int .i64 h.2.2]
theorem hdC_len (hs : List Hd) : (hdC hs).length = hs.length * 3 := by
  induction hs with
  | nil => rfl
  | cons e es ih => simp only [hdC, List.flatMap_cons, List.length_append, List.length_cons, List.length_nil] at *; omega
theorem hdC_app (a b : List Hd) : hdC (a ++ b) = hdC a ++ hdC b := by simp [hdC]
theorem hdC_get (hs : List Hd) : ∀ j, j < hs.length → (hdC hs)[j * 3]? = some (.int .i64 (hdAt hs j).1) ∧ (hdC hs)[j * 3 + 1]? = some (.int .i64 (hdAt hs j).2.1) ∧ (hdC hs)[j * 3 + 2]? = some (.int .i64 (hdAt hs j).2.2) := by
  induction hs with
  | nil => intro j hj; simp at hj
  | cons e es ih =>
    intro j hj
    cases j with
    | zero => simp [hdC, hdAt]
    | succ j =>
      have h := ih j (by simpa using hj)
      have e1 : hdC (e :: es) = [.int .i64 e.1, .int .i64 e.2.1, .int .i64 e.2.2] ++ hdC es := rfl
      have e2 : hdAt (e :: es) (j + 1) = hdAt es j := by simp [hdAt]
      rw [e1, e2, List.getElem?_append_right (by simp; omega), List.getElem?_append_right (by simp; omega), List.getElem?_append_right (by simp; omega)]
      have l3 : [Value.int .i64 e.1, .int .i64 e.2.1, .int .i64 e.2.2].length = 3 := rfl
      rw [l3, show (j + 1) * 3 - 3 = j * 3 by omega, show (j + 1) * 3 + 1 - 3 = j * 3 + 1 by omega, show (j + 1) * 3 + 2 - 3 = j * 3 + 2 by omega]
      exact h
abbrev OwnH (w : World) (base : Nat) (v : Value) (hs : List Hd) : Prop := w.ownsRow base 42 3 v hs.length (hdC hs)
theorem own_rdH {w : World} {base n : Nat} {v : Value} {hs : List Hd} (h : w.ownsRow base 42 3 v n (hdC hs)) : ∃ A c, v = .slice A n c ∧ RdH w A n hs := by
  have hl : hs.length = n := by have := h.1; rw [hdC_len] at this; omega
  rcases Nat.eq_zero_or_pos n with h0 | h0
  · obtain ⟨A, c, rfl⟩ := own_slice h
    exact ⟨A, c, rfl, hl, by omega, fun hp => absurd hp (by omega)⟩
  · rcases h.2 with ⟨_, h1⟩ | ⟨g', cap', cur, rfl, hb, hh, h1, h2, h3, h4⟩
    · omega
    · refine ⟨_, _, rfl, hl, ?_, fun _ => ⟨_, rfl, fun j hj => ?_⟩⟩
      · simp only [maxLen] at h2; omega
      · have e := hdC_get hs j (by omega)
        have c1 := h.cells (g := g') rfl (j * 3) _ e.1
        have c2 := h.cells (g := g') rfl (j * 3 + 1) _ e.2.1
        have c3 := h.cells (g := g') rfl (j * 3 + 2) _ e.2.2
        rw [add0] at c1 c2 c3 ⊢
        exact ⟨c1, c2, c3⟩
theorem info42 : (Try.prog.info? 42).map (fun i => (i.zero, i.size, i.bytes)) = some (some (.agg #[.int .i64 0, .int .i64 0, .int .i64 0]), 3, 24) := by kernel_rfl

/-- the heads of so many spans -/
def HdsTo (L : Nat) (xs : List Int) (k : Nat) (hs : List Hd) : Prop := hs.length = k ∧ ∀ j, j < k → RdHead (xs[headAt L j]?.getD 0) (hdAt hs j) true
def HdsP (s l r : Int) (n : Nat) (xs : List Int) (hs : List Hd) (ok : Bool) : Prop :=
  (ok = true ∧ fitsV s l r n = true ∧ HdsTo l.toNat xs s.toNat hs) ∨ (ok = false ∧ hs = [] ∧ (fitsV s l r n = false ∨ ∃ j, j < s.toNat ∧ ∃ h, RdHead (xs[headAt l.toNat j]?.getD 0) h false))
theorem HdsP.uniq {s l r : Int} {n : Nat} {xs : List Int} {a b : List Hd} {p q : Bool} (h : HdsP s l r n xs a p) (k : HdsP s l r n xs b q) : a = b ∧ p = q := by
  rcases h with ⟨rfl, f, t⟩ | ⟨rfl, rfl, t⟩ <;> rcases k with ⟨rfl, f', t'⟩ | ⟨rfl, rfl, t'⟩
  · refine ⟨List.ext_getElem (by rw [t.1, t'.1]) (fun j h1 h2 => ?_), rfl⟩
    have e := (RdHead.uniq (t.2 j (by rw [← t.1]; exact h1)) (t'.2 j (by rw [← t.1]; exact h1))).1
    rw [hdAt_eq h1, hdAt_eq h2] at e
    exact e
  · rcases t' with h | ⟨j, hj, h, hh⟩
    · rw [f] at h; cases h
    · have := (RdHead.uniq (t.2 j hj) hh).2; cases this
  · rcases t with h | ⟨j, hj, h, hh⟩
    · rw [f'] at h; cases h
    · have := (RdHead.uniq (t'.2 j hj) hh).2; cases this
  · exact ⟨rfl, rfl⟩
theorem HdsTo.snoc {L : Nat} {xs : List Int} {k : Nat} {hs : List Hd} {h : Hd} (t : HdsTo L xs k hs) (hh : RdHead (xs[headAt L k]?.getD 0) h true) : HdsTo L xs (k + 1) (hs ++ [h]) := by
  refine ⟨by rw [List.length_append, t.1]; rfl, fun j hj => ?_⟩
  by_cases e : j = k
  · subst e
    have : hdAt (hs ++ [h]) j = h := by unfold hdAt; rw [List.getElem?_append_right (by rw [t.1]; exact Nat.le_refl _), t.1]; simp
    rw [this]
    exact hh
  · have : hdAt (hs ++ [h]) j = hdAt hs j := by unfold hdAt; rw [List.getElem?_append_left (by rw [t.1]; omega)]
    rw [this]
    exact t.2 j (by omega)

set_option maxHeartbeats 1000000 in
set_option maxRecDepth 100000 in
theorem iheads_any (s l r : Int) (A : Option Addr) (n c : Nat) (xs : List Int) (w : World) (hr : RdI w .u64 A n xs) (hx : InR 18446744073709551616 xs) :
    Calls Try.prog 71 #[geo s l r, .slice A n c] w fun e w' => ∃ v hs ok, e = .returned (.tuple #[v, .int .i64 (rdErr ok)]) ∧ OwnH w' w.heap.size v hs ∧ HdsP s l r n xs hs ok ∧ Kp w w' := by
  have HF := fun W => Lib.hid (ifits_any s l r A n c W)
  have HR := Lib.hid hr
  have HX := Lib.hid hx
  clear hr hx
  cases hf : fitsV s l r n
  · have HFF := Lib.hid hf
    simp only [hf] at HF
    clear hf
    go_enter Try.func71, Try.ntmps71
    go_wp2_with fail
    refine (HF _).out.mono ?_
    rintro e w1 ⟨rfl, hk⟩
    have HK : Hid (Kp w w1) := (Kp.self.alloc _).trans hk
    clear hk
    go_wp2
    go_ret2
    exact ⟨_, [], false, rfl, World.ownsRow_nil _ _ _ _, .inr ⟨rfl, rfl, .inl HFF.out⟩, HK.out⟩
  · have hg : gMay s l r = true ∧ (n : Int) = total s l := by simpa [fitsV] using hf
    have hm := may_bd hg.1
    obtain ⟨L, rfl⟩ : ∃ L : Nat, l = L := ⟨l.toNat, by omega⟩
    obtain ⟨N, rfl⟩ : ∃ N : Nat, s = N := ⟨s.toNat, by omega⟩
    have HE := fun W h => Lib.hid (each_any N r L 0 A n c xs W hg.1 hg.2 (by omega) h)
    simp only [hf] at HF
    have HFF := Lib.hid hf
    clear hg hf
    go_enter Try.func71, Try.ntmps71
    go_wp2_with fail
    refine (HF _).out.mono ?_
    rintro e w1 ⟨rfl, hk⟩
    obtain ⟨g0, g1, g2⟩ := box3 hk
    have HK : Hid (Kp w w1) := (Kp.self.alloc _).trans hk
    clear hk HF
    go_wp2_with fail
    refine (HE _ (HR.out.kp HK.out)).out.mono ?_
    rintro e w2 ⟨v, rfl, hown, hk⟩
    rw [Int.toNat_natCast] at hown
    obtain ⟨B, d, rfl, hre⟩ := own_rd hown
    rw [eachTo_len] at hre ⊢
    have HRE := Lib.hid hre
    have HK2 : Hid (Kp w w2) := HK.out.trans hk
    have HKS : Hid (w.heap.size ≤ w2.heap.size) := HK2.out.size
    clear hown hk hre g0 g1 g2 HE HK
    go_wp2
    go_loopw [6, 19] (fun v i wr => ∃ (k : Nat) (hs : List Hd), k ≤ N ∧ i = .int .i64 k ∧ Hid (OwnH wr w2.heap.size v hs) ∧ Hid (HdsTo L xs k hs) ∧ Hid (Kp w2 wr)) (fun _ i _ => N - (intOf i).toNat)
    case atStart => exact ⟨0, [], Nat.zero_le _, rfl, World.ownsRow_nil _ _ _ _, ⟨rfl, fun j h => by omega⟩, Kp.self⟩
    case round =>
      obtain ⟨k, hs, hk, rfl, HO, HT, HK3⟩ := hrel
      by_cases hlt : k < N
      · have b1 : (0 : Int) ≤ k := by omega
        have b2 : (k : Int) < N := by omega
        obtain ⟨ad, rfl, c0⟩ := (HRE.out.kp HK3.out).at_ k hlt
        have hxk : (eachTo L xs 0 N)[k]?.getD 0 = xs[headAt L k]?.getD 0 := by unfold eachTo; rw [List.getElem?_map, List.getElem?_range hlt]; rfl
        rw [hxk] at c0
        have hb := HX.out.getD (by decide) (headAt L k)
        have HHR := fun W => Lib.hid (hread_any (xs[headAt L k]?.getD 0) W hb.1 hb.2)
        have HX1 : Hid (xs[headAt L k]?.getD 0 = xs[headAt L k]?.getD 0) := rfl
        clear hxk hb
        generalize hxx : xs[headAt L k]?.getD 0 = x at *
        have HXX := Lib.hid hxx
        clear hxx HX1
        go_wp2_with fail
        refine (HHR _).out.mono ?_
        rintro e w4 ⟨⟨⟨h0, h1, h2⟩, ok, rfl, hrd⟩, hk4⟩
        have HRD := Lib.hid hrd
        have HK4 := Lib.hid (HK3.out.trans hk4)
        have HO4 : Hid (OwnH w4 w2.heap.size u6 hs) := own_kp HO.out hk4
        clear hrd hk4 HO HK3 c0 HHR
        unfold hdv
        dsimp only
        cases ok
        · simp only [rdErr, Bool.false_eq_true, if_false]
          go_wp2
          go_ret2
          refine ⟨_, [], false, rfl, World.ownsRow_nil _ _ _ _, .inr ⟨rfl, rfl, .inr ⟨k, by omega, _, by rw [Int.toNat_natCast, HXX.out]; exact HRD.out⟩⟩, (HK2.out.trans HK4.out).alloc _⟩
        · simp only [rdErr, if_true]
          have hbx := box3 (Kp.self (w := w4.alloc (.cells #[.int .i64 h0, .int .i64 h1, .int .i64 h2] 42)))
          have HKA : Hid (Kp w2 (w4.alloc (.cells #[.int .i64 h0, .int .i64 h1, .int .i64 h2] 42))) := HK4.out.alloc _
          have HOA : Hid (OwnH (w4.alloc (.cells #[.int .i64 h0, .int .i64 h1, .int .i64 h2] 42)) w2.heap.size u6 hs) := own_kp HO4.out (Kp.self.alloc _)
          obtain ⟨c1, c2, c3⟩ := hbx
          have hhl : hs.length ≤ 16 := by rw [HT.out.1]; omega
          go_wp2_with (at_builtin; refine app_cells (w0 := w2) w2.heap.size rfl (.tmp 31) (.tmp 33) 74 42 (.agg #[.int .i64 0, .int .i64 0, .int .i64 0]) 3 24 rfl Try.underlying74 info42 rfl (by omega) (by omega) _ _ (hdC hs) [.int .i64 h0, .int .i64 h1, .int .i64 h2] rfl (by rw [World.size_alloc]; rfl) rfl (by simp [Value.oneCell']) HOA.out HKA.out HKA.out.size (by omega) ?_)
          intro v1 w6 hown hk6 _ _
          have HO6 : Hid (OwnH w6 w2.heap.size v1 (hs ++ [(h0, h1, h2)])) := by
            unfold Hid OwnH
            rw [List.length_append, hdC_app]
            exact hown
          have HT6 : Hid (HdsTo L xs (k + 1) (hs ++ [(h0, h1, h2)])) := HT.out.snoc (by rw [HXX.out]; exact HRD.out)
          have HK6 : Hid (Kp w2 w6) := hk6
          clear hown hk6 HOA HKA c1 c2 c3
          go_wp2
          go_roundw
          case rel => exact ⟨k + 1, _, by omega, by go_num, HO6, HT6, HK6⟩
          case measure => simp [intOf]; omega
      · obtain rfl : k = N := by omega
        go_wp2
        go_ret2
        exact ⟨_, hs, true, rfl, own_lower HO.out HKS.out, .inl ⟨rfl, HFF.out, by rw [Int.toNat_natCast, Int.toNat_natCast]; exact HT.out⟩, HK2.out.trans HK3.out⟩
end Go.Proofs.Ytpmbjlmplfejgaa
