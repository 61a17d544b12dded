/- Heads are read. -/
import Derived.Test.YtpmbjlmplfejgaaHeadC
import Derived.Test.YtpmbjlmplfejgaaLibB
namespace Go.Proofs.Ytpmbjlmplfejgaa
open Go.RowKit
set_option linter.unusedVariables false
set_option linter.unusedSimpArgs false

/-- The fields of a head lie in its word. -/
theorem wordV_fields {k c n x : Int} (hg : hMay k c n = true) (hx : wordV k c n = x) : 0 ≤ x ∧ x < 18446744073709551616 ∧ x % 4294967296 / 256 = 0 ∧ x % 4294967296 % 4 = k ∧ x % 4294967296 / 4 % 8 = c ∧ x % 4294967296 / 32 % 8 = n := by
  have hm := hMay_bd hg
  have hc := crc_rng [hX k c n]
  unfold wordV at hx
  by_cases hk : k = 0
  · subst hk
    have : c = 0 ∧ n = 0 := by simpa [hMay] using hg
    simp at hx
    omega
  · rw [if_pos (by simp [hg, hk])] at hx
    generalize crc [hX k c n] = s at *
    unfold hX at hx
    omega
/-- What a word is read as. -/
def RdHead (x : Int) (h : Int × Int × Int) (ok : Bool) : Prop := (ok = true ∧ hMay h.1 h.2.1 h.2.2 = true ∧ wordV h.1 h.2.1 h.2.2 = x) ∨ (ok = false ∧ h = (0, 0, 0) ∧ ∀ k c n, hMay k c n = true → wordV k c n ≠ x)
theorem RdHead.uniq {x : Int} {h h' : Int × Int × Int} {ok ok' : Bool} (a : RdHead x h ok) (b : RdHead x h' ok') : h = h' ∧ ok = ok' := by
  obtain ⟨k, c, n⟩ := h
  obtain ⟨k', c', n'⟩ := h'
  rcases a with ⟨rfl, a1, a2⟩ | ⟨rfl, a1, a2⟩ <;> rcases b with ⟨rfl, b1, b2⟩ | ⟨rfl, b1, b2⟩
  · have h1 := wordV_fields a1 a2
    have h2 := wordV_fields b1 b2
    dsimp only at h1 h2
    refine ⟨?_, rfl⟩
    simp only [Prod.mk.injEq]
    omega
  · exact absurd a2 (b2 _ _ _ a1)
  · exact absurd b2 (a2 _ _ _ b1)
  · rw [a1, b1]; exact ⟨rfl, rfl⟩
abbrev hdv (h : Int × Int × Int) : Value := hd h.1 h.2.1 h.2.2
def rdErr (ok : Bool) : Int := if ok then 0 else 11

theorem split233 (y : Int) : splitTo [2, 3, 3] y 3 = [y % 4, y / 4 % 8, y / 32 % 8] := by
  simp [splitTo, sumTo, List.range_succ]

set_option maxHeartbeats 1000000 in
set_option maxRecDepth 100000 in
theorem hread_any (x : Int) (w : World) (hx0 : 0 ≤ x) (hx1 : x < 18446744073709551616) :
    Calls Try.prog 37 #[.int .u64 x] w fun e w' => (∃ h ok, e = .returned (.tuple #[hdv h, .int .i64 (rdErr ok)]) ∧ RdHead x h ok) ∧ Kp w w' := by
  go_enter Try.func37, Try.ntmps37
  go_wp2_with fail
  refine (widths101 _).mono ?_
  rintro e w1 ⟨ad, rfl, hrd, hk⟩
  have HRD := Lib.hid hrd
  have HK1 := Lib.hid hk
  clear hrd hk
  go_wp2_with fail
  refine (get_any _ _ _ _ (by omega) (by omega) (by omega) (by omega) (by omega)).mono ?_
  rintro e w2 ⟨rfl, hk2⟩
  have hy : x / 2 ^ (0 : Int).toNat % 2 ^ (32 : Int).toNat = x % 4294967296 := by simp
  rw [hy]
  have HY : Hid (0 ≤ x % 4294967296 ∧ x % 4294967296 < 4294967296) := by constructor <;> omega
  have HX : Hid (0 ≤ x ∧ x < 18446744073709551616) := ⟨hx0, hx1⟩
  have HRD2 := Lib.hid (HRD.out.kp hk2)
  have HK2 := Lib.hid (Kp.trans HK1.out hk2)
  clear hy hk2 HRD HK1
  generalize hye : x % 4294967296 = y at *
  have HYE := Lib.hid hye
  clear hye
  go_wp2_with fail
  refine (psplit_any _ _ _ _ _ _ (by decide) HRD2.out f233 (by decide) (by decide) HY.out.1 (by have := HY.out.2; omega)).mono ?_
  rintro e w3 ⟨hp0, hp1, hk3⟩
  have hs : y / 2 ^ (sumTo [2, 3, 3] 3).toNat = y / 256 := by rw [show (sumTo [2, 3, 3] 3).toNat = 8 by decide]; simp
  rw [hs] at hp0 hp1
  by_cases hyz : y / 256 = 0
  · obtain ⟨v, rfl, hown⟩ := hp0 hyz
    clear hp1
    rw [split233] at hown
    have hown : w3.ownsRow w2.heap.size 28 1 v 3 (nums .u64 [y % 4, y / 4 % 8, y / 32 % 8]) := hown
    obtain ⟨g, cap, rfl, hb, hg⟩ := hown.form (by decide)
    have h0 : w3.cell? ⟨g, 0, none⟩ = some (.int .u64 (y % 4)) := own_get hown 0 (by decide)
    have h1 : w3.cell? ⟨g, 1, none⟩ = some (.int .u64 (y / 4 % 8)) := own_get hown 1 (by decide)
    have h2 : w3.cell? ⟨g, 2, none⟩ = some (.int .u64 (y / 32 % 8)) := own_get hown 2 (by decide)
    have HK3 : Hid (Kp w w3) := Kp.trans (Kp.self.alloc _) (Kp.trans HK2.out hk3)
    have HKB := Lib.hid (Kp.trans HK2.out hk3)
    have r3 : w3.cell? ⟨w.heap.size, 0, none⟩ = some (.int .i64 0) ∧ w3.cell? ⟨w.heap.size, 1, none⟩ = some (.int .i64 0) ∧ w3.cell? ⟨w.heap.size, 2, none⟩ = some (.int .i64 0) := box3 (Kp.trans HK2.out hk3)
    have b0 : 0 ≤ y % 4 ∧ y % 4 < 4 := by omega
    have b1 : 0 ≤ y / 4 % 8 ∧ y / 4 % 8 < 8 := by omega
    have b2 : 0 ≤ y / 32 % 8 ∧ y / 32 % 8 < 8 := by omega
    have HE : Hid (∀ h ok, RdHead x h ok → h = (y % 4, y / 4 % 8, y / 32 % 8) ∨ ok = false) := by
      intro h ok hr
      rcases hr with ⟨_, a1, a2⟩ | ⟨rfl, _⟩
      · have := wordV_fields a1 a2
        have e := HYE.out
        obtain ⟨k, c, n⟩ := h
        dsimp only at this
        simp only [Prod.mk.injEq]
        omega
      · exact .inr rfl
    generalize y % 4 = k at *
    generalize y / 4 % 8 = c at *
    generalize y / 32 % 8 = n at *
    clear hown hk3 hp0 hs
    have l0 := fun W : KW w3 => W.cell h0
    have l1 := fun W : KW w3 => W.cell h1
    have l2 := fun W : KW w3 => W.cell h2
    obtain ⟨r0, r1, r2⟩ := r3
    have L0 := Lib.hid r0
    have L1 := Lib.hid r1
    have L2 := Lib.hid r2
    clear r0 r1 r2
    go_wp2_with fail
    clear l0 l1 l2
    go_region
    go_wp2_with fail
    refine (word_any k c n _).mono ?_
    rintro e w4 ⟨rfl, hk4⟩
    obtain ⟨q0, q1, q2⟩ := box3 (w := w3) (a := .int .i64 k) (b := .int .i64 c) (c := .int .i64 n) (t := 42) (Kp.trans (Kp.self.drew) hk4)
    have r0 := Kp.cell (Kp.trans ((Kp.self.alloc _).drew) hk4) L0.out
    have r1 := Kp.cell (Kp.trans ((Kp.self.alloc _).drew) hk4) L1.out
    have r2 := Kp.cell (Kp.trans ((Kp.self.alloc _).drew) hk4) L2.out
    obtain ⟨f0, f1, f2⟩ := boxf3 (Kp.trans HKB.out (Kp.trans ((Kp.self.alloc _).drew) hk4))
    have HK4 : Hid (Kp w w4) := Kp.trans HK3.out (Kp.trans ((Kp.self.alloc _).drew) hk4)
    clear hk4 HK3 h0 h1 h2
    cases hg : hMay k c n
    · have HN : Hid (∀ k c n, hMay k c n = true → wordV k c n ≠ x) := by
        intro k' c' n' a1 a2
        rcases HE.out (k', c', n') true (.inl ⟨rfl, a1, a2⟩) with h | h
        · simp only [Prod.mk.injEq] at h
          obtain ⟨rfl, rfl, rfl⟩ := h
          rw [hg] at a1
          cases a1
        · cases h
      go_wp2
      obtain ⟨c0, c1, c2, hk4⟩ := set3 (.int .i64 0) (.int .i64 0) (.int .i64 0) HK4.out (Nat.le_refl _) r0 r1 r2
      generalize ((w4.setCell ⟨w.heap.size, 0, none⟩ (.int .i64 0)).setCell ⟨w.heap.size, 1, none⟩ (.int .i64 0)).setCell ⟨w.heap.size, 2, none⟩ (.int .i64 0) = w5 at *
      exact bodyPost_ret (v := .tuple #[hd 0 0 0, .int .i64 11]) (by simp [results, Try.results37, go_sem, c0, c1, c2]) rfl ⟨⟨(0, 0, 0), false, rfl, .inr ⟨rfl, rfl, HN.out⟩⟩, hk4⟩
    · by_cases hx : wordV k c n = x
      · rw [hx]
        go_wp2
        obtain ⟨c0, c1, c2, hk4⟩ := set3 (.int .i64 k) (.int .i64 c) (.int .i64 n) HK4.out (Nat.le_refl _) r0 r1 r2
        generalize ((w4.setCell ⟨w.heap.size, 0, none⟩ (.int .i64 k)).setCell ⟨w.heap.size, 1, none⟩ (.int .i64 c)).setCell ⟨w.heap.size, 2, none⟩ (.int .i64 n) = w5 at *
        exact bodyPost_ret (v := .tuple #[hd k c n, .int .i64 0]) (by simp [results, Try.results37, go_sem, c0, c1, c2]) rfl ⟨⟨(k, c, n), true, rfl, .inl ⟨rfl, hg, hx⟩⟩, hk4⟩
      · have HN : Hid (∀ k c n, hMay k c n = true → wordV k c n ≠ x) := by
          intro k' c' n' a1 a2
          rcases HE.out (k', c', n') true (.inl ⟨rfl, a1, a2⟩) with h | h
          · simp only [Prod.mk.injEq] at h
            obtain ⟨rfl, rfl, rfl⟩ := h
            exact hx a2
          · cases h
        have hxb : (wordV k c n == x) = false := by simp [hx]
        generalize wordV k c n = v at *
        go_wp2
        obtain ⟨c0, c1, c2, hk4⟩ := set3 (.int .i64 0) (.int .i64 0) (.int .i64 0) HK4.out (Nat.le_refl _) r0 r1 r2
        generalize ((w4.setCell ⟨w.heap.size, 0, none⟩ (.int .i64 0)).setCell ⟨w.heap.size, 1, none⟩ (.int .i64 0)).setCell ⟨w.heap.size, 2, none⟩ (.int .i64 0) = w5 at *
        exact bodyPost_ret (v := .tuple #[hd 0 0 0, .int .i64 11]) (by simp [results, Try.results37, go_sem, c0, c1, c2]) rfl ⟨⟨(0, 0, 0), false, rfl, .inr ⟨rfl, rfl, HN.out⟩⟩, hk4⟩
  · have he := hp1 hyz
    subst he
    clear hp0 hp1
    have HN : Hid (∀ k c n, hMay k c n = true → wordV k c n ≠ x) := by
      intro k c n a1 a2
      have := wordV_fields a1 a2
      have e := HYE.out
      omega
    have HK3 : Hid (Kp w w3) := Kp.trans (Kp.self.alloc _) (Kp.trans HK2.out hk3)
    obtain ⟨r0, r1, r2⟩ := box3 (Kp.trans HK2.out hk3)
    obtain ⟨f0, f1, f2⟩ := boxf3 (Kp.trans HK2.out hk3)
    clear hk3
    go_wp2
    obtain ⟨c0, c1, c2, hk4⟩ := set3 (.int .i64 0) (.int .i64 0) (.int .i64 0) HK3.out (Nat.le_refl _) r0 r1 r2
    generalize ((w3.setCell ⟨w.heap.size, 0, none⟩ (.int .i64 0)).setCell ⟨w.heap.size, 1, none⟩ (.int .i64 0)).setCell ⟨w.heap.size, 2, none⟩ (.int .i64 0) = w4 at *
    exact bodyPost_ret (v := .tuple #[hd 0 0 0, .int .i64 11]) (by simp [results, Try.results37, go_sem, c0, c1, c2]) rfl ⟨⟨(0, 0, 0), false, rfl, .inr ⟨rfl, rfl, HN.out⟩⟩, hk4⟩
end Go.Proofs.Ytpmbjlmplfejgaa
