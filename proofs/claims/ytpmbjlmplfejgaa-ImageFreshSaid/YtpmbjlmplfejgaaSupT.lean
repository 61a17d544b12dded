/- A superblock of which a bit is turned is none: the plain law; and the statement SuperTurned as a walk. -/
import Derived.Test.YtpmbjlmplfejgaaSupF
import Derived.Test.YtpmbjlmplfejgaaHeadG
import Derived.Laws.CopyOwn
import Derived.Deep.DeepMust
namespace Go.Proofs.Ytpmbjlmplfejgaa
open Go.RowKit
set_option linter.unusedVariables false
set_option linter.unusedSimpArgs false

theorem superL_len (s l r : Int) : (superL s l r).length = 7 := by simp [superL]
theorem sealI_rng (xs : List Int) (h : xs.length ≤ 10000) : 0 ≤ sealI xs ∧ sealI xs < 18446744073709551616 := by
  have := crc_rng xs
  unfold sealI
  omega
theorem turned_not {s l r s' l' r' : Int} {xs : List Int} {n k b : Nat} (hg : gMay s l r = true) (hx : xs.take 8 = superW s l r) (hk : k < 8) (hb : b < 64) :
    ¬ Valid (xs.set k (bits .xor .u64 (xs[k]?.getD 0) (2 ^ b))) n s' l' r' := by
  rintro ⟨h1, h2, h3, h4⟩
  have hxk : xs[k]?.getD 0 = (superW s l r)[k]?.getD 0 := by rw [← hx, take_getD _ _ _ hk]
  rw [List.take_set, hx, hxk, superW_eq hg, superW_eq h1, List.set_append, superL_len] at h3
  have hlen : (superL s l r ++ [sealI (superL s l r)]).length = 8 := by simp [superL]
  by_cases h7 : k < 7
  · rw [if_pos h7] at h3
    obtain ⟨e1, e2⟩ := List.append_inj h3 (by rw [List.length_set, superL_len, superL_len])
    have e3 : sealI (superL s l r) = sealI (superL s' l' r') := by simpa using e2
    rw [← e1] at e3
    have e4 : (superL s l r ++ [sealI (superL s l r)])[k]?.getD 0 = (superL s l r)[k]?.getD 0 := by rw [List.getElem?_append_left (by rw [superL_len]; exact h7)]
    rw [e4] at e3
    exact sealI_turn (superL s l r) k b (superL_rng hg) (by rw [superL_len]; exact h7) hb e3
  · obtain rfl : k = 7 := by omega
    rw [if_neg (by decide)] at h3
    obtain ⟨e1, e2⟩ := List.append_inj h3 (by rw [superL_len, superL_len])
    have e4 : (superL s l r ++ [sealI (superL s l r)])[7]?.getD 0 = sealI (superL s l r) := by rw [List.getElem?_append_right (by rw [superL_len]; decide)]; simp [superL_len]
    rw [e4, ← e1] at e2
    have e3 : bits .xor .u64 (sealI (superL s l r)) (2 ^ b) = sealI (superL s l r) := by simpa using e2
    have hr := sealI_rng (superL s l r) (by rw [superL_len]; decide)
    exact xor_turn_ne _ b hb hr.1 hr.2 e3
theorem cut_not {s l r s' l' r' : Int} {xs : List Int} {n m : Nat} (hv : Valid xs n s l r) (hm : m < n) : ¬ Valid (xs.take m) m s' l' r' := by
  intro h
  have h2 := h.word2
  have k2 := hv.word2
  rw [take_getD _ _ _ (by have := h.2.1; omega)] at h2
  have := may_bd h.1
  have := may_bd hv.1
  obtain ⟨rfl, rfl, rfl⟩ : s' = s ∧ l' = l ∧ r' = r := by omega
  have := h.2.2.2
  have := hv.2.2.2
  omega
theorem own_cells {w : World} {base g : Nat} {e : TypeId} {k : IntKind} {xs : List Int} (h : w.heap[g]? = some (.cells (nums k xs).toArray e (0, 0))) (hb : base ≤ g) (hl : xs.length ≤ maxLen) :
    w.ownsRow base e 1 (.slice (some ⟨g, 0, none⟩) xs.length xs.length) xs.length (nums k xs) :=
  ⟨by simp [nums], .inr ⟨g, xs.length, _, rfl, hb, h, Nat.le_refl _, hl, by simp [nums], by simp [nums, List.take_of_length_le]⟩⟩
theorem made_nums (n : Nat) : madeCells #[.int .u64 0] n = (nums .u64 (List.replicate n 0)).toArray := by
  apply Array.ext
  · simp [madeCells, nums]
  · intro i h1 h2
    simp [madeCells, nums, Nat.mod_one]
theorem splice_nums (xs : List Int) (n : Nat) (h : xs.length = 8) (hn : 8 ≤ n) : splice (nums .u64 (List.replicate n 0)) 0 (nums .u64 xs) = nums .u64 (xs ++ List.replicate (n - 8) 0) := by
  simp [splice, nums, h, List.map_replicate, List.drop_replicate]

set_option maxHeartbeats 1000000 in
set_option maxRecDepth 100000 in
theorem law_SuperTurned (s l r : Int) (at_ bit : Nat) (more : Int) (w : World) (ha : at_ < 256) (hb : bit < 256) (hm : -128 ≤ more ∧ more < 128) :
    Calls Try.prog 13 #[geo s l r, .int .u8 at_, .int .u8 bit, .int .i8 more] w fun e w' => e = .returned (.bool true) ∧ Kp w w' := by
  cases hg : gMay s l r
  · go_enter Try.func13, Try.ntmps13
    go_wp2_with fail
    refine (alive07 _).mono ?_
    rintro e w1 ⟨rfl, hk⟩
    obtain ⟨g0, g1, g2⟩ := box3 hk
    have HK1 := Lib.hid (Kp.trans (Kp.self.alloc _) hk)
    clear hk
    go_wp2_with fail
    refine (rmay_any s l r _).mono ?_
    rw [hg]
    rintro e w2 ⟨rfl, hk2⟩
    have a0 := hk2.cell g0
    have a1 := hk2.cell g1
    have a2 := hk2.cell g2
    have HK2 := Lib.hid (Kp.trans HK1.out hk2)
    clear hk2 g0 g1 g2
    go_wp2_with fail
    refine (swrite_any s l r _).mono ?_
    rintro e w3 ⟨v, rfl, hown, hk3⟩
    obtain ⟨B, d, hve, hrb⟩ := own_rd hown
    have hz : (superW s l r).length = 0 := by unfold superW; rw [hg]; rfl
    rw [hz] at hve
    subst hve
    have HK3 := Lib.hid (Kp.trans HK2.out hk3)
    clear hk3 hown hrb
    go_wp2
    go_ret
    exact ⟨rfl, HK3.out⟩
  · obtain ⟨n, hn, hn0, hn1⟩ : ∃ n : Nat, (n : Int) = total s l ∧ 128 ≤ n ∧ n ≤ 2000 := by
      have := may_bd hg
      refine ⟨(total s l).toNat, ?_, ?_, ?_⟩ <;> unfold total <;> omega
    obtain ⟨i28, hi, hz, hsz, hby⟩ := info_parts info28
    have HN := Lib.hid hn
    have HG := Lib.hid hg
    clear hn
    go_enter Try.func13, Try.ntmps13
    go_wp2_with fail
    refine (alive07 _).mono ?_
    rintro e w1 ⟨rfl, hk⟩
    obtain ⟨g0, g1, g2⟩ := box3 hk
    have HK1 := Lib.hid (Kp.trans (Kp.self.alloc _) hk)
    clear hk
    go_wp2_with fail
    refine (rmay_any s l r _).mono ?_
    rw [hg]
    rintro e w2 ⟨rfl, hk2⟩
    have a0 := hk2.cell g0
    have a1 := hk2.cell g1
    have a2 := hk2.cell g2
    have HK2 := Lib.hid (Kp.trans HK1.out hk2)
    clear hk2 g0 g1 g2
    go_wp2_with fail
    refine (rtotal_any s l r _).mono ?_
    rw [hg, if_pos rfl, ← HN.out]
    rintro e w3 ⟨rfl, hk3⟩
    have b0 := hk3.cell a0
    have b1 := hk3.cell a1
    have b2 := hk3.cell a2
    have HK3 := Lib.hid (Kp.trans HK2.out hk3)
    clear hk3 a0 a1 a2 hg
    have e0 : ∀ o, (w3.alloc o).cell? ⟨w.heap.size, 0, none⟩ = some (.int .i64 s) := fun o => (Kp.self.alloc o).cell b0
    have e1 : ∀ o, (w3.alloc o).cell? ⟨w.heap.size, 1, none⟩ = some (.int .i64 l) := fun o => (Kp.self.alloc o).cell b1
    have e2 : ∀ o, (w3.alloc o).cell? ⟨w.heap.size, 2, none⟩ = some (.int .i64 r) := fun o => (Kp.self.alloc o).cell b2
    have HGS : Hid (w.heap.size < w3.heap.size) := by have := World.block_lt_of_cell? _ _ b0; exact this
    go_wp2_with (at_make; refine wpList_make_row _ rfl _ _ 27 rfl 28 i28 (.int .u64 0) Try.underlying27 hi hz hsz rfl .i64 .i64 n rfl rfl (by rw [hby]; omega) (by omega) ?_)
    have hh : (w3.alloc (.cells (madeCells #[.int .u64 0] n) 28)).heap[w3.heap.size]? = some (.cells (nums .u64 (List.replicate n 0)).toArray 28 (0, 0)) := by rw [made_nums]; exact heap_alloc_new _ _
    have e0' := e0 (.cells (madeCells #[.int .u64 0] n) 28)
    have e1' := e1 (.cells (madeCells #[.int .u64 0] n) 28)
    have e2' := e2 (.cells (madeCells #[.int .u64 0] n) 28)
    have HK4 : Hid (Kp w (w3.alloc (.cells (madeCells #[.int .u64 0] n) 28))) := Kp.alloc HK3.out _
    clear e0 e1 e2 b0 b1 b2
    generalize w3.alloc (.cells (madeCells #[.int .u64 0] n) 28) = w4 at *
    generalize w3.heap.size = g at *
    refine (swrite_any s l r _).mono ?_
    rintro e w5 ⟨v, rfl, hown, hk5⟩
    have hgl : g < w4.heap.size := by
      have := (Array.getElem?_eq_some_iff.1 hh).1
      exact this
    have hh5 : w5.heap[g]? = some (.cells (nums .u64 (List.replicate n 0)).toArray 28 (0, 0)) := (hk5.block g hgl).trans hh
    obtain ⟨B, d, hve, hrb⟩ := own_rd hown
    have hl8 := superW_len8 HG.out
    rw [hl8] at hve hrb
    subst hve
    have HRB := Lib.hid hrb
    have b0 := hk5.cell e0'
    have b1 := hk5.cell e1'
    have b2 := hk5.cell e2'
    have HK5 := Lib.hid (Kp.trans HK4.out hk5)
    have HL8 := Lib.hid hl8
    clear hk5 hown hrb hl8 hh e0' e1' e2' hgl
    have hsz1 : (Try.prog.info? 28).map (·.size) = some 1 := by kernel_rfl
    go_wp2_with ((refine wpList_copy_splice rfl (.tmp 29) (.tmp 31) 27 27 rfl 28 Try.underlying27 hsz1 (some ⟨g, 0, none⟩) B n n 8 d rfl rfl g 0 (nums .u64 (List.replicate n 0)) 28 hh5 (nums .u64 (superW s l r)) ?d1 ?d2 ?d3 ?d4 g w5 (Below.refl _ _) (Nat.le_refl _) ?_))
    case d1 => rw [nums_length, HL8.out]; show 8 = min 8 n; omega
    case d2 =>
      intro _
      obtain ⟨ad, rfl, _⟩ := HRB.out.at_ 0 (by decide)
      refine ⟨ad, rfl, fun j v hv => ?_⟩
      have hj : j < (superW s l r).length := by
        rcases Nat.lt_or_ge j (superW s l r).length with h' | h'
        · exact h'
        · rw [nums, List.getElem?_map, List.getElem?_eq_none h'] at hv; cases hv
      obtain ⟨ad', e', hc⟩ := HRB.out.at_ j (by rw [← HL8.out]; exact hj)
      injection e' with e'
      subst e'
      rw [hc]
      rw [nums, List.getElem?_map, List.getElem?_eq_getElem hj] at hv
      rw [List.getElem?_eq_getElem hj]
      simpa using hv
    case d3 => rw [nums_length, nums_length, HL8.out, List.length_replicate]; omega
    case d4 =>
      intro u hu
      simp only [nums, List.mem_map] at hu
      obtain ⟨y, _, rfl⟩ := hu
      rfl
    intro w6 HC HB
    have hxl : (superW s l r ++ List.replicate (n - 8) 0).length = n := by rw [List.length_append, HL8.out, List.length_replicate]; omega
    have hx8 : (superW s l r ++ List.replicate (n - 8) 0).take 8 = superW s l r := by rw [← HL8.out, List.take_left]
    have hxr : InR 18446744073709551616 (superW s l r ++ List.replicate (n - 8) 0) := by
      refine InR.app ?_ ?_
      · rw [superW_eq HG.out]
        refine (superL_rng HG.out).app ?_
        intro z hz
        simp only [List.mem_cons, List.not_mem_nil, or_false] at hz
        subst hz
        exact sealI_rng _ (by rw [superL_len]; decide)
      · intro z hz
        have := List.eq_of_mem_replicate hz
        omega
    have HC2 : Hid (w6.heap[g]? = some (.cells (nums .u64 (superW s l r ++ List.replicate (n - 8) 0)).toArray 28 (0, 0))) := by
      have h := HC.out
      rw [splice_nums _ n HL8.out (by omega)] at h
      exact h
    have HV : Hid (Valid (superW s l r ++ List.replicate (n - 8) 0) n s l r) := ⟨HG.out, by omega, hx8, HN.out⟩
    have HXL := Lib.hid hxl
    have HXR := Lib.hid hxr
    have HX8 := Lib.hid hx8
    have HK6 : Hid (Kp w w6) := Below.trans HK5.out (HB.mono (Nat.le_of_lt HGS.out))
    have c0 : w6.cell? ⟨w.heap.size, 0, none⟩ = some (.int .i64 s) := (HB.cell HGS.out).trans b0
    have c1 : w6.cell? ⟨w.heap.size, 1, none⟩ = some (.int .i64 l) := (HB.cell HGS.out).trans b1
    have c2 : w6.cell? ⟨w.heap.size, 2, none⟩ = some (.int .i64 r) := (HB.cell HGS.out).trans b2
    clear hxl hxr hx8 HC HB b0 b1 b2 hh5
    generalize superW s l r ++ List.replicate (n - 8) 0 = xs at *
    have HO : Hid (w6.ownsRow w.heap.size 28 1 (.slice (some ⟨g, 0, none⟩) n n) n (nums .u64 xs)) := by
      have h := own_cells (w := w6) (base := w.heap.size) (e := 28) (k := .u64) HC2.out (Nat.le_of_lt HGS.out) (by rw [HXL.out]; simp only [maxLen]; omega)
      rwa [HXL.out] at h
    have HRD : Hid (RdI w6 .u64 (some ⟨g, 0, none⟩) n xs) := by
      obtain ⟨A, c, e, h⟩ := own_rd HO.out
      injection e with e1 e2 e3
      subst e1
      exact h
    go_wp2_with fail
    refine (sread_any _ n n xs _ HRD.out HXR.out (Nat.le_refl _) (by simp only [maxLen]; omega)).mono ?_
    rintro e w7 ⟨⟨⟨s', l', r'⟩, ok, rfl, hrd⟩, hk7⟩
    obtain ⟨he, rfl⟩ := RdSup.uniq (h' := (s, l, r)) (ok' := true) hrd (.inl ⟨rfl, HV.out⟩)
    simp only [Prod.mk.injEq] at he
    obtain ⟨rfl, rfl, rfl⟩ := he
    have HV7 := Lib.hid HV.out
    have k0 : ∀ o, (w7.alloc o).cell? ⟨w.heap.size, 0, none⟩ = some (.int .i64 s') := fun o => (Kp.self.alloc o).cell (hk7.cell c0)
    have k1 : ∀ o, (w7.alloc o).cell? ⟨w.heap.size, 1, none⟩ = some (.int .i64 l') := fun o => (Kp.self.alloc o).cell (hk7.cell c1)
    have k2 : ∀ o, (w7.alloc o).cell? ⟨w.heap.size, 2, none⟩ = some (.int .i64 r') := fun o => (Kp.self.alloc o).cell (hk7.cell c2)
    have HO7 : Hid (∀ o, (w7.alloc o).ownsRow w.heap.size 28 1 (.slice (some ⟨g, 0, none⟩) n n) n (nums .u64 xs)) := fun o => own_kp HO.out (hk7.alloc o)
    have HK7 : Hid (∀ o, Kp w (w7.alloc o)) := fun o => (Kp.trans HK6.out hk7).alloc o
    have q0 := box_cell (w := w7) (cs := #[.int .i64 s', .int .i64 l', .int .i64 r']) (t := 38) (fr := (0, 0)) Kp.self 0 rfl
    have q1 := box_cell (w := w7) (cs := #[.int .i64 s', .int .i64 l', .int .i64 r']) (t := 38) (fr := (0, 0)) Kp.self 1 rfl
    have q2 := box_cell (w := w7) (cs := #[.int .i64 s', .int .i64 l', .int .i64 r']) (t := 38) (fr := (0, 0)) Kp.self 2 rfl
    have HG7 : Hid (g < w7.heap.size) := Nat.lt_of_lt_of_le (Array.getElem?_eq_some_iff.1 HC2.out).1 hk7.size
    clear hrd hk7 c0 c1 c2
    have re1 : supErr true = 0 := rfl
    have re0 : supErr false = 11 := rfl
    dsimp only [geov]
    rw [re1]
    have k0 := k0 (.cells #[.int .i64 s', .int .i64 l', .int .i64 r'] 38)
    have k1 := k1 (.cells #[.int .i64 s', .int .i64 l', .int .i64 r'] 38)
    have k2 := k2 (.cells #[.int .i64 s', .int .i64 l', .int .i64 r'] 38)
    have HO8 := Lib.hid (HO7.out (.cells #[.int .i64 s', .int .i64 l', .int .i64 r'] 38))
    have HK8 := Lib.hid (HK7.out (.cells #[.int .i64 s', .int .i64 l', .int .i64 r'] 38))
    clear HO7 HK7 HK6 HC2 HO HRD
    have hv : 0 ≤ xs[at_ % 8]?.getD 0 ∧ xs[at_ % 8]?.getD 0 < 18446744073709551616 := HXR.out.getD (by decide) _
    have hwp := wrap_pow (bit % 64) (by omega)
    have hk8 : at_ % 8 < 8 := Nat.mod_lt _ (by decide)
    have hk8n : at_ % 8 < n := by omega
    generalize hWe : w7.alloc (.cells #[.int .i64 s', .int .i64 l', .int .i64 r'] 38) = w8 at *
    have hgs := HGS.out
    have hg7 := HG7.out
    have HYR : Hid (InR 18446744073709551616 (xs.set (at_ % 8) (bits .xor .u64 (xs[at_ % 8]?.getD 0) (2 ^ (bit % 64))))) := HXR.out.set _ _ (xor64_rng _ _)
    have HNV : Hid (∀ a b c, ¬ Valid (xs.set (at_ % 8) (bits .xor .u64 (xs[at_ % 8]?.getD 0) (2 ^ (bit % 64)))) n a b c) := fun a b c => turned_not HG.out HX8.out hk8 (by omega)
    rcases (by omega : (¬ 0 < (n : Int) + more) ∨ (0 < (n : Int) + more ∧ ¬ (n : Int) + more < n) ∨ (0 < (n : Int) + more ∧ (n : Int) + more < n)) with h1 | ⟨h1, h2⟩ | ⟨h1, h2⟩
    · have hl := own_get HO8.out (at_ % 8) hk8n
      have hf : w8.frozen? ⟨g, at_ % 8, none⟩ = false := HO8.out.frozenAt _
      have HO9 := Lib.hid (ownI_set HO8.out (at_ % 8) hk8n (bits .xor .u64 (xs[at_ % 8]?.getD 0) (2 ^ (bit % 64))))
      have HK9 := Lib.hid (HK8.out.set ⟨g, at_ % 8, none⟩ (.int .u64 (bits .xor .u64 (xs[at_ % 8]?.getD 0) (2 ^ (bit % 64)))) (Nat.le_of_lt HGS.out))
      have far : ∀ (v : Value) (x i : Nat), x ≠ g → (w8.setCell ⟨g, at_ % 8, none⟩ v).cell? ⟨x, i, none⟩ = w8.cell? ⟨x, i, none⟩ := fun v x i h => cell_set_ne _ _ _ _ (by simpa using h)
      have z0 := (far (.int .u64 (bits .xor .u64 (xs[at_ % 8]?.getD 0) (2 ^ (bit % 64)))) w.heap.size 0 (by omega)).trans k0
      have z1 := (far (.int .u64 (bits .xor .u64 (xs[at_ % 8]?.getD 0) (2 ^ (bit % 64)))) w.heap.size 1 (by omega)).trans k1
      have z2 := (far (.int .u64 (bits .xor .u64 (xs[at_ % 8]?.getD 0) (2 ^ (bit % 64)))) w.heap.size 2 (by omega)).trans k2
      have y0 := (far (.int .u64 (bits .xor .u64 (xs[at_ % 8]?.getD 0) (2 ^ (bit % 64)))) w7.heap.size 0 (by omega)).trans q0
      have y1 := (far (.int .u64 (bits .xor .u64 (xs[at_ % 8]?.getD 0) (2 ^ (bit % 64)))) w7.heap.size 1 (by omega)).trans q1
      have y2 := (far (.int .u64 (bits .xor .u64 (xs[at_ % 8]?.getD 0) (2 ^ (bit % 64)))) w7.heap.size 2 (by omega)).trans q2
      clear far
      go_wp2_with fail
      have HRD9 : RdI (w8.setCell ⟨g, at_ % 8, none⟩ (.int .u64 (bits .xor .u64 (xs[at_ % 8]?.getD 0) (2 ^ (bit % 64))))) .u64 (some ⟨g, 0, none⟩) n (xs.set (at_ % 8) (bits .xor .u64 (xs[at_ % 8]?.getD 0) (2 ^ (bit % 64)))) := by
        obtain ⟨A, c, e, h⟩ := own_rd HO9.out
        injection e with e1 e2 e3
        subst e1
        exact h
      refine (sread_any _ n n _ _ HRD9 HYR.out (Nat.le_refl _) (by simp only [maxLen]; omega)).mono ?_
      rintro e wX ⟨⟨⟨xa, xb, xc⟩, ok, rfl, hr2⟩, hkX⟩
      obtain rfl : ok = false := by
        rcases hr2 with ⟨_, hv2⟩ | ⟨h, _⟩
        · exact absurd hv2 (HNV.out _ _ _)
        · exact h
      have HKX := Lib.hid (Kp.trans HK9.out hkX)
      have z0 : ∀ o, (wX.alloc o).cell? _ = _ := fun o => (Kp.self.alloc o).cell (hkX.cell z0)
      have z1 : ∀ o, (wX.alloc o).cell? _ = _ := fun o => (Kp.self.alloc o).cell (hkX.cell z1)
      have z2 : ∀ o, (wX.alloc o).cell? _ = _ := fun o => (Kp.self.alloc o).cell (hkX.cell z2)
      have y0 : ∀ o, (wX.alloc o).cell? _ = _ := fun o => (Kp.self.alloc o).cell (hkX.cell y0)
      have y1 : ∀ o, (wX.alloc o).cell? _ = _ := fun o => (Kp.self.alloc o).cell (hkX.cell y1)
      have y2 : ∀ o, (wX.alloc o).cell? _ = _ := fun o => (Kp.self.alloc o).cell (hkX.cell y2)
      clear hkX hr2 HRD9 hl hf
      dsimp only [geov]
      rw [re0]
      go_wp2
      go_ret
      exact ⟨rfl, HKX.out.alloc _⟩
    · have hl := own_get HO8.out (at_ % 8) hk8n
      have hf : w8.frozen? ⟨g, at_ % 8, none⟩ = false := HO8.out.frozenAt _
      have HO9 := Lib.hid (ownI_set HO8.out (at_ % 8) hk8n (bits .xor .u64 (xs[at_ % 8]?.getD 0) (2 ^ (bit % 64))))
      have HK9 := Lib.hid (HK8.out.set ⟨g, at_ % 8, none⟩ (.int .u64 (bits .xor .u64 (xs[at_ % 8]?.getD 0) (2 ^ (bit % 64)))) (Nat.le_of_lt HGS.out))
      have far : ∀ (v : Value) (x i : Nat), x ≠ g → (w8.setCell ⟨g, at_ % 8, none⟩ v).cell? ⟨x, i, none⟩ = w8.cell? ⟨x, i, none⟩ := fun v x i h => cell_set_ne _ _ _ _ (by simpa using h)
      have z0 := (far (.int .u64 (bits .xor .u64 (xs[at_ % 8]?.getD 0) (2 ^ (bit % 64)))) w.heap.size 0 (by omega)).trans k0
      have z1 := (far (.int .u64 (bits .xor .u64 (xs[at_ % 8]?.getD 0) (2 ^ (bit % 64)))) w.heap.size 1 (by omega)).trans k1
      have z2 := (far (.int .u64 (bits .xor .u64 (xs[at_ % 8]?.getD 0) (2 ^ (bit % 64)))) w.heap.size 2 (by omega)).trans k2
      have y0 := (far (.int .u64 (bits .xor .u64 (xs[at_ % 8]?.getD 0) (2 ^ (bit % 64)))) w7.heap.size 0 (by omega)).trans q0
      have y1 := (far (.int .u64 (bits .xor .u64 (xs[at_ % 8]?.getD 0) (2 ^ (bit % 64)))) w7.heap.size 1 (by omega)).trans q1
      have y2 := (far (.int .u64 (bits .xor .u64 (xs[at_ % 8]?.getD 0) (2 ^ (bit % 64)))) w7.heap.size 2 (by omega)).trans q2
      clear far
      go_wp2_with fail
      have HRD9 : RdI (w8.setCell ⟨g, at_ % 8, none⟩ (.int .u64 (bits .xor .u64 (xs[at_ % 8]?.getD 0) (2 ^ (bit % 64))))) .u64 (some ⟨g, 0, none⟩) n (xs.set (at_ % 8) (bits .xor .u64 (xs[at_ % 8]?.getD 0) (2 ^ (bit % 64)))) := by
        obtain ⟨A, c, e, h⟩ := own_rd HO9.out
        injection e with e1 e2 e3
        subst e1
        exact h
      refine (sread_any _ n n _ _ HRD9 HYR.out (Nat.le_refl _) (by simp only [maxLen]; omega)).mono ?_
      rintro e wX ⟨⟨⟨xa, xb, xc⟩, ok, rfl, hr2⟩, hkX⟩
      obtain rfl : ok = false := by
        rcases hr2 with ⟨_, hv2⟩ | ⟨h, _⟩
        · exact absurd hv2 (HNV.out _ _ _)
        · exact h
      have HKX := Lib.hid (Kp.trans HK9.out hkX)
      have z0 : ∀ o, (wX.alloc o).cell? _ = _ := fun o => (Kp.self.alloc o).cell (hkX.cell z0)
      have z1 : ∀ o, (wX.alloc o).cell? _ = _ := fun o => (Kp.self.alloc o).cell (hkX.cell z1)
      have z2 : ∀ o, (wX.alloc o).cell? _ = _ := fun o => (Kp.self.alloc o).cell (hkX.cell z2)
      have y0 : ∀ o, (wX.alloc o).cell? _ = _ := fun o => (Kp.self.alloc o).cell (hkX.cell y0)
      have y1 : ∀ o, (wX.alloc o).cell? _ = _ := fun o => (Kp.self.alloc o).cell (hkX.cell y1)
      have y2 : ∀ o, (wX.alloc o).cell? _ = _ := fun o => (Kp.self.alloc o).cell (hkX.cell y2)
      clear hkX hr2 HRD9 hl hf
      dsimp only [geov]
      rw [re0]
      go_wp2
      go_ret
      exact ⟨rfl, HKX.out.alloc _⟩
    · obtain ⟨m, hmN⟩ : ∃ m : Nat, (m : Int) = (n : Int) + more := ⟨((n : Int) + more).toNat, by omega⟩
      have ht : ((n : Int) + more).toNat = m := by omega
      have hmn : m < n := by omega
      have HRM : Hid (RdI w8 .u64 (some ⟨g, 0, none⟩) m (xs.take m)) := by
        refine ⟨by rw [List.length_take, HXL.out]; omega, by omega, fun _ => ⟨_, rfl, fun j hj => ?_⟩⟩
        rw [add0, take_getD _ _ _ hj]
        exact own_get HO8.out j (by omega)
      have HNM : Hid (∀ a b c, ¬ Valid (xs.take m) m a b c) := fun a b c => cut_not HV7.out hmn
      have HXM : Hid (InR 18446744073709551616 (xs.take m)) := HXR.out.take m
      go_wp2_with fail
      refine (sread_any _ m n _ _ HRM.out HXM.out (by omega) (by simp only [maxLen]; omega)).mono ?_
      rintro e wA ⟨⟨⟨ya, yb, yc⟩, ok, rfl, hr3⟩, hkA⟩
      obtain rfl : ok = false := by
        rcases hr3 with ⟨_, hv2⟩ | ⟨h, _⟩
        · exact absurd hv2 (HNM.out _ _ _)
        · exact h
      have kk0 := Kp.cell (hkA.alloc (.cells #[.int .i64 ya, .int .i64 yb, .int .i64 yc] 38)) k0
      have kk1 := Kp.cell (hkA.alloc (.cells #[.int .i64 ya, .int .i64 yb, .int .i64 yc] 38)) k1
      have kk2 := Kp.cell (hkA.alloc (.cells #[.int .i64 ya, .int .i64 yb, .int .i64 yc] 38)) k2
      have qq0 := Kp.cell (hkA.alloc (.cells #[.int .i64 ya, .int .i64 yb, .int .i64 yc] 38)) q0
      have qq1 := Kp.cell (hkA.alloc (.cells #[.int .i64 ya, .int .i64 yb, .int .i64 yc] 38)) q1
      have qq2 := Kp.cell (hkA.alloc (.cells #[.int .i64 ya, .int .i64 yb, .int .i64 yc] 38)) q2
      have HOB := Lib.hid (own_kp HO8.out (hkA.alloc (.cells #[.int .i64 ya, .int .i64 yb, .int .i64 yc] 38)))
      have HKB := Lib.hid (Kp.trans HK8.out (hkA.alloc (.cells #[.int .i64 ya, .int .i64 yb, .int .i64 yc] 38)))
      clear hkA hr3 k0 k1 k2 q0 q1 q2
      dsimp only [geov]
      rw [re0]
      have hl := own_get HOB.out (at_ % 8) hk8n
      have hf : (wA.alloc (.cells #[.int .i64 ya, .int .i64 yb, .int .i64 yc] 38)).frozen? ⟨g, at_ % 8, none⟩ = false := HOB.out.frozenAt _
      have HO9 := Lib.hid (ownI_set HOB.out (at_ % 8) hk8n (bits .xor .u64 (xs[at_ % 8]?.getD 0) (2 ^ (bit % 64))))
      have HK9 := Lib.hid (HKB.out.set ⟨g, at_ % 8, none⟩ (.int .u64 (bits .xor .u64 (xs[at_ % 8]?.getD 0) (2 ^ (bit % 64)))) (Nat.le_of_lt HGS.out))
      have far : ∀ (v : Value) (x i : Nat), x ≠ g → ((wA.alloc (.cells #[.int .i64 ya, .int .i64 yb, .int .i64 yc] 38)).setCell ⟨g, at_ % 8, none⟩ v).cell? ⟨x, i, none⟩ = (wA.alloc (.cells #[.int .i64 ya, .int .i64 yb, .int .i64 yc] 38)).cell? ⟨x, i, none⟩ := fun v x i h => cell_set_ne _ _ _ _ (by simpa using h)
      have z0 := (far (.int .u64 (bits .xor .u64 (xs[at_ % 8]?.getD 0) (2 ^ (bit % 64)))) w.heap.size 0 (by omega)).trans kk0
      have z1 := (far (.int .u64 (bits .xor .u64 (xs[at_ % 8]?.getD 0) (2 ^ (bit % 64)))) w.heap.size 1 (by omega)).trans kk1
      have z2 := (far (.int .u64 (bits .xor .u64 (xs[at_ % 8]?.getD 0) (2 ^ (bit % 64)))) w.heap.size 2 (by omega)).trans kk2
      have y0 := (far (.int .u64 (bits .xor .u64 (xs[at_ % 8]?.getD 0) (2 ^ (bit % 64)))) w7.heap.size 0 (by omega)).trans qq0
      have y1 := (far (.int .u64 (bits .xor .u64 (xs[at_ % 8]?.getD 0) (2 ^ (bit % 64)))) w7.heap.size 1 (by omega)).trans qq1
      have y2 := (far (.int .u64 (bits .xor .u64 (xs[at_ % 8]?.getD 0) (2 ^ (bit % 64)))) w7.heap.size 2 (by omega)).trans qq2
      clear far
      go_wp2_with fail
      have HRD9 : RdI ((wA.alloc (.cells #[.int .i64 ya, .int .i64 yb, .int .i64 yc] 38)).setCell ⟨g, at_ % 8, none⟩ (.int .u64 (bits .xor .u64 (xs[at_ % 8]?.getD 0) (2 ^ (bit % 64))))) .u64 (some ⟨g, 0, none⟩) n (xs.set (at_ % 8) (bits .xor .u64 (xs[at_ % 8]?.getD 0) (2 ^ (bit % 64)))) := by
        obtain ⟨A, c, e, h⟩ := own_rd HO9.out
        injection e with e1 e2 e3
        subst e1
        exact h
      refine (sread_any _ n n _ _ HRD9 HYR.out (Nat.le_refl _) (by simp only [maxLen]; omega)).mono ?_
      rintro e wX ⟨⟨⟨xa, xb, xc⟩, ok, rfl, hr2⟩, hkX⟩
      obtain rfl : ok = false := by
        rcases hr2 with ⟨_, hv2⟩ | ⟨h, _⟩
        · exact absurd hv2 (HNV.out _ _ _)
        · exact h
      have HKX := Lib.hid (Kp.trans HK9.out hkX)
      have z0 : ∀ o, (wX.alloc o).cell? _ = _ := fun o => (Kp.self.alloc o).cell (hkX.cell z0)
      have z1 : ∀ o, (wX.alloc o).cell? _ = _ := fun o => (Kp.self.alloc o).cell (hkX.cell z1)
      have z2 : ∀ o, (wX.alloc o).cell? _ = _ := fun o => (Kp.self.alloc o).cell (hkX.cell z2)
      have y0 : ∀ o, (wX.alloc o).cell? _ = _ := fun o => (Kp.self.alloc o).cell (hkX.cell y0)
      have y1 : ∀ o, (wX.alloc o).cell? _ = _ := fun o => (Kp.self.alloc o).cell (hkX.cell y1)
      have y2 : ∀ o, (wX.alloc o).cell? _ = _ := fun o => (Kp.self.alloc o).cell (hkX.cell y2)
      clear hkX hr2 HRD9 hl hf
      dsimp only [geov]
      rw [re0]
      go_wp2
      go_ret
      exact ⟨rfl, HKX.out.alloc _⟩
theorem law_SuperTurned' (s l r at_ bit more : Int) (w : World) (ha : (Lit.int .u8 at_).wf = true) (hb : (Lit.int .u8 bit).wf = true) (hm : (Lit.int .i8 more).wf = true) :
    Calls Try.prog 13 #[geo s l r, .int .u8 at_, .int .u8 bit, .int .i8 more] w fun e w' => e = .returned (.bool true) ∧ Kp w w' := by
  obtain ⟨h0, h1⟩ := wf_u8 ha
  obtain ⟨h2, h3⟩ := wf_u8 hb
  obtain ⟨a, rfl⟩ := Int.eq_ofNat_of_zero_le h0
  obtain ⟨b, rfl⟩ := Int.eq_ofNat_of_zero_le h2
  exact law_SuperTurned s l r a b more w (by omega) (by omega) (wf_i8 hm)
end Go.Proofs.Ytpmbjlmplfejgaa
