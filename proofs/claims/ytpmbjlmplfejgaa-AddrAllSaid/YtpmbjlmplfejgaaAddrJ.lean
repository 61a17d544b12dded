/- Blocks, plainly. -/
import Derived.Test.YtpmbjlmplfejgaaAddrI
namespace Go.Proofs.Ytpmbjlmplfejgaa
open Go.RowKit
set_option linter.unusedVariables false
set_option linter.unusedSimpArgs false

/-- Block x of span i. -/
def IsBlk (s l r : Int) (hs : List Hd) (i x : Nat) (many size : Nat) : Prop :=
  wholeV s l r hs i = true ∧ shapeV (hdAt hs i) = ((many : Int), (size : Int)) ∧ x < many
def blkOf (s l : Int) (i x size : Nat) : Blk := (16 + 40 * l + 8 * s + 64 * (i : Int) + (x : Int) * size, (i : Int), (x : Int), (size : Int))
theorem spanV_whole {s l r : Int} {hs : List Hd} {i : Nat} (h : wholeV s l r hs i = true) : spanV s l r i = 16 + 40 * l + 8 * s + 64 * (i : Int) := by
  obtain ⟨h1, h2, h3, _⟩ := whole_parts h
  unfold spanV
  rw [if_pos ⟨(right_all h1).1, h2, h3⟩]
theorem mem_spanB {s l r : Int} {hs : List Hd} {i : Nat} {b : Blk} : b ∈ spanB s l r hs i ↔ ∃ x many size, IsBlk s l r hs i x many size ∧ b = blkOf s l i x size := by
  unfold spanB
  constructor
  · intro h
    by_cases hw : wholeV s l r hs i = true
    · rw [if_pos hw] at h
      obtain ⟨many, size, hsh, hm0, hz0, _⟩ := shape_of hw
      rw [Int.toNat_natCast] at hsh
      rw [hsh] at h
      simp only [spanBTo, List.mem_map, List.mem_range, Int.toNat_natCast] at h
      obtain ⟨x, hx, rfl⟩ := h
      refine ⟨x, many, size, ⟨hw, hsh, hx⟩, ?_⟩
      rw [hsh, spanV_whole hw]
      rfl
    · rw [if_neg hw] at h
      simp at h
  · rintro ⟨x, many, size, ⟨hw, hsh, hx⟩, rfl⟩
    rw [if_pos hw, hsh]
    simp only [spanBTo, List.mem_map, List.mem_range, Int.toNat_natCast]
    refine ⟨x, hx, ?_⟩
    rw [hsh, spanV_whole hw]
    rfl
theorem mem_allTo {s l r : Int} {hs : List Hd} {n : Nat} {b : Blk} : b ∈ allTo s l r hs n ↔ ∃ i x many size, i < n ∧ IsBlk s l r hs i x many size ∧ b = blkOf s l i x size := by
  unfold allTo
  rw [List.mem_flatMap]
  constructor
  · rintro ⟨i, hi, h⟩
    obtain ⟨x, many, size, h1, h2⟩ := mem_spanB.1 h
    exact ⟨i, x, many, size, by simpa using hi, h1, h2⟩
  · rintro ⟨i, x, many, size, hi, h1, h2⟩
    exact ⟨i, by simpa using hi, mem_spanB.2 ⟨x, many, size, h1, h2⟩⟩
theorem blkAt_mem {bs : List Blk} {j : Nat} (hj : j < bs.length) : blkAt bs j ∈ bs := by
  unfold blkAt
  rw [List.getElem?_eq_getElem hj]
  exact List.getElem_mem hj
theorem blkAt_eq {bs : List Blk} {j : Nat} (hj : j < bs.length) : blkAt bs j = bs[j] := by
  unfold blkAt
  rw [List.getElem?_eq_getElem hj]
  rfl
theorem mem_blkAt {bs : List Blk} {b : Blk} (h : b ∈ bs) : ∃ j, j < bs.length ∧ blkAt bs j = b := by
  obtain ⟨j, hj, e⟩ := List.getElem_of_mem h
  exact ⟨j, hj, by rw [blkAt_eq hj, e]⟩
/-- what a block's place is -/
theorem IsBlk.facts {s l r : Int} {hs : List Hd} {i x many size : Nat} (h : IsBlk s l r hs i x many size) : gMay s l r = true ∧ (i : Int) < s ∧ i < hs.length ∧ (hs.length : Int) = s ∧ 0 < many ∧ 2 ≤ size ∧ size ≤ 256 ∧ x * size < 64 ∧ x * size + size ≤ many * size ∧
    ((many * size = 64 ∧ size ≤ 16) ∨ (many = 1 ∧ x = 0 ∧ (hdAt hs i).1 = 2 ∧ (size : Int) = (hdAt hs i).2.2 * 64)) := by
  obtain ⟨hw, hsh, hx⟩ := h
  obtain ⟨h1, h2, h3, h4, _⟩ := whole_parts hw
  obtain ⟨m', z', hsh', hm0, hz0, hcase⟩ := shape_of hw
  rw [Int.toNat_natCast] at hsh' h4 hcase
  rw [hsh] at hsh'
  simp only [Prod.mk.injEq] at hsh'
  obtain rfl : many = m' := by omega
  obtain rfl : size = z' := by omega
  have hmul : x * size + size ≤ many * size := by
    have : (x + 1) * size ≤ many * size := Nat.mul_le_mul_right _ (by omega)
    rw [Nat.add_mul, Nat.one_mul] at this
    exact this
  refine ⟨(right_all h1).1, h3, h4, (right_all h1).2.1, hm0, hz0, ?_, ?_, hmul, ?_⟩
  · rcases hcase with ⟨_, _, h⟩ | ⟨_, _, _, h, _⟩ <;> omega
  · rcases hcase with ⟨_, h, h'⟩ | ⟨h, _, _, _, _⟩
    · omega
    · obtain rfl : x = 0 := by omega
      omega
  · rcases hcase with ⟨_, h, h'⟩ | ⟨h, h2', h3', _, _⟩
    · exact .inl ⟨h, h'⟩
    · exact .inr ⟨h, by omega, h2', h3'⟩
theorem where_heap_eq {s l r a : Int} {i f : Nat} (hg : gMay s l r = true) (hi : (i : Int) < s) (hf : f < 64) (ha : a = 16 + 40 * l + 8 * s + 64 * (i : Int) + f) : whereV s l r a = (4, (i : Int), (f : Int)) := by
  have hm := may_bd hg
  unfold whereV
  rw [if_neg (by rw [hg]; simp; omega), if_neg (by omega), if_neg (by omega), if_neg (by omega), if_neg (by omega), if_neg (by omega), if_pos (by omega)]
  refine Prod.ext rfl (Prod.ext ?_ ?_) <;> simp only <;> omega
theorem blk_where {s l r : Int} {hs : List Hd} {i x many size : Nat} (h : IsBlk s l r hs i x many size) : whereV s l r (blkOf s l i x size).1 = (4, (i : Int), ((x * size : Nat) : Int)) := by
  obtain ⟨h1, h2, _, _, _, _, _, h3, _⟩ := h.facts
  exact where_heap_eq h1 h2 h3 (by simp [blkOf])
theorem IsBlk.uniq {s l r : Int} {hs : List Hd} {i x many size i' x' many' size' : Nat} (h : IsBlk s l r hs i x many size) (k : IsBlk s l r hs i' x' many' size') (e : (blkOf s l i x size).1 = (blkOf s l i' x' size').1) : i = i' ∧ x = x' ∧ size = size' := by
  have h1 := blk_where h
  have k1 := blk_where k
  rw [e, k1] at h1
  simp only [Prod.mk.injEq] at h1
  obtain rfl : i' = i := by omega
  have hs1 := h.2.1
  rw [k.2.1] at hs1
  simp only [Prod.mk.injEq] at hs1
  obtain rfl : size' = size := by omega
  have hz := h.facts.2.2.2.2.2.1
  have hm : x' * size' = x * size' := by omega
  exact ⟨rfl, (Nat.eq_of_mul_eq_mul_right (by omega) hm).symm, rfl⟩
theorem spot_blk {s l r : Int} {hs : List Hd} {i x many size : Nat} (h : IsBlk s l r hs i x many size) : spotV s l r hs (blkOf s l i x size).1 = some ((i : Int), (x : Int), (size : Int)) := by
  unfold spotV
  rw [blk_where h]
  simp only [Int.toNat_natCast]
  rw [h.2.1]
  have hz := h.facts.2.2.2.2.2.1
  rw [if_pos ⟨trivial, h.1, by simp⟩]
  simp only [Option.some.injEq, Prod.mk.injEq, true_and, and_true]
  exact_mod_cast Nat.mul_div_cancel x (by omega)
theorem spot_some {s l r : Int} {hs : List Hd} {a : Int} {p : Int × Int × Int} (h : spotV s l r hs a = some p) : ∃ i x many size, IsBlk s l r hs i x many size ∧ blkOf s l i x size = (a, p) := by
  unfold spotV at h
  split at h
  · rename_i hc
    obtain ⟨h1, h2, h3⟩ := hc
    obtain ⟨i, f, hw, hf, his⟩ := where4 h1
    rw [hw] at h h2 h3
    simp only [Int.toNat_natCast] at h h2 h3
    obtain ⟨many, size, hsh, hm0, hz0, hcase⟩ := shape_of h2
    rw [Int.toNat_natCast] at hsh hcase
    rw [hsh] at h h3
    simp only [Option.some.injEq] at h
    have h3' : f % size = 0 := by
      have h4 : (f : Int) % (size : Int) = 0 := h3
      exact_mod_cast h4
    have hq : f / size * size = f := Nat.div_mul_cancel (Nat.dvd_of_mod_eq_zero h3')
    have hx : f / size < many := by
      rcases hcase with ⟨_, hc, _⟩ | ⟨hc, _, h64, _⟩
      · exact Nat.div_lt_of_lt_mul (by rw [Nat.mul_comm]; omega)
      · have hb := h64
        have := (whole_parts h2).2.2.2.2.2
        rw [Int.toNat_natCast] at this
        have : f < size := by omega
        rw [Nat.div_eq_of_lt this]
        omega
    refine ⟨i, f / size, many, size, ⟨h2, hsh, hx⟩, ?_⟩
    rw [← h]
    have hg := (right_all (whole_parts h2).1).1
    have hm := may_bd hg
    have ha : a = 16 + 40 * l + 8 * s + 64 * (i : Int) + f := by
      have hw' := hw
      unfold whereV at hw'
      split at hw'
      · simp at hw'
      split at hw'
      · simp at hw'
      split at hw'
      · simp at hw'
      split at hw'
      · simp at hw'
      split at hw'
      · simp at hw'
      split at hw'
      · simp at hw'
      split at hw'
      · simp only [Prod.mk.injEq] at hw'
        omega
      · simp at hw'
    have hq' : ((f / size : Nat) : Int) * (size : Int) = (f : Int) := by exact_mod_cast hq
    unfold blkOf
    rw [hq', ← ha]
    simp
  · cases h
/-- Find and Spot say the same. -/
theorem spot_find {s l r : Int} {hs : List Hd} {n : Nat} {a k : Int} (hn : hs.length = n) (h : FindP (allTo s l r hs n) a k) :
    (k = -1 ∧ spotV s l r hs a = none) ∨ ∃ j : Nat, k = j ∧ j < (allTo s l r hs n).length ∧ spotV s l r hs a = some (blkAt (allTo s l r hs n) j).2 := by
  rcases h with ⟨rfl, h⟩ | ⟨j, rfl, hj, he, _⟩
  · left
    refine ⟨rfl, ?_⟩
    cases hs' : spotV s l r hs a
    · rfl
    · rename_i p
      obtain ⟨i, x, many, size, hb, e⟩ := spot_some hs'
      have hi : i < n := by rw [← hn]; exact hb.facts.2.2.1
      obtain ⟨j, hj, hj2⟩ := mem_blkAt (mem_allTo.2 ⟨i, x, many, size, hi, hb, rfl⟩)
      exact absurd (by rw [hj2, e]) (h j hj)
  · right
    refine ⟨j, rfl, hj, ?_⟩
    obtain ⟨i, x, many, size, hi, hb, e⟩ := mem_allTo.1 (blkAt_mem hj)
    rw [← he, e, spot_blk hb]
    rfl
/-- A match of a span and an index is the block that addr.Addr tells. -/
def MatchB (b : Blk) (i x : Int) : Prop := b.2.1 = i ∧ b.2.2.1 = x
theorem addr_match {s l r : Int} {hs : List Hd} {n : Nat} {b : Blk} {i x : Int} (h : b ∈ allTo s l r hs n) (hm : MatchB b i x) : addrV s l r hs i x = b.1 := by
  obtain ⟨i', x', many, size, hi, hb, rfl⟩ := mem_allTo.1 h
  obtain ⟨h1, h2⟩ := hm
  simp only [blkOf] at h1 h2
  subst h1
  subst h2
  unfold addrV
  rw [if_pos]
  · rw [Int.toNat_natCast, hb.2.1, spanV_whole hb.1]
    rfl
  · rw [Int.toNat_natCast, hb.2.1]
    exact ⟨hb.1, by omega, by simp only; have := hb.2.2; omega⟩
theorem addr_none {s l r : Int} {hs : List Hd} {n : Nat} {i x : Int} (hn : hs.length = n) (h : ∀ b ∈ allTo s l r hs n, ¬ MatchB b i x) : addrV s l r hs i x = -1 := by
  unfold addrV
  rw [if_neg]
  rintro ⟨h1, h2, h3⟩
  obtain ⟨q1, q2, q3, q4, _⟩ := whole_parts h1
  obtain ⟨many, size, hsh, _⟩ := shape_of h1
  rw [hsh] at h3
  obtain ⟨i', rfl⟩ := Int.eq_ofNat_of_zero_le q2
  obtain ⟨x', rfl⟩ := Int.eq_ofNat_of_zero_le h2
  rw [Int.toNat_natCast] at hsh q4
  refine h (blkOf s l i' x' size) (mem_allTo.2 ⟨i', x', many, size, by omega, ⟨h1, hsh, by simp only at h3; omega⟩, rfl⟩) ⟨rfl, rfl⟩

/-- Blocks rise, and have nothing in common. -/
def Apart (b c : Blk) : Prop := b.1 + b.2.2.2 ≤ c.1
theorem spanB_apart (s l r : Int) (hs : List Hd) (i : Nat) : (spanB s l r hs i).Pairwise Apart := by
  unfold spanB
  split
  · rename_i hw
    obtain ⟨many, size, hsh, hm0, hz0, _⟩ := shape_of hw
    rw [Int.toNat_natCast] at hsh
    rw [hsh]
    unfold spanBTo
    rw [hsh, List.pairwise_map]
    refine List.Pairwise.imp ?_ List.pairwise_lt_range
    intro a b hab
    unfold Apart
    simp only
    have h1 : (a + 1) * size ≤ b * size := Nat.mul_le_mul_right _ hab
    have h2 : ((a + 1) * size : Nat) = a * size + size := by rw [Nat.add_mul, Nat.one_mul]
    have e1 : (a : Int) * size = ((a * size : Nat) : Int) := by simp
    have e2 : (b : Int) * size = ((b * size : Nat) : Int) := by simp
    rw [e1, e2]
    omega
  · exact List.Pairwise.nil
theorem large_skip {s l r : Int} {hs : List Hd} {i j : Nat} {m : Nat} (hi : wholeV s l r hs i = true) (h2 : (hdAt hs i).1 = 2) (hm : (hdAt hs i).2.2 = (m : Int)) (hj : wholeV s l r hs j = true) (hij : i < j) : i + m ≤ j := by
  rcases Nat.lt_or_ge j (i + m) with h | h
  · exfalso
    obtain ⟨p1, p2, p3, p4, p5, p6⟩ := whole_parts hi
    rw [Int.toNat_natCast] at p4 p5 p6
    have hrun : runFrom 0 0 ((hs.drop i).take m) = true := by
      simp only [wholeV, Bool.and_eq_true, Bool.or_eq_true, decide_eq_true_eq, Int.toNat_natCast] at hi
      obtain ⟨_, _, h4⟩ := hi
      rcases h4 with h4 | h4
      · omega
      · have := h4.2.2
        rw [hm, Int.toNat_natCast] at this
        exact this
    have hlen := (right_all p1).2.1
    have hmore := (run_large (i := i) (m := m) (by omega) (by omega) h2 hm).1 hrun (j - i) (by omega) (by omega)
    rw [show i + (j - i) = j by omega] at hmore
    obtain ⟨_, _, _, _, _, q6⟩ := whole_parts hj
    rw [Int.toNat_natCast] at q6
    omega
  · exact h
theorem allTo_apart (s l r : Int) (hs : List Hd) (n : Nat) : (allTo s l r hs n).Pairwise Apart := by
  induction n with
  | zero => exact List.Pairwise.nil
  | succ n ih =>
    rw [allTo_succ, List.pairwise_append]
    refine ⟨ih, spanB_apart s l r hs n, ?_⟩
    intro b hb c hc
    obtain ⟨i, x, many, size, hi, hbb, rfl⟩ := mem_allTo.1 hb
    obtain ⟨y, many', size', hcc, rfl⟩ := mem_spanB.1 hc
    obtain ⟨_, _, _, _, _, _, _, hx, hx2, hcase⟩ := hbb.facts
    unfold Apart blkOf
    simp only
    have e1 : (x : Int) * size = ((x * size : Nat) : Int) := by simp
    have e2 : (y : Int) * size' = ((y * size' : Nat) : Int) := by simp
    rw [e1, e2]
    rcases hcase with ⟨h1, _⟩ | ⟨h1, h2, h3, h4⟩
    · omega
    · obtain ⟨m, hm⟩ := Int.eq_ofNat_of_zero_le (show 0 ≤ (hdAt hs i).2.2 by omega)
      have := large_skip hbb.1 h3 hm hcc.1 hi
      subst h2
      omega
end Go.Proofs.Ytpmbjlmplfejgaa
