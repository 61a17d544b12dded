/- Logs, plainly: their words, and what words are read as. -/
import Derived.Test.YtpmbjlmplfejgaaEntB
import Derived.Test.YtpmbjlmplfejgaaSumP
namespace Go.Proofs.Ytpmbjlmplfejgaa
open Go.RowKit
set_option linter.unusedVariables false
set_option linter.unusedSimpArgs false

def entOk (e : Ent) : Bool := decide (0 ≤ e.1) && decide (e.1 < 16384)
def entMay (es : List Ent) : Bool := decide (1 ≤ es.length) && decide (es.length ≤ 16) && es.all entOk
def InE (es : List Ent) : Prop := ∀ e ∈ es, (-9223372036854775808 ≤ e.1 ∧ e.1 < 9223372036854775808) ∧ 0 ≤ e.2 ∧ e.2 < 18446744073709551616
theorem InE.at_ {es : List Ent} (h : InE es) (j : Nat) : (-9223372036854775808 ≤ (entAt es j).1 ∧ (entAt es j).1 < 9223372036854775808) ∧ 0 ≤ (entAt es j).2 ∧ (entAt es j).2 < 18446744073709551616 := by
  by_cases hj : j < es.length
  · exact h _ (entAt_mem hj)
  · unfold entAt
    rw [List.getElem?_eq_none (by omega)]
    simp
theorem entMay_at {es : List Ent} (h : entMay es = true) (j : Nat) : 0 ≤ (entAt es j).1 ∧ (entAt es j).1 < 16384 := by
  by_cases hj : j < es.length
  · simp only [entMay, Bool.and_eq_true, List.all_eq_true, entOk, decide_eq_true_eq] at h
    exact h.2 _ (entAt_mem hj)
  · unfold entAt
    rw [List.getElem?_eq_none (by omega)]
    simp
theorem entMay_len {es : List Ent} (h : entMay es = true) : 1 ≤ es.length ∧ es.length ≤ 16 := by
  simp only [entMay, Bool.and_eq_true, decide_eq_true_eq] at h
  exact h.1

def entW1 (es : List Ent) (i : Nat) : List Int := [(entAt es i).1 + 4294967296 * (i : Int), (entAt es i).2]
def entWTo (es : List Ent) (j : Nat) : List Int := (List.range j).flatMap (entW1 es)
def entW (es : List Ent) : List Int := entWTo es es.length
theorem entWTo_succ (es : List Ent) (j : Nat) : entWTo es (j + 1) = entWTo es j ++ entW1 es j := by
  unfold entWTo
  rw [List.range_succ]
  simp
theorem entWTo_len (es : List Ent) (j : Nat) : (entWTo es j).length = 2 * j := by
  induction j with
  | zero => rfl
  | succ j ih => rw [entWTo_succ, List.length_append, ih]; simp [entW1]; omega
theorem entW_len (es : List Ent) : (entW es).length = 2 * es.length := entWTo_len _ _
theorem entWTo_get (es : List Ent) (j i : Nat) (h : i < j) : (entWTo es j)[2 * i]?.getD 0 = (entAt es i).1 + 4294967296 * (i : Int) ∧ (entWTo es j)[2 * i + 1]?.getD 0 = (entAt es i).2 := by
  induction j with
  | zero => omega
  | succ j ih =>
    rw [entWTo_succ]
    by_cases hi : i < j
    · rw [List.getElem?_append_left (by rw [entWTo_len]; omega), List.getElem?_append_left (by rw [entWTo_len]; omega)]
      exact ih hi
    · obtain rfl : i = j := by omega
      rw [List.getElem?_append_right (by rw [entWTo_len]; omega), List.getElem?_append_right (by rw [entWTo_len]; omega), entWTo_len, show 2 * i - 2 * i = 0 by omega, show 2 * i + 1 - 2 * i = 1 by omega]
      exact ⟨rfl, rfl⟩
theorem entWTo_rng (es : List Ent) (he : InE es) (hm : ∀ i, 0 ≤ (entAt es i).1 ∧ (entAt es i).1 < 16384) (j : Nat) (hj : j ≤ 16) : InR 18446744073709551616 (entWTo es j) := by
  induction j with
  | zero => intro x hx; simp [entWTo] at hx
  | succ j ih =>
    rw [entWTo_succ]
    refine (ih (by omega)).app ?_
    intro x hx
    have h1 := he.at_ j
    have h2 := hm j
    simp only [entW1, List.mem_cons, List.not_mem_nil, or_false] at hx
    rcases hx with rfl | rfl
    · omega
    · exact h1.2
theorem entW_rng {es : List Ent} (he : InE es) (hm : entMay es = true) : InR 18446744073709551616 (entW es) := entWTo_rng es he (entMay_at hm) _ (entMay_len hm).2

/-- n entries read out of words. -/
def entsOf (xs : List Int) (n : Nat) : List Ent := (List.range n).map fun i => (xs[2 * i]?.getD 0 % 4294967296, xs[2 * i + 1]?.getD 0)
theorem entsOf_len (xs : List Int) (n : Nat) : (entsOf xs n).length = n := by simp [entsOf]
theorem entsOf_succ (xs : List Int) (n : Nat) : entsOf xs (n + 1) = entsOf xs n ++ [(xs[2 * n]?.getD 0 % 4294967296, xs[2 * n + 1]?.getD 0)] := by
  unfold entsOf
  rw [List.range_succ]
  simp
theorem entsOf_at (xs : List Int) (n i : Nat) (h : i < n) : entAt (entsOf xs n) i = (xs[2 * i]?.getD 0 % 4294967296, xs[2 * i + 1]?.getD 0) := by
  unfold entAt entsOf
  rw [List.getElem?_map, List.getElem?_range h]
  rfl
theorem entsOf_rng (xs : List Int) (n : Nat) (hx : InR 18446744073709551616 xs) : InE (entsOf xs n) := by
  intro e he
  simp only [entsOf, List.mem_map] at he
  obtain ⟨i, _, rfl⟩ := he
  have := hx.getD (by decide) (2 * i + 1)
  refine ⟨?_, this⟩
  simp only
  omega
theorem ent_ext {a b : List Ent} (hl : a.length = b.length) (h : ∀ j, j < a.length → entAt a j = entAt b j) : a = b := by
  apply List.ext_getElem hl
  intro j h1 h2
  have := h j h1
  rwa [entAt_eq h1, entAt_eq h2] at this
theorem take_get {l : List Int} {n i : Nat} (h : i < n) : (l.take n)[i]?.getD 0 = l[i]?.getD 0 := take_getD _ _ _ h

/-- The log that these words, and this word, are of. -/
def Logs (sl : Int) (xs : List Int) (es : List Ent) : Prop := entMay es = true ∧ sl = sealI (entW es) ∧ 2 * es.length ≤ xs.length ∧ xs.take (2 * es.length) = entW es
def RdLog (sl : Int) (xs : List Int) (es : List Ent) (ok : Bool) : Prop :=
  (sl = 0 ∧ es = [] ∧ ok = true) ∨ (sl ≠ 0 ∧ ok = true ∧ Logs sl xs es) ∨ (sl ≠ 0 ∧ ok = false ∧ es = [] ∧ ∀ l, ¬ Logs sl xs l)
def manyI (sl : Int) : Nat := if sl / 4294967296 % 2147483648 % 2 = 0 ∧ sl / 4294967296 % 2147483648 ≤ 32 then (sl / 4294967296 % 2147483648 / 2).toNat else 0
theorem manyI_le (sl : Int) : manyI sl ≤ 16 := by
  unfold manyI
  split <;> omega
theorem manyI_seal (xs : List Int) (n : Nat) (hn : n ≤ 16) (hl : xs.length = 2 * n) : manyI (sealI xs) = n := by
  have h := crc_rng xs
  have e : sealI xs / 4294967296 % 2147483648 = 2 * (n : Int) := by
    unfold sealI
    rw [hl]
    omega
  unfold manyI
  rw [e, if_pos (by omega)]
  omega
theorem Logs.many {sl : Int} {xs : List Int} {es : List Ent} (h : Logs sl xs es) : manyI sl = es.length := by
  rw [h.2.1]
  exact manyI_seal _ _ (entMay_len h.1).2 (entW_len es)
theorem Logs.get {sl : Int} {xs : List Int} {es : List Ent} (h : Logs sl xs es) (i : Nat) (hi : i < es.length) : xs[2 * i]?.getD 0 = (entAt es i).1 + 4294967296 * (i : Int) ∧ xs[2 * i + 1]?.getD 0 = (entAt es i).2 := by
  have := entWTo_get es es.length i hi
  rw [← take_get (n := 2 * es.length) (i := 2 * i) (by omega), ← take_get (n := 2 * es.length) (i := 2 * i + 1) (by omega), h.2.2.2]
  exact this
theorem Logs.ents {sl : Int} {xs : List Int} {es : List Ent} (h : Logs sl xs es) : entsOf xs es.length = es := by
  refine ent_ext (entsOf_len _ _) ?_
  rw [entsOf_len]
  intro i hi
  rw [entsOf_at _ _ _ hi]
  obtain ⟨h1, h2⟩ := h.get i hi
  have := entMay_at h.1 i
  rw [h1, h2]
  refine Prod.ext ?_ rfl
  simp only
  omega
theorem Logs.uniq {sl : Int} {xs : List Int} {es fs : List Ent} (h : Logs sl xs es) (k : Logs sl xs fs) : es = fs := by
  rw [← h.ents, ← k.ents, ← h.many, ← k.many]
theorem RdLog.uniq {sl : Int} {xs : List Int} {es fs : List Ent} {a b : Bool} (h : RdLog sl xs es a) (k : RdLog sl xs fs b) : es = fs ∧ a = b := by
  rcases h with ⟨h0, rfl, rfl⟩ | ⟨h0, rfl, h1⟩ | ⟨h0, rfl, rfl, h1⟩ <;> rcases k with ⟨k0, rfl, rfl⟩ | ⟨k0, rfl, k1⟩ | ⟨k0, rfl, rfl, k1⟩
  · exact ⟨rfl, rfl⟩
  · exact absurd h0 k0
  · exact absurd h0 k0
  · exact absurd k0 h0
  · exact ⟨h1.uniq k1, rfl⟩
  · exact absurd h1 (k1 _)
  · exact absurd k0 h0
  · exact absurd k1 (h1 _)
  · exact ⟨rfl, rfl⟩
theorem sealI_ne0 (xs : List Int) : sealI xs ≠ 0 := by
  have := crc_rng xs
  unfold sealI
  omega
/-- the program's sl and words of entries, whether they may be or not -/
def sealE (es : List Ent) : Int := if entMay es then sealI (entW es) else 0
def wordsE (es : List Ent) : List Int := if entMay es then entW es else []
/-- what the program looks at -/
theorem rdLog_of {sl : Int} {xs : List Int} (h0 : sl ≠ 0) (n : Nat) (hn : n = manyI sl) (h1 : n ≠ 0) (h2 : 2 * n ≤ xs.length) (hs : sl = sealE (entsOf xs n)) (hw : xs.take (2 * n) = wordsE (entsOf xs n)) : RdLog sl xs (entsOf xs n) true := by
  refine .inr (.inl ⟨h0, rfl, ?_⟩)
  unfold sealE at hs
  unfold wordsE at hw
  by_cases hm : entMay (entsOf xs n) = true
  · rw [if_pos hm] at hs hw
    exact ⟨hm, hs, by rw [entsOf_len]; exact h2, by rw [entsOf_len]; exact hw⟩
  · rw [if_neg hm] at hs
    exact absurd hs h0
theorem rdLog_not {sl : Int} {xs : List Int} (h0 : sl ≠ 0) (n : Nat) (hn : n = manyI sl) (h : n ≠ 0 → 2 * n ≤ xs.length → ¬ (sl = sealE (entsOf xs n) ∧ xs.take (2 * n) = wordsE (entsOf xs n))) : RdLog sl xs [] false := by
  refine .inr (.inr ⟨h0, rfl, rfl, fun l hl => ?_⟩)
  have hm := hl.many
  rw [← hn] at hm
  subst hm
  have h1 := entMay_len hl.1
  refine h (by omega) hl.2.2.1 ?_
  rw [hl.ents]
  unfold sealE wordsE
  rw [if_pos hl.1, if_pos hl.1]
  exact ⟨hl.2.1, hl.2.2.2⟩
/-- what is written is read -/
theorem rdLog_back {es : List Ent} (hm : entMay es = true) (more : List Int) : RdLog (sealI (entW es)) (entW es ++ more) es true :=
  .inr (.inl ⟨sealI_ne0 _, rfl, hm, rfl, by rw [List.length_append, entW_len]; omega, by rw [← entW_len, List.take_left']; rfl⟩)
/-- the reference: a log's words -/
theorem logs_of_ref {xs : List Int} {n : Nat} (h2 : 2 * n ≤ xs.length) (hm : entMay (entsOf xs n) = true) (hx : InR 18446744073709551616 xs) (hw : ∀ i, i < n → xs[2 * i]?.getD 0 / 4294967296 = (i : Int)) : Logs (sealI (xs.take (2 * n))) xs (entsOf xs n) := by
  have e : xs.take (2 * n) = entW (entsOf xs n) := by
    refine list_eq_upto (k := 0) (n := 2 * n) (by rw [List.length_take]; omega) (by rw [entW_len, entsOf_len]) ?_
    intro j hj
    rw [take_get hj]
    unfold entW
    rw [entsOf_len]
    obtain ⟨i, hi⟩ : ∃ i, j = 2 * i ∨ j = 2 * i + 1 := ⟨j / 2, by omega⟩
    have hin : i < n := by omega
    have h3 := entWTo_get (entsOf xs n) n i hin
    rw [entsOf_at _ _ _ hin] at h3
    have h4 := hw i hin
    rcases hi with rfl | rfl
    · rw [h3.1]
      simp only
      omega
    · rw [h3.2]
  exact ⟨hm, by rw [e], by rw [entsOf_len]; exact h2, by rw [entsOf_len]; exact e⟩
/-- a log that is read is the only one whose words fit: at the number where the sl fits -/
theorem logs_at {sl : Int} {xs : List Int} {es : List Ent} (h : Logs sl xs es) (n : Nat) (hn : n ≤ 16) (h2 : 2 * n ≤ xs.length) (hs : sealI (xs.take (2 * n)) = sl) : es.length = n := by
  rw [← h.many, ← hs]
  exact manyI_seal _ _ hn (by rw [List.length_take]; omega)
theorem logs_seal {sl : Int} {xs : List Int} {es : List Ent} (h : Logs sl xs es) : sealI (xs.take (2 * es.length)) = sl := by rw [h.2.2.2, h.2.1]
end Go.Proofs.Ytpmbjlmplfejgaa
