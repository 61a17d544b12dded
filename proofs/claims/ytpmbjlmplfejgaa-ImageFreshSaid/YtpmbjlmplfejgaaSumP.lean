/- The plain law of the sums: one bit turned among words gives another sum. -/
import Derived.Test.YtpmbjlmplfejgaaSumD
namespace Go.Proofs.Ytpmbjlmplfejgaa
set_option linter.unusedVariables false

theorem xor_nat (k : IntKind) (j : Nat) (hj : j ≤ k.bits) (hk : ∀ n : Int, 0 ≤ n → n < 2 ^ j → k.wrap n = n) (a b : Nat) (ha : a < 2 ^ j) (hb : b < 2 ^ j) :
    bits .xor k a b = ((a ^^^ b : Nat) : Int) := by
  have hp : 2 ^ j ≤ 2 ^ k.bits := Nat.pow_le_pow_right (by decide) hj
  have ha' : a % 2 ^ k.bits = a := Nat.mod_eq_of_lt (Nat.lt_of_lt_of_le ha hp)
  have hb' : b % 2 ^ k.bits = b := Nat.mod_eq_of_lt (Nat.lt_of_lt_of_le hb hp)
  simp only [bits, BitVec.ofInt_natCast, BitVec.toNat_xor, BitVec.toNat_ofNat, ha', hb']
  exact hk _ (Int.natCast_nonneg _) (by exact_mod_cast Nat.xor_lt_two_pow ha hb)
theorem xor32 (a b : Nat) (ha : a < 4294967296) (hb : b < 4294967296) : bits .xor .u32 a b = ((a ^^^ b : Nat) : Int) :=
  xor_nat .u32 32 (by decide) (fun n h0 h1 => by rw [IntKind.wrap_u32]; omega) a b ha hb
theorem xor64 (a b : Nat) (ha : a < 18446744073709551616) (hb : b < 18446744073709551616) : bits .xor .u64 a b = ((a ^^^ b : Nat) : Int) :=
  xor_nat .u64 64 (by decide) wraps_u64 a b ha hb

theorem xor_cancel {a b c : Nat} (h : a ^^^ c = b ^^^ c) : a = b := by
  have := congrArg (· ^^^ c) h
  simpa [Nat.xor_assoc] using this
theorem xor_cancel' {a b c : Nat} (h : c ^^^ a = c ^^^ b) : a = b := xor_cancel (c := c) (by rw [Nat.xor_comm a, Nat.xor_comm b]; exact h)

def nb (x : Nat) : Nat := if x % 2 = 1 then (x / 2) ^^^ 3988292384 else x / 2
theorem nb_top (x : Nat) (hx : x < 4294967296) : (nb x).testBit 31 = decide (x % 2 = 1) := by
  have h2 : (x / 2).testBit 31 = false := Nat.testBit_lt_two_pow (by omega)
  unfold nb
  by_cases h : x % 2 = 1
  · rw [if_pos h, Nat.testBit_xor, h2]
    simp [h]
    decide
  · rw [if_neg h, h2]
    simp [h]
theorem nb_inj {x y : Nat} (hx : x < 4294967296) (hy : y < 4294967296) (h : nb x = nb y) : x = y := by
  have h1 := nb_top x hx
  have h2 := nb_top y hy
  rw [h, h2] at h1
  have hp : (x % 2 = 1) ↔ (y % 2 = 1) := by simpa using h1.symm
  unfold nb at h
  by_cases hx1 : x % 2 = 1
  · have hy1 := hp.1 hx1
    rw [if_pos hx1, if_pos hy1] at h
    have := xor_cancel h
    omega
  · have hy1 : ¬ y % 2 = 1 := fun e => hx1 (hp.2 e)
    rw [if_neg hx1, if_neg hy1] at h
    omega
theorem nb_lt (x : Nat) (hx : x < 4294967296) : nb x < 4294967296 := by
  unfold nb
  split
  · exact Nat.xor_lt_two_pow (n := 32) (by omega) (by decide)
  · omega
theorem bstep_nat (x : Nat) (hx : x < 4294967296) : bstep x = (nb x : Nat) := by
  unfold bstep nb
  have e : ((x : Int) % 2 = 1) ↔ (x % 2 = 1) := by omega
  by_cases h : x % 2 = 1
  · rw [if_pos (e.2 h), if_pos h, ← xor32 _ _ (by omega) (by decide)]
    rfl
  · rw [if_neg (fun h' => h (e.1 h')), if_neg h]
    rfl
theorem bstep_inj {x y : Int} (hx0 : 0 ≤ x) (hx : x < 4294967296) (hy0 : 0 ≤ y) (hy : y < 4294967296) (h : bstep x = bstep y) : x = y := by
  obtain ⟨a, rfl⟩ := Int.eq_ofNat_of_zero_le hx0
  obtain ⟨b, rfl⟩ := Int.eq_ofNat_of_zero_le hy0
  have ha : a < 4294967296 := by omega
  have hb : b < 4294967296 := by omega
  rw [bstep_nat a ha, bstep_nat b hb] at h
  have : nb a = nb b := by exact_mod_cast h
  rw [nb_inj ha hb this]
theorem bstepN_inj (n : Nat) : ∀ {x y : Int}, 0 ≤ x → x < 4294967296 → 0 ≤ y → y < 4294967296 → bstepN n x = bstepN n y → x = y := by
  induction n with
  | zero => intro x y _ _ _ _ h; exact h
  | succ n ih =>
    intro x y hx0 hx hy0 hy h
    have a := bstep_rng x hx0 hx
    have b := bstep_rng y hy0 hy
    exact bstep_inj hx0 hx hy0 hy (ih a.1 a.2 b.1 b.2 h)
theorem bxor_inj {x y c : Int} (hx0 : 0 ≤ x) (hx : x < 4294967296) (hy0 : 0 ≤ y) (hy : y < 4294967296) (hc0 : 0 ≤ c) (hc : c < 4294967296) (h : bits .xor .u32 x c = bits .xor .u32 y c) : x = y := by
  obtain ⟨a, rfl⟩ := Int.eq_ofNat_of_zero_le hx0
  obtain ⟨b, rfl⟩ := Int.eq_ofNat_of_zero_le hy0
  obtain ⟨d, rfl⟩ := Int.eq_ofNat_of_zero_le hc0
  rw [xor32 a d (by omega) (by omega), xor32 b d (by omega) (by omega)] at h
  have : a ^^^ d = b ^^^ d := by exact_mod_cast h
  rw [xor_cancel this]
theorem stp_inj {x y c : Int} (hx0 : 0 ≤ x) (hx : x < 4294967296) (hy0 : 0 ≤ y) (hy : y < 4294967296) (hc0 : 0 ≤ c) (hc : c < 256) (h : stp x c = stp y c) : x = y := by
  have a := xor_rng x c
  have b := xor_rng y c
  exact bxor_inj hx0 hx hy0 hy hc0 (by omega) (bstepN_inj 8 a.1 a.2 b.1 b.2 h)
theorem stp_inj2 {x c d : Int} (hx0 : 0 ≤ x) (hx : x < 4294967296) (hc0 : 0 ≤ c) (hc : c < 256) (hd0 : 0 ≤ d) (hd : d < 256) (h : stp x c = stp x d) : c = d := by
  have a := xor_rng x c
  have b := xor_rng x d
  have e := bstepN_inj 8 a.1 a.2 b.1 b.2 h
  rw [bits_xor_comm, bits_xor_comm .u32 x d] at e
  exact bxor_inj hc0 (by omega) hd0 (by omega) hx0 hx e
theorem foldB_inj (l : List Int) (hl : InR 256 l) : ∀ {x y : Int}, 0 ≤ x → x < 4294967296 → 0 ≤ y → y < 4294967296 → foldB x l = foldB y l → x = y := by
  induction l with
  | nil => intro x y _ _ _ _ h; exact h
  | cons c l ih =>
    intro x y hx0 hx hy0 hy h
    have a := stp_rng x c
    have b := stp_rng y c
    have hc := hl c (by simp)
    exact stp_inj hx0 hx hy0 hy hc.1 hc.2 (ih (fun z hz => hl z (by simp [hz])) a.1 a.2 b.1 b.2 h)
/-- one byte another: another sum -/
theorem foldB_turn (p q : List Int) (c d : Int) (hq : InR 256 q) (hc : 0 ≤ c ∧ c < 256) (hd : 0 ≤ d ∧ d < 256) (hcd : c ≠ d) (x : Int) (hx0 : 0 ≤ x) (hx : x < 4294967296) :
    foldB x (p ++ c :: q) ≠ foldB x (p ++ d :: q) := by
  intro h
  rw [foldB_append, foldB_append] at h
  have y := foldB_rng p x hx0 hx
  have a := stp_rng (foldB x p) c
  have b := stp_rng (foldB x p) d
  have h' : foldB (stp (foldB x p) c) q = foldB (stp (foldB x p) d) q := h
  exact hcd (stp_inj2 y.1 y.2 hc.1 hc.2 hd.1 hd.2 (foldB_inj q hq a.1 a.2 b.1 b.2 h'))

theorem take_drop_of {l l' : List Int} (j : Nat) (hne : ∀ i, i ≠ j → l'[i]? = l[i]?) : l'.take j = l.take j ∧ l'.drop (j + 1) = l.drop (j + 1) := by
  constructor
  · apply List.ext_getElem?
    intro i
    rw [List.getElem?_take, List.getElem?_take]
    split
    · exact hne i (by omega)
    · rfl
  · apply List.ext_getElem?
    intro i
    rw [List.getElem?_drop, List.getElem?_drop]
    exact hne _ (by omega)
theorem wb_get (x : Int) (k i : Nat) : (wb x k)[i]? = if i < k then some (x / 2 ^ (8 * i) % 256) else none := by
  unfold wb
  rw [List.getElem?_map]
  by_cases h : i < k
  · rw [List.getElem?_range h, if_pos h]; rfl
  · rw [List.getElem?_eq_none (by simp; omega), if_neg h]; rfl
def byteN (x i : Nat) : Nat := x / 2 ^ (8 * i) % 256
theorem byteN_int (x i : Nat) : ((byteN x i : Nat) : Int) = (x : Int) / 2 ^ (8 * i) % 256 := by
  unfold byteN
  simp
theorem byteN_xor (x y i : Nat) : byteN (x ^^^ y) i = byteN x i ^^^ byteN y i := by
  unfold byteN
  rw [show (256 : Nat) = 2 ^ 8 by decide, ← Nat.shiftRight_eq_div_pow, ← Nat.shiftRight_eq_div_pow, ← Nat.shiftRight_eq_div_pow, Nat.shiftRight_xor_distrib, Nat.xor_mod_two_pow]
theorem byteN_pow (b i : Nat) : byteN (2 ^ b) i = if i = b / 8 then 2 ^ (b % 8) else 0 := by
  unfold byteN
  by_cases h1 : 8 * i ≤ b
  · rw [Nat.pow_div h1 (by decide)]
    by_cases h : i = b / 8
    · rw [if_pos h, show b - 8 * i = b % 8 by omega]
      exact Nat.mod_eq_of_lt (Nat.lt_of_lt_of_le (Nat.pow_lt_pow_right (by decide) (Nat.mod_lt _ (by decide))) (by decide : 2 ^ 8 ≤ 256))
    · rw [if_neg h, show b - 8 * i = 8 + (b - 8 * i - 8) by omega, Nat.pow_add]
      exact Nat.mul_mod_right _ _
  · rw [Nat.div_eq_of_lt (Nat.pow_lt_pow_right (by decide) (by omega)), if_neg (by omega)]
theorem wb_turn (x b : Nat) (hb : b < 64) : ∃ p q c d, wb x 8 = p ++ c :: q ∧ wb ((x ^^^ 2 ^ b : Nat) : Int) 8 = p ++ d :: q ∧ InR 256 q ∧ (0 ≤ c ∧ c < 256) ∧ (0 ≤ d ∧ d < 256) ∧ c ≠ d := by
  have hj : b / 8 < 8 := by omega
  have hne : ∀ i, i ≠ b / 8 → (wb ((x ^^^ 2 ^ b : Nat) : Int) 8)[i]? = (wb x 8)[i]? := by
    intro i hi
    rw [wb_get, wb_get]
    split
    · rw [← byteN_int, ← byteN_int, byteN_xor, byteN_pow, if_neg hi, Nat.xor_zero]
    · rfl
  obtain ⟨h1, h2⟩ := take_drop_of (b / 8) hne
  have e : ∀ y : Int, wb y 8 = (wb y 8).take (b / 8) ++ (y / 2 ^ (8 * (b / 8)) % 256) :: (wb y 8).drop (b / 8 + 1) := by
    intro y
    have hl : b / 8 < (wb y 8).length := by rw [wb_len]; exact hj
    have hg : (wb y 8)[b / 8] = y / 2 ^ (8 * (b / 8)) % 256 := by
      have := wb_get y 8 (b / 8)
      rw [if_pos hj, List.getElem?_eq_getElem hl] at this
      exact Option.some.inj this
    rw [← hg, List.getElem_cons_drop, List.take_append_drop]
  refine ⟨_, _, _, _, e x, by rw [← h1, ← h2]; exact e _, fun z hz => wb_rng x 8 z (List.mem_of_mem_drop hz), by omega, by omega, ?_⟩
  rw [← byteN_int, ← byteN_int, byteN_xor, byteN_pow, if_pos rfl]
  intro h
  have h : byteN x (b / 8) = byteN x (b / 8) ^^^ 2 ^ (b % 8) := by exact_mod_cast h
  have h0 : byteN x (b / 8) ^^^ 0 = byteN x (b / 8) ^^^ 2 ^ (b % 8) := by rw [Nat.xor_zero]; exact h
  have := xor_cancel' h0
  have hp : 0 < 2 ^ (b % 8) := Nat.two_pow_pos _
  omega
theorem wordsB_append (a b : List Int) : wordsB (a ++ b) = wordsB a ++ wordsB b := by
  unfold wordsB
  rw [List.flatMap_append]
theorem cplm_inj {x y : Int} (hx0 : 0 ≤ x) (hx : x < 4294967296) (hy0 : 0 ≤ y) (hy : y < 4294967296) (h : cplm x = cplm y) : x = y := by
  unfold cplm at h
  rw [bits_xor_comm, bits_xor_comm .u32 _ y] at h
  exact bxor_inj hx0 hx hy0 hy (by decide) (by decide) h
/-- words of which one has one bit turned have another sum -/
theorem crc_turn (xs : List Int) (k b : Nat) (hx : InR 18446744073709551616 xs) (hk : k < xs.length) (hb : b < 64) :
    crc (xs.set k (bits .xor .u64 (xs[k]?.getD 0) (2 ^ b))) ≠ crc xs := by
  have hv := hx.getD (by decide) k
  have hv' : xs[k]?.getD 0 = xs[k] := by rw [List.getElem?_eq_getElem hk]; rfl
  rw [hv'] at hv ⊢
  obtain ⟨x, ex⟩ := Int.eq_ofNat_of_zero_le hv.1
  have hp : 2 ^ b < 18446744073709551616 := Nat.lt_of_lt_of_le (Nat.pow_lt_pow_right (by decide) hb) (by decide : 2 ^ 64 ≤ 18446744073709551616)
  have e1 : bits .xor .u64 xs[k] (2 ^ b) = ((x ^^^ 2 ^ b : Nat) : Int) := by
    rw [ex, show ((2 : Int) ^ b) = ((2 ^ b : Nat) : Int) by simp]
    exact xor64 x (2 ^ b) (by omega) hp
  rw [e1]
  obtain ⟨p, q, c, d, h1, h2, hq, hc, hd, hcd⟩ := wb_turn x b hb
  intro h
  unfold crc at h
  have hset : xs.set k ((x ^^^ 2 ^ b : Nat) : Int) = xs.take k ++ ((x ^^^ 2 ^ b : Nat) : Int) :: xs.drop (k + 1) := List.set_eq_take_append_cons_drop.trans (if_pos hk)
  have hxs : xs = xs.take k ++ (x : Int) :: xs.drop (k + 1) := by rw [← ex, List.getElem_cons_drop, List.take_append_drop]
  have hcons : ∀ (y : Int) (l : List Int), wordsB (y :: l) = wb y 8 ++ wordsB l := fun y l => by simp [wordsB]
  have g1 := foldB_rng (wordsB (xs.set k ((x ^^^ 2 ^ b : Nat) : Int))) 4294967295 (by decide) (by decide)
  have g2 := foldB_rng (wordsB xs) 4294967295 (by decide) (by decide)
  have h := cplm_inj g1.1 g1.2 g2.1 g2.2 h
  have hq' : InR 256 (q ++ wordsB (xs.drop (k + 1))) := hq.app (wordsB_rng _)
  rw [hset] at h
  have h3 : wordsB xs = (wordsB (xs.take k) ++ p) ++ c :: (q ++ wordsB (xs.drop (k + 1))) := by
    conv => lhs; rw [hxs]
    rw [wordsB_append, hcons, h1]
    simp [List.append_assoc]
  have h4 : wordsB (xs.take k ++ ((x ^^^ 2 ^ b : Nat) : Int) :: xs.drop (k + 1)) = (wordsB (xs.take k) ++ p) ++ d :: (q ++ wordsB (xs.drop (k + 1))) := by
    rw [wordsB_append, hcons, h2]
    simp [List.append_assoc]
  rw [h3, h4] at h
  exact foldB_turn _ _ c d hq' hc hd hcd 4294967295 (by decide) (by decide) h.symm
theorem sealI_turn (xs : List Int) (k b : Nat) (hx : InR 18446744073709551616 xs) (hk : k < xs.length) (hb : b < 64) :
    sealI xs ≠ sealI (xs.set k (bits .xor .u64 (xs[k]?.getD 0) (2 ^ b))) := by
  have h := crc_turn xs k b hx hk hb
  unfold sealI
  rw [List.length_set]
  omega
end Go.Proofs.Ytpmbjlmplfejgaa
