/- Drawn regions: a chain of operations, and one that makes memory, which may come up anywhere among them. -/
import Derived.Test.YtpmbjlmplfejgaaLibC
namespace Go.Proofs.Ytpmbjlmplfejgaa
open Go.RowKit
set_option linter.unusedVariables false

section
variable {P : Program} {ops : Array Oper} {Q : Exit → Act → World → Prop} {md : Region.Mode} {S : World → Prop} {N : List Nat}
theorem Makes.later {i : Nat} {o : Oper} {a : Act} {w0 w1 : World} {A : Value → World → Prop} (h : Makes P ops w0 i o a A) (hk : Kp w0 w1) : Makes P ops w1 i o a A := fun w h' => h w (hk.trans h')
/-- One operation behind the other, each in whatever later world. -/
def chainW (P : Program) (ops : Array Oper) (K : Act → World → Prop) : List Nat → Act → World → Prop
  | [], a, w => K a w
  | i :: is, a, w => ∃ oi A, ops[i]? = some oi ∧ (∀ v w w', Kp w w' → A v w → A v w') ∧ Makes P ops w i oi a A ∧ ∀ v w1, Kp w w1 → A v w1 → chainW P ops K is (a.put oi.dst v) w1
theorem chain_nil {K : Act → World → Prop} {a : Act} {w : World} (h : K a w) : chainW P ops K [] a w := h
theorem chain_cons {K : Act → World → Prop} {i : Nat} {is : List Nat} {a : Act} {w : World} {oi : Oper} (A : Value → World → Prop) (ho : ops[i]? = some oi) (mono : ∀ v w w', Kp w w' → A v w → A v w')
    (hm : Makes P ops w i oi a A) (h : ∀ v w1, Kp w w1 → A v w1 → chainW P ops K is (a.put oi.dst v) w1) : chainW P ops K (i :: is) a w := ⟨oi, A, ho, mono, hm, h⟩
/-- .. that reads. -/
theorem chain_read {K : Act → World → Prop} {i : Nat} {is : List Nat} {a : Act} {w : World} {oi : Oper} {v : Value} (ho : ops[i]? = some oi) (hw : Region.wanted oi (yielded ops a.tmps) = true)
    (hv : ∀ w1, Kp w w1 → (execOp a.eval oi).run P w1 = .ok (.value v) w1) (h : ∀ w1, Kp w w1 → chainW P ops K is (a.put oi.dst v) w1) : chainW P ops K (i :: is) a w :=
  ⟨oi, fun u _ => u = v, ho, fun _ _ _ _ h => h, fun w1 hk => by
    unfold wpOp
    simp only [ho, hw, if_true]
    refine .inl ?_
    unfold Oper.wp
    rw [hv w1 hk]
    exact ⟨v, rfl, Kp.self, rfl⟩, fun u w1 hk e => by subst e; exact h w1 hk⟩
def apartAll (ops : Array Oper) (oj : Oper) (is : List Nat) : Bool := is.all fun i => match ops[i]? with
  | some oi => oi.apart ops oj
  | none => false
theorem chainW_put {oj : Oper} {v : Value} {K K' : Act → World → Prop} (hsel : ∀ (j : Nat) (o : Oper) cs b, ops[j]? = some o → o.op ≠ .select cs b) (hK : ∀ a w, K a w → K' (a.put oj.dst v) w) :
    ∀ (is : List Nat) (a : Act) (w : World), apartAll ops oj is = true → chainW P ops K is a w → chainW P ops K' is (a.put oj.dst v) w
  | [], a, w, _, h => hK a w h
  | i :: is, a, w, hap, h => by
    obtain ⟨oi, A, ho, mono, hm, h⟩ := h
    simp only [apartAll, List.all_cons, ho, Bool.and_eq_true] at hap
    obtain ⟨p1, p2, p3⟩ := Oper.apart_spec hap.1
    refine ⟨oi, A, ho, mono, hm.put ho oj.dst v (fun cs b => hsel i oi cs b ho) p3 (fun t ht e => p2 t e ht), fun u w1 hk hA => ?_⟩
    rw [Act.put_comm a v u (fun t ht e => p2 t e ht)]
    exact chainW_put hsel hK is _ _ hap.2 (h u w1 hk hA)
theorem chainW_mono {K K' : Act → World → Prop} (hK : ∀ a w, K a w → K' a w) : ∀ (is : List Nat) (a : Act) (w : World), chainW P ops K is a w → chainW P ops K' is a w
  | [], a, w, h => hK a w h
  | i :: is, a, w, h => by
    obtain ⟨oi, A, ho, mono, hm, h⟩ := h
    exact ⟨oi, A, ho, mono, hm, fun v w1 hk hA => chainW_mono hK is _ _ (h v w1 hk hA)⟩
theorem chainW_later {K : Act → World → Prop} (hK : ∀ a w w', Kp w w' → K a w → K a w') : ∀ (is : List Nat) (a : Act) (w w' : World), Kp w w' → chainW P ops K is a w → chainW P ops K is a w'
  | [], a, w, w', hk, h => hK a w w' hk h
  | i :: is, a, w, w', hk, h => by
    obtain ⟨oi, A, ho, mono, hm, h⟩ := h
    exact ⟨oi, A, ho, mono, hm.later hk, fun v w1 hk1 hA => h v w1 (hk.trans hk1) hA⟩
theorem chainW_kp {K : Act → World → Prop} : ∀ (is : List Nat) (a : Act) (w : World), chainW P ops K is a w → chainW P ops (fun a' w' => Kp w w' ∧ K a' w') is a w
  | [], a, w, h => ⟨Kp.self, h⟩
  | i :: is, a, w, h => by
    obtain ⟨oi, A, ho, mono, hm, h⟩ := h
    exact ⟨oi, A, ho, mono, hm, fun v w1 hk hA => chainW_mono (fun a' w' h => ⟨hk.trans h.1, h.2⟩) is _ _ (chainW_kp is _ _ (h v w1 hk hA))⟩
def seqOnly (md : Region.Mode) (ops : Array Oper) : List Nat → Array Bool → Bool
  | [], _ => true
  | i :: is, listed => (Region.ready md ops listed).all (fun k => k == i) && (Region.ready md ops listed).contains i && seqOnly md ops is (listed.setIfInBounds i true)
/-- The chain alone. -/
theorem anyM_chain0 (w0 : World) (hS : ∀ w', Kp w0 w' → S w') (fuel : Nat) : ∀ (is : List Nat) (listed : Array Bool) (a : Act) (w : World), seqOnly md ops is listed = true → Kp w0 w →
    chainW P ops (fun a' w' => anyM P md ops Q S N fuel (listAll is listed) a' w') is a w → anyM P md ops Q S N (fuel + is.length) listed a w
  | [], listed, a, w, _, hk, h => h
  | i :: is, listed, a, w, hB, hk, h => by
    obtain ⟨oi, A, ho, mono, hm, h⟩ := h
    simp only [seqOnly, Bool.and_eq_true] at hB
    refine ⟨fun h0 => (by rw [h0] at hB; simp at hB), fun k hkr => ?_⟩
    have hkk := List.all_eq_true.1 hB.1.1 k hkr
    obtain rfl : k = i := by simpa using hkk
    exact hm.to Kp.self fun v w1 hk1 hA => ⟨fun _ => hS _ (hk.trans hk1), anyM_chain0 w0 hS fuel is _ _ _ hB.2 (hk.trans hk1) (h v w1 hk1 hA)⟩
def chainB (md : Region.Mode) (ops : Array Oper) (j : Nat) : List Nat → Array Bool → Bool
  | [], listed => (Region.ready md ops listed).all (fun k => k == j) && (Region.ready md ops listed).contains j
  | i :: is, listed => (i != j) && (Region.ready md ops listed).all (fun k => k == i || k == j) && (Region.ready md ops listed).contains i && seqOnly md ops (i :: is) (listed.setIfInBounds j true) && chainB md ops j is (listed.setIfInBounds i true)
theorem listAll_comm (j : Nat) : ∀ (is : List Nat) (listed : Array Bool), listAll is (listed.setIfInBounds j true) = (listAll is listed).setIfInBounds j true
  | [], _ => rfl
  | i :: is, listed => by
    rw [listAll, listAll, ← listAll_comm j is]
    by_cases h : i = j
    · subst h; rfl
    · rw [Array.setIfInBounds_comm _ _ (fun e => h e.symm)]
/-- The chain, and number j, which makes memory, anywhere among it. -/
theorem anyM_chain (j : Nat) {oj : Oper} (w0 : World) (hS : ∀ w', Kp w0 w' → S w') {B : Value → World → Prop} (hj : ops[j]? = some oj) (mB : ∀ v w w', Kp w w' → B v w → B v w') (hsel : Region.noSelect ops = true) (fuel : Nat) :
    ∀ (is : List Nat) (listed : Array Bool) (a : Act) (w : World), chainB md ops j is listed = true → apartAll ops oj is = true → Kp w0 w → Makes P ops w0 j oj a B →
    chainW P ops (fun a' w' => ∀ v w'', Kp w' w'' → B v w'' → anyM P md ops Q S N fuel ((listAll is listed).setIfInBounds j true) (a'.put oj.dst v) w'') is a w →
    anyM P md ops Q S N (fuel + is.length + 1) listed a w
  | [], listed, a, w, hB, _, hk, hm, h => by
    simp only [chainB, Bool.and_eq_true] at hB
    refine ⟨fun h0 => (by rw [h0] at hB; simp at hB), fun k hkr => ?_⟩
    have hkk := List.all_eq_true.1 hB.1 k hkr
    obtain rfl : k = j := by simpa using hkk
    exact hm.to hk fun v w1 hk1 hA => ⟨fun _ => hS _ (hk.trans hk1), h v w1 hk1 hA⟩
  | i :: is, listed, a, w, hB, hap, hk, hm, h => by
    have h' := h
    obtain ⟨oi, A, ho, mono, hmi, h⟩ := h
    have hB0 := hB
    simp only [chainB, Bool.and_eq_true, bne_iff_ne, ne_eq] at hB
    obtain ⟨⟨⟨⟨hne, hr⟩, hci⟩, hseq⟩, hrest⟩ := hB
    have hap0 := hap
    simp only [apartAll, List.all_cons, ho, Bool.and_eq_true] at hap
    obtain ⟨p1, p2, p3⟩ := Oper.apart_spec hap.1
    have hsp := Region.noSelect_spec hsel
    refine ⟨fun h0 => (by rw [h0] at hci; simp at hci), fun k hkr => ?_⟩
    have hkk := List.all_eq_true.1 hr k hkr
    simp only [Bool.or_eq_true, beq_iff_eq] at hkk
    rcases hkk with rfl | rfl
    · refine hmi.to Kp.self fun v w1 hk1 hA => ⟨fun _ => hS _ (hk.trans hk1), ?_⟩
      exact anyM_chain j w0 hS hj mB hsel fuel is _ _ _ hrest hap.2 (hk.trans hk1) (hm.put hj oi.dst v (fun cs b => hsp j oj cs b hj) p1 (fun t ht => p2 t ht)) (h v w1 hk1 hA)
    · refine hm.to hk fun v w1 hk1 hB => ⟨fun _ => hS _ (hk.trans hk1), ?_⟩
      have hl : listAll (i :: is) (listed.setIfInBounds k true) = (listAll (i :: is) listed).setIfInBounds k true := listAll_comm k (i :: is) listed
      have := anyM_chain0 (P := P) (Q := Q) (N := N) w0 hS fuel (i :: is) (listed.setIfInBounds k true) (a.put oj.dst v) w1 hseq (hk.trans hk1) ?_
      · exact this
      · rw [hl]
        have h2 := chainW_kp (i :: is) a w1 (chainW_later (fun a' w' w'' hkk hK u w3 hk3 hB3 => hK u w3 (hkk.trans hk3) hB3) (i :: is) a w w1 hk1 h')
        exact chainW_put hsp (fun a' w' hK => hK.2 v w' Kp.self (mB _ _ _ hK.1 hB)) (i :: is) a w1 hap0 h2
theorem takesW_put {oj : Oper} {v : Value} {K K' : Act → Prop} (hsel : ∀ (j : Nat) (o : Oper) cs b, ops[j]? = some o → o.op ≠ .select cs b) (hK : ∀ a, K a → K' (a.put oj.dst v)) :
    ∀ (is : List Nat) (a : Act), apartAll ops oj is = true → takesW P ops S K is a → takesW P ops S K' is (a.put oj.dst v)
  | [], a, _, h => hK a h
  | i :: is, a, hap, h => by
    obtain ⟨oi, u, ho, hy, h⟩ := h
    simp only [apartAll, List.all_cons, ho, Bool.and_eq_true] at hap
    obtain ⟨p1, p2, p3⟩ := Oper.apart_spec hap.1
    refine ⟨oi, u, ho, hy.of_same (execOp_put oi (fun cs b => hsel i oi cs b ho) a oj.dst v p3) (wanted_put oi a oj.dst v p3), ?_⟩
    rw [Act.put_comm a v u (fun t ht e => p2 t e ht)]
    exact takesW_put hsel hK is _ hap.2 h
theorem takesW_mono {K K' : Act → Prop} (hK : ∀ a, K a → K' a) : ∀ (is : List Nat) (a : Act), takesW P ops S K is a → takesW P ops S K' is a
  | [], a, h => hK a h
  | i :: is, a, h => by
    obtain ⟨oi, u, ho, hy, h⟩ := h
    exact ⟨oi, u, ho, hy, takesW_mono hK is _ h⟩
theorem takesW_makes {j : Nat} {oj : Oper} {w0 : World} {B : Value → World → Prop} {K : Act → Prop} (hj : ops[j]? = some oj) (hsel : ∀ (j : Nat) (o : Oper) cs b, ops[j]? = some o → o.op ≠ .select cs b) :
    ∀ (is : List Nat) (a : Act), apartAll ops oj is = true → Makes P ops w0 j oj a B → takesW P ops S K is a → takesW P ops S (fun a' => Makes P ops w0 j oj a' B ∧ K a') is a
  | [], a, _, hm, h => ⟨hm, h⟩
  | i :: is, a, hap, hm, h => by
    obtain ⟨oi, u, ho, hy, h⟩ := h
    simp only [apartAll, List.all_cons, ho, Bool.and_eq_true] at hap
    obtain ⟨p1, p2, p3⟩ := Oper.apart_spec hap.1
    exact ⟨oi, u, ho, hy, takesW_makes hj hsel is _ hap.2 (hm.put hj oi.dst u (fun cs b => hsel j oj cs b hj) p1 (fun t ht => p2 t ht)) h⟩
def twoTB (md : Region.Mode) (ops : Array Oper) (listed : Array Bool) (i j : Nat) (is N : List Nat) : Bool :=
  Region.noSelect ops && (i != j) && (Region.ready md ops listed).all (fun k => k == i || k == j) && (Region.ready md ops listed).contains i &&
  takesB md ops is (listed.setIfInBounds i true) && (Region.ready md ops (listAll is (listed.setIfInBounds i true))).all (fun k => k == j) && (Region.ready md ops (listAll is (listed.setIfInBounds i true))).contains j &&
  (Region.ready md ops (listed.setIfInBounds j true)).all (fun k => k == i) && (Region.ready md ops (listed.setIfInBounds j true)).contains i && takesB md ops is ((listed.setIfInBounds j true).setIfInBounds i true) &&
  lateB md ops is N &&
  (match ops[i]?, ops[j]? with
   | some oi, some oj => oi.apart ops oj && apartAll ops oj is
   | _, _ => false)
/-- A call, what is read off it at once, and one that makes memory, anywhere among them. -/
theorem anyM_two_takes (i j : Nat) (is : List Nat) {oi oj : Oper} {fuel : Nat} {listed : Array Bool} {a : Act} {w0 w : World} {A B : Value → World → Prop}
    (hi : ops[i]? = some oi) (hj : ops[j]? = some oj) (hB : twoTB md ops listed i j is N = true) (hk : Kp w0 w) (hS : ∀ w', Kp w0 w' → S w') (hQ : ∀ d v c a w, Q (.panic c) (Act.put a d v) w → Q (.panic c) a w)
    (mA : ∀ v w w', Kp w w' → A v w → A v w') (mB : ∀ v w w', Kp w w' → B v w → B v w')
    (h1 : Makes P ops w0 i oi a A) (h2 : Makes P ops w0 j oj a B)
    (h : ∀ v w', Kp w0 w' → A v w' → takesW P ops S (fun a' => ∀ u w'', Kp w0 w'' → A v w'' → B u w'' → anyM P md ops Q S N fuel ((listAll is (listed.setIfInBounds i true)).setIfInBounds j true) (a'.put oj.dst u) w'') is (a.put oi.dst v)) :
    anyM P md ops Q S N (fuel + is.length + 2) listed a w := by
  simp only [twoTB, hi, hj, Bool.and_eq_true, bne_iff_ne, ne_eq] at hB
  obtain ⟨⟨⟨⟨⟨⟨⟨⟨⟨⟨⟨hsel, hne⟩, hr⟩, hci⟩, ht1⟩, hr1⟩, hc1⟩, hr2⟩, hc2⟩, ht2⟩, hl⟩, hap, hapL⟩ := hB
  obtain ⟨p1, p2, p3⟩ := Oper.apart_spec hap
  have hsp := Region.noSelect_spec hsel
  refine ⟨fun h0 => (by rw [h0] at hci; simp at hci), fun k hkr => ?_⟩
  have hkk := List.all_eq_true.1 hr k hkr
  simp only [Bool.or_eq_true, beq_iff_eq] at hkk
  rcases hkk with rfl | rfl
  · refine h1.to hk fun v w1 hk1 hA => ⟨fun _ => hS _ (hk.trans hk1), ?_⟩
    have H := h v w1 (hk.trans hk1) hA
    have hm2 := h2.put hj oi.dst v (fun cs b => hsp j oj cs b hj) p1 (fun t ht => p2 t ht)
    rw [show fuel + is.length + 1 = (fuel + 1) + is.length by omega]
    have hkw := hk.trans hk1
    refine anyM_takes is hl hsel ht1 hQ (hS _ hkw) ?_
    -- the maker's word, behind the reads
    have hT : takesW P ops S (fun a' => Makes P ops w0 j oj a' B ∧ ∀ u w'', Kp w0 w'' → A v w'' → B u w'' → anyM P md ops Q S N fuel ((listAll is (listed.setIfInBounds k true)).setIfInBounds j true) (a'.put oj.dst u) w'') is (a.put oi.dst v) :=
      takesW_makes hj hsp is _ hapL hm2 H
    refine takesW_mono (fun a' hh => ?_) is _ hT
    refine ⟨fun h0 => (by rw [h0] at hc1; simp at hc1), fun m hm => ?_⟩
    have hmm := List.all_eq_true.1 hr1 m hm
    obtain rfl : m = j := by simpa using hmm
    exact hh.1.to hkw fun u w2 hk2 hBu => ⟨fun _ => hS _ (hkw.trans hk2), hh.2 u w2 (hkw.trans hk2) (mA _ _ _ hk2 hA) hBu⟩
  · refine h2.to hk fun u w1 hk1 hBu => ⟨fun _ => hS _ (hk.trans hk1), ?_⟩
    refine ⟨fun h0 => (by rw [h0] at hc2; simp at hc2), fun m hm => ?_⟩
    have hmm := List.all_eq_true.1 hr2 m hm
    obtain rfl : m = i := by simpa using hmm
    refine (h1.put hi oj.dst u (fun cs b => hsp m oi cs b hi) p3 (fun t ht e => p2 t e ht)).to (hk.trans hk1) fun v w2 hk2 hA => ⟨fun _ => hS _ (hk.trans (hk1.trans hk2)), ?_⟩
    have hkw := hk.trans (hk1.trans hk2)
    have H := h v w2 hkw hA
    refine anyM_takes is hl hsel ht2 hQ (hS _ hkw) ?_
    rw [Act.put_comm a u v (fun t ht e => p2 t e ht), Array.setIfInBounds_comm _ _ (fun e => hne e.symm), listAll_comm]
    exact takesW_put hsp (fun a' hh => hh u w2 hkw hA (mB _ _ _ hk2 hBu)) is _ hapL H
end
end Go.Proofs.Ytpmbjlmplfejgaa
