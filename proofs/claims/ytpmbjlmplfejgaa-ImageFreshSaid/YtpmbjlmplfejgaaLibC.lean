/- Drawn regions: many that read, taken at once; two that make memory, in either order, with one tail. -/
import Derived.Test.YtpmbjlmplfejgaaLibB
namespace Go.Proofs.Ytpmbjlmplfejgaa
open Go.RowKit
set_option linter.unusedVariables false

section
variable {P : Program} {ops : Array Oper} {Q : Exit → Act → World → Prop} {md : Region.Mode} {S : World → Prop} {N : List Nat}

def takesW (P : Program) (ops : Array Oper) (S : World → Prop) (K : Act → Prop) : List Nat → Act → Prop
  | [], a => K a
  | i :: is, a => ∃ o v, ops[i]? = some o ∧ YieldsIf P ops S o v a ∧ takesW P ops S K is (a.put o.dst v)
def takesB (md : Region.Mode) (ops : Array Oper) : List Nat → Array Bool → Bool
  | [], _ => true
  | i :: is, listed => (Region.ready md ops listed).contains i && Region.free md ops listed i && takesB md ops is (listed.setIfInBounds i true)
def listAll : List Nat → Array Bool → Array Bool
  | [], l => l
  | i :: is, l => listAll is (l.setIfInBounds i true)
theorem takes_nil {K : Act → Prop} {a : Act} (h : K a) : takesW P ops S K [] a := h
theorem takes_pos {K : Act → Prop} {i : Nat} {is : List Nat} {a : Act} {o : Oper} {v : Value} (ho : ops[i]? = some o) (hw : Region.wanted o (yielded ops a.tmps) = true)
    (hv : ∀ w, S w → (execOp a.eval o).run P w = .ok (.value v) w) (h : takesW P ops S K is (a.put o.dst v)) : takesW P ops S K (i :: is) a := ⟨o, v, ho, .inl ⟨hw, hv⟩, h⟩
theorem takes_neg {K : Act → Prop} {i : Nat} {is : List Nat} {a : Act} {o : Oper} (ho : ops[i]? = some o) (hw : Region.wanted o (yielded ops a.tmps) = false)
    (h : takesW P ops S K is (a.put o.dst undef)) : takesW P ops S K (i :: is) a := ⟨o, undef, ho, .inr ⟨hw, rfl⟩, h⟩
theorem anyM_takes_go (M : List Nat) (hl : lateB md ops M N = true) (hs : Region.noSelect ops = true) (hQ : ∀ d v c a w, Q (.panic c) (Act.put a d v) w → Q (.panic c) a w) (fuel : Nat) (w : World) (hS : S w) :
    ∀ (is : List Nat) (listed : Array Bool) (a : Act), (∀ i ∈ is, i ∈ M) → takesB md ops is listed = true → takesW P ops S (fun a' => anyM P md ops Q S N fuel (listAll is listed) a' w) is a →
      anyM P md ops Q S N (fuel + is.length) listed a w
  | [], listed, a, _, _, h => h
  | i :: is, listed, a, hM, hB, h => by
    obtain ⟨o, v, ho, hy, h⟩ := h
    simp only [takesB, Bool.and_eq_true] at hB
    exact anyM_take (fuel := fuel + is.length) i M ho (hM i (by simp)) hl hs hB.1.2 hB.1.1 (hQ _ _) hy hS
      (anyM_takes_go M hl hs hQ fuel w hS is _ _ (fun j hj => hM j (by simp [hj])) hB.2 h)
/-- Take these first, in this order: they only read. -/
theorem anyM_takes (is : List Nat) {fuel : Nat} {listed : Array Bool} {a : Act} {w : World} (hl : lateB md ops is N = true) (hs : Region.noSelect ops = true) (hB : takesB md ops is listed = true)
    (hQ : ∀ d v c a w, Q (.panic c) (Act.put a d v) w → Q (.panic c) a w) (hS : S w) (h : takesW P ops S (fun a' => anyM P md ops Q S N fuel (listAll is listed) a' w) is a) :
    anyM P md ops Q S N (fuel + is.length) listed a w := anyM_takes_go is hl hs hQ fuel w hS is listed a (fun _ h => h) hB h

/-- An operation that makes memory, in any later world: what it yields meets A. -/
def Makes (P : Program) (ops : Array Oper) (w0 : World) (i : Nat) (o : Oper) (a : Act) (A : Value → World → Prop) : Prop :=
  ∀ w, Kp w0 w → wpOp P ops (fun _ _ _ => False) i (fun a' w' => ∃ v, a' = a.put o.dst v ∧ Kp w w' ∧ A v w') a w
theorem makes_of {i : Nat} {o : Oper} {a : Act} {w0 : World} {A : Value → World → Prop} (ho : ops[i]? = some o)
    (h : ∀ w, Kp w0 w → wpList P ops (After (fun _ _ _ => False) fun a' w' => ∃ v, a' = a.put o.dst v ∧ Kp w w' ∧ A v w') [o] a w) : Makes P ops w0 i o a A :=
  fun w hk => wpOp_of_after ho (h w hk)
theorem Makes.to {i : Nat} {o : Oper} {a : Act} {w0 : World} {A : Value → World → Prop} (h : Makes P ops w0 i o a A) {w : World} (hk : Kp w0 w) {K : Act → World → Prop}
    (hK : ∀ v w', Kp w w' → A v w' → K (a.put o.dst v) w') : wpOp P ops Q i K a w := by
  have H := wpOp_mono (K' := K) (fun a' w' ⟨v, e, k1, k2⟩ => by subst e; exact hK v w' k1 k2) (h w hk)
  unfold wpOp at *
  split
  · rename_i e; simp only [e] at H; exact H
  · rename_i o' e
    simp only [e] at H
    split
    · rename_i hw
      simp only [hw, if_true] at H
      rcases H with H | ⟨_, _, _, H⟩
      · refine .inl ?_
        unfold Oper.wp at *
        generalize (execOp a.eval o').run P w = r at *
        cases r with
        | ok n w' =>
          cases n <;> simp only [Oper.upon] at H ⊢ <;>
            first
              | exact H
              | exact Calls.mono H (fun e w'' he => by cases e <;> first | exact he | exact False.elim he | (obtain ⟨_, _, h⟩ := he; exact h.elim))
              | exact Rows.mono H (fun _ _ he => he)
        | halt x w' => cases x <;> simp only [Oper.upon] at H ⊢ <;> exact H.elim
      · exact H.elim
    · rename_i hw
      simp only [hw] at H
      exact H
theorem Makes.put {i : Nat} {o : Oper} {a : Act} {w0 : World} {A : Value → World → Prop} (ho : ops[i]? = some o) (h : Makes P ops w0 i o a A) (d : Option Tmp) (x : Value)
    (hs : ∀ cs b, o.op ≠ .select cs b) (h1 : ∀ t, d = some t → t ∉ o.looksAt ops) (h2 : ∀ t, d = some t → o.dst ≠ some t) : Makes P ops w0 i o (a.put d x) A := by
  intro w hk
  have H := h w hk
  unfold wpOp at *
  simp only [ho] at *
  rw [wanted_put o a d x h1]
  split
  · rename_i hw
    simp only [hw, if_true] at H
    rcases H with H | ⟨_, _, _, H⟩
    · refine .inl ?_
      unfold Oper.wp at *
      rw [execOp_put o hs a d x h1]
      generalize (execOp a.eval o).run P w = r at *
      cases r with
      | ok n w' =>
        cases n <;> simp only [Oper.upon] at H ⊢
        case value u =>
          obtain ⟨v, e, k1, k2⟩ := H
          exact ⟨v, by rw [Act.put_comm a x u h2, e, Act.put_comm a x v h2], k1, k2⟩
        case skip =>
          obtain ⟨v, e, k1, k2⟩ := H
          exact ⟨v, by rw [Act.put_comm a x undef h2, e, Act.put_comm a x v h2], k1, k2⟩
        case defer dd =>
          obtain ⟨v, e, k1, k2⟩ := H
          refine ⟨v, ?_, k1, k2⟩
          rw [Act.put_defers, Act.put_comm _ x undef h2, e, Act.put_comm a x v h2]
        case enter f args =>
          refine Calls.mono H fun e w'' he => ?_
          cases e with
          | returned u =>
            obtain ⟨v, e, k1, k2⟩ := he
            exact ⟨v, by rw [Act.put_comm a x u h2, e, Act.put_comm a x v h2], k1, k2⟩
          | panicked c => exact he
          | outgrown => exact he
        case row row args =>
          refine Rows.mono H fun u w'' he => ?_
          obtain ⟨v, e, k1, k2⟩ := he
          exact ⟨v, by rw [Act.put_comm a x u h2, e, Act.put_comm a x v h2], k1, k2⟩
      | halt y w' => cases y <;> simp only [Oper.upon] at H ⊢ <;> exact H.elim
    · exact H.elim
  · rename_i hw
    simp only [hw] at H
    obtain ⟨v, e, k1, k2⟩ := H
    exact ⟨v, by rw [Act.put_comm a x undef h2, e, Act.put_comm a x v h2], k1, k2⟩
def twoB (md : Region.Mode) (ops : Array Oper) (listed : Array Bool) (i j : Nat) : Bool :=
  Region.noSelect ops && (i != j) && (Region.ready md ops listed).all (fun k => k == i || k == j) && (Region.ready md ops listed).contains i && (Region.ready md ops (listed.setIfInBounds i true)).all (fun k => k == j) && (Region.ready md ops (listed.setIfInBounds j true)).all (fun k => k == i) &&
  (Region.ready md ops (listed.setIfInBounds i true)).contains j && (Region.ready md ops (listed.setIfInBounds j true)).contains i &&
  (match ops[i]?, ops[j]? with
   | some oi, some oj => oi.apart ops oj
   | _, _ => false)
/-- Two that make memory, in either order. -/
theorem anyM_two (i j : Nat) {oi oj : Oper} {fuel : Nat} {listed : Array Bool} {a : Act} {w0 w : World} {A B : Value → World → Prop}
    (hi : ops[i]? = some oi) (hj : ops[j]? = some oj) (hB : twoB md ops listed i j = true) (hk : Kp w0 w) (hS : ∀ w', Kp w0 w' → S w')
    (mA : ∀ v w w', Kp w w' → A v w → A v w') (mB : ∀ v w w', Kp w w' → B v w → B v w')
    (h1 : Makes P ops w0 i oi a A) (h2 : Makes P ops w0 j oj a B)
    (h : ∀ v u w', Kp w0 w' → A v w' → B u w' → anyM P md ops Q S N fuel ((listed.setIfInBounds i true).setIfInBounds j true) ((a.put oi.dst v).put oj.dst u) w') :
    anyM P md ops Q S N (fuel + 2) listed a w := by
  simp only [twoB, hi, hj, Bool.and_eq_true, bne_iff_ne, ne_eq] at hB
  obtain ⟨⟨⟨⟨⟨⟨⟨⟨hsel, hne⟩, hr⟩, hri⟩, hrI⟩, hrJ⟩, hcI⟩, hcJ⟩, hap⟩ := hB
  obtain ⟨p1, p2, p3⟩ := Oper.apart_spec hap
  have si := fun cs b => Region.noSelect_spec hsel i oi cs b hi
  have sj := fun cs b => Region.noSelect_spec hsel j oj cs b hj
  have ne_of : ∀ {l : List Nat} {x : Nat}, l.contains x = true → l ≠ [] := fun hx e => by rw [e] at hx; simp at hx
  refine ⟨fun h0 => absurd h0 (ne_of hri), fun k hkr => ?_⟩
  have hkk := List.all_eq_true.1 hr k hkr
  simp only [Bool.or_eq_true, beq_iff_eq] at hkk
  rcases hkk with rfl | rfl
  · refine h1.to hk fun v w1 hk1 hA => ⟨fun _ => hS _ (hk.trans hk1), fun h0 => absurd h0 (ne_of hcI), fun m hm => ?_⟩
    have hmm := List.all_eq_true.1 hrI m hm
    obtain rfl : m = j := by simpa using hmm
    refine (h2.put hj oi.dst v sj p1 (fun t ht => p2 t ht)).to (hk.trans hk1) fun u w2 hk2 hB => ⟨fun _ => hS _ (hk.trans (hk1.trans hk2)), ?_⟩
    exact h v u w2 (hk.trans (hk1.trans hk2)) (mA _ _ _ hk2 hA) hB
  · refine h2.to hk fun u w1 hk1 hB => ⟨fun _ => hS _ (hk.trans hk1), fun h0 => absurd h0 (ne_of hcJ), fun m hm => ?_⟩
    have hmm := List.all_eq_true.1 hrJ m hm
    obtain rfl : m = i := by simpa using hmm
    refine (h1.put hi oj.dst u si p3 (fun t ht e => p2 t e ht)).to (hk.trans hk1) fun v w2 hk2 hA => ⟨fun _ => hS _ (hk.trans (hk1.trans hk2)), ?_⟩
    rw [Array.setIfInBounds_comm _ _ (fun e => hne e.symm), Act.put_comm a u v (fun t ht e => p2 t e ht)]
    exact h v u w2 (hk.trans (hk1.trans hk2)) hA (mB _ _ _ hk2 hB)
end
end Go.Proofs.Ytpmbjlmplfejgaa
