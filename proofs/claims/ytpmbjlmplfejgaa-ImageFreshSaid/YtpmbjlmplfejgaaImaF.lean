/- image.Replayed. -/
import Derived.Test.YtpmbjlmplfejgaaImaE
namespace Go.Proofs.Ytpmbjlmplfejgaa
open Go.RowKit Go.Shelf
set_option linter.unusedVariables false
set_option linter.unusedSimpArgs false
attribute [local go_sem] Oper.semAt_some

theorem boxed_at {W W' : World} {B : Nat} {t : TypeId} {v : Value} {row : Option Nat} (h : Boxed W B t v) (hg : W.grownBy W' row) (hr : ∀ r, row = some r → ∃ o : Obj, W.heap[r]? = some o ∧ o.isCells = false) : Boxed W' B t v :=
  h.kept hg (fun e' => by obtain ⟨o, ho, hc⟩ := hr B e'.symm; rw [show W.heap[B]? = _ from h] at ho; cases ho; cases hc)
theorem block_at {W W' : World} {b : Nat} {cs : Array Value} {t : TypeId} {fr : Nat × Nat} {row : Option Nat} (h : W.heap[b]? = some (.cells cs t fr)) (hg : W.grownBy W' row) (hr : ∀ r, row = some r → ∃ o : Obj, W.heap[r]? = some o ∧ o.isCells = false) : W'.heap[b]? = some (.cells cs t fr) :=
  (hg.block b (Array.getElem?_eq_some_iff.1 h).1 (fun e' => by obtain ⟨o, ho, hc⟩ := hr b e'.symm; rw [h] at ho; cases ho; cases hc)).trans h
theorem row_at {W W' : World} {base n : Nat} {e : TypeId} {size : Nat} {v : Value} {xs : List Value} {row : Option Nat} (h : W.ownsRow base e size v n xs) (hg : W.grownBy W' row) (hr : ∀ r, row = some r → ∃ o : Obj, W.heap[r]? = some o ∧ o.isCells = false) : W'.ownsRow base e size v n xs := by
  refine h.kept hg ?_
  rcases h.2 with ⟨rfl, _⟩ | ⟨g, cap, cur, rfl, _, hgb, _⟩
  · exact .inl rfl
  · refine .inr fun e' => ?_
    obtain ⟨o, ho, hc⟩ := hr g (by simpa [Value.ownBlock] using e'.symm)
    rw [hgb] at ho
    cases ho
    cases hc
/-- the cells of image.Replayed: its results' boxes, its geometry's, its row's -/
structure St (n₀ b2 b3 gb ob go cap n : Nat) (s L r : Int) (ys : List Int) (W : World) : Prop where
  r2 : Boxed W b2 27 (.slice none 0 0)
  r3 : Boxed W b3 46 (.int .i64 0)
  g : W.heap[gb]? = some (.cells #[.int .i64 s, .int .i64 L, .int .i64 r] 38 (0, 0))
  o : Boxed W ob 27 (.slice (some ⟨go, 0, none⟩) n cap)
  row : W.ownsRow n₀ 28 1 (.slice (some ⟨go, 0, none⟩) n cap) n (nums .u64 ys)
section
variable {n₀ b2 b3 gb ob go cap n : Nat} {s L r : Int} {ys : List Int} {W W' : World}
theorem St.from (h : St n₀ b2 b3 gb ob go cap n s L r ys W) {rw : Option Nat} (hg : W.grownBy W' rw) (hr : ∀ r, rw = some r → ∃ o : Obj, W.heap[r]? = some o ∧ o.isCells = false) : St n₀ b2 b3 gb ob go cap n s L r ys W' :=
  ⟨boxed_at h.r2 hg hr, boxed_at h.r3 hg hr, block_at h.g hg hr, boxed_at h.o hg hr, row_at h.row hg hr⟩
theorem St.kp (h : St n₀ b2 b3 gb ob go cap n s L r ys W) (hk : Kp W W') : St n₀ b2 b3 gb ob go cap n s L r ys W' := h.from (hk.to none) (fun r e => by cases e)
theorem St.rowAt (h : St n₀ b2 b3 gb ob go cap n s L r ys W) : ∃ cur, W.heap[go]? = some (.cells cur 28 (0, 0)) ∧ n₀ ≤ go := by
  rcases h.row.2 with ⟨h1, _⟩ | ⟨g, cap', cur, e, hb, hgb, _⟩
  · cases h1
  · injection e with e
    injection e with e
    injection e with e
    subst e
    exact ⟨cur, hgb, hb⟩
theorem St.set (h : St n₀ b2 b3 gb ob go cap n s L r ys W) (i : Nat) (hi : i < n) (x : Int) : St n₀ b2 b3 gb ob go cap n s L r (ys.set i x) (W.setCell ⟨go, i, none⟩ (.int .u64 x)) := by
  obtain ⟨cur, hc, _⟩ := h.rowAt
  have ne : ∀ {b : Nat} {cs : Array Value} {t : TypeId}, W.heap[b]? = some (.cells cs t (0, 0)) → t ≠ 28 → (W.setCell ⟨go, i, none⟩ (.int .u64 x)).heap[b]? = some (.cells cs t (0, 0)) := fun {b cs t} hb ht =>
    (Below.heap_setCell W ⟨go, i, none⟩ _ b (fun e => ht (by simp only at e; subst e; rw [hb] at hc; injection hc with hc; injection hc with h1 h2))).trans hb
  exact ⟨ne h.r2 (by decide), ne h.r3 (by decide), ne h.g (by decide), ne h.o (by decide), ownI_set h.row i hi x⟩
theorem KL.set (h : St n₀ b2 b3 gb ob go cap n s L r ys W) (i : Nat) (u : Value) : KL n₀ W (W.setCell ⟨go, i, none⟩ u) := by
  obtain ⟨cur, hc, hb⟩ := h.rowAt
  intro hn
  refine ⟨(Below.refl n₀ W).setCell (p := ⟨go, i, none⟩) hb _, fun b cs t ht hbb => ?_⟩
  exact (Below.heap_setCell W ⟨go, i, none⟩ _ b (fun e => by
    simp only at e
    subst e
    rw [hbb] at hc
    injection hc with hc
    injection hc with h1 h2
    subst h2
    rcases ht with h | h <;> cases h)).trans hbb
end
theorem others_kp {W W' : World} (hk : Kp W W') : KeepsOthers W W' := ⟨hk.size, fun k o h _ => (hk.block k (Array.getElem?_eq_some_iff.1 h).1).trans h⟩
theorem ownE_set {W : World} {n₀ go i : Nat} {cur : Array Value} {u v : Value} {es : List Ent} (h : OwnE W n₀ v es) (hc : W.heap[go]? = some (.cells cur 28 (0, 0))) : OwnE (W.setCell ⟨go, i, none⟩ u) n₀ v es := by
  refine h.kept (row := some go) ⟨rfl, rfl, rfl, (KeepsWalks.setCell W _ u).size, fun k _ hk => Below.heap_setCell _ _ _ k (fun e => hk (by rw [e]))⟩ ?_
  rcases h.2 with ⟨rfl, _⟩ | ⟨g, cap, cur', rfl, _, hgb, _⟩
  · exact .inl rfl
  · refine .inr fun e' => ?_
    have e' : g = go := by simpa [Value.ownBlock] using e'
    subst e'
    rw [hgb] at hc
    injection hc with hc
    injection hc with h1 h2
    cases h2
/-- what the loop over lanes says between two rounds -/
def IR (xs : List Int) (n₀ b2 b3 gb ob go cap n : Nat) (s L r : Int) (w : World) (pre : List Ln) (W : World) : Prop :=
  St n₀ b2 b3 gb ob go cap n s L r (repTo xs pre.length) W ∧ (∀ t, t < pre.length → ∀ e ∈ laneLog xs t, mayA s L r e.1 = true) ∧ Below n₀ w W
/-- .. and where it is left -/
def IXR (xs : List Int) (n₀ b2 b3 : Nat) (s L r : Int) (w : World) (c : Code) (pre : List Ln) (W : World) : Prop :=
  c = .ret ∧ Boxed W b2 27 (.slice none 0 0) ∧ Boxed W b3 46 (.int .i64 11) ∧ (∃ t : Nat, (t : Int) < L ∧ ∃ e ∈ laneLog xs t, mayA s L r e.1 = false) ∧ Below n₀ w W
theorem IR_own {xs : List Int} {n₀ b2 b3 gb ob go cap n : Nat} {s L r : Int} {w : World} {B : Nat} (h1 : n₀ ≤ w.heap.size) (h2 : n₀ ≤ B) : OwnFrom B (IR xs n₀ b2 b3 gb ob go cap n s L r w) := fun p X Y row h hg hr =>
  ⟨h.1.from hg (fun r e => (hr r e).2), h.2.1, h.2.2.grown hg (Nat.le_trans h1 h.2.2.size) (fun k e => Nat.le_trans h2 (hr k e).1)⟩
theorem IXR_own {xs : List Int} {n₀ b2 b3 : Nat} {s L r : Int} {w : World} {B : Nat} (h1 : n₀ ≤ w.heap.size) (h2 : n₀ ≤ B) (c : Code) : OwnFrom B (IXR xs n₀ b2 b3 s L r w c) := fun p X Y row h hg hr =>
  ⟨h.1, boxed_at h.2.1 hg (fun r e => (hr r e).2), boxed_at h.2.2.1 hg (fun r e => (hr r e).2), h.2.2.2.1, h.2.2.2.2.grown hg (Nat.le_trans h1 h.2.2.2.2.size) (fun k e => Nat.le_trans h2 (hr k e).1)⟩
theorem good_own {xs : List Int} {n₀ B : Nat} (pre : List Ln) : OwnFrom B (GoodL xs n₀ pre) := fun x X Y row h hg hr => ⟨h.1, h.2.1, row_at h.2.2.1 hg (fun r e => (hr r e).2), h.2.2.2⟩
end Go.Proofs.Ytpmbjlmplfejgaa
