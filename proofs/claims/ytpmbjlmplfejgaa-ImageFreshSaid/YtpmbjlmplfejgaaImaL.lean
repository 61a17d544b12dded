/- Ranges over an iterator that hands out memory: what a round may know of what it is handed. -/
import Derived.RangeFuncNested
import Derived.RangeFuncBox
import Derived.RangeFuncBound
import Derived.RangeFuncCalls
import Derived.RangeFuncLeaves
import Derived.Shelf.Abstract
import Derived.Shelf.RegionOpen
import Derived.WalkKit
import Derived.OwnWalkIn
import Derived.TacticsInMore
import Derived.LoopNIn
import Derived.LoopIn
import Derived.Maps.AppendAt
import Derived.Test.YtpmbjlmplfejgaaImaD
namespace Go.Proofs.Ytpmbjlmplfejgaa
open Go.RowKit
set_option linter.unusedVariables false

/-- An iterator's contract: at each yield the round may lean on G: what has come, what is handed, in the world of that moment. -/
def Hands {α : Type} (F : Fence) (n : Nat) (P : Program) (gf : Nat) (lb : Array Value) (encs : α → Array Value) (R : World → World → Prop) (G : List α → α → World → Prop) (S Sp : List α → Prop) (N : Nat) (w : World) : Prop :=
  ∀ (l : Nat) (J Jx : List α → World → Prop) (W : World), Below w.heap.size w W → AbidesFrom W.heap.size J → AbidesFrom W.heap.size Jx →
    (∀ pre x W1, J pre W1 → G pre x W1 → pre.length < N → YieldAt F (n - 1) P l (encs x) W1 fun e W' =>
      (e = .returned (.bool true) ∧ J (pre ++ [x]) W' ∧ R W1 W') ∨ (e = .returned (.bool false) ∧ Jx (pre ++ [x]) W')) →
    J [] W →
    CallsIn F n P gf (#[.func (.yield l) #[] #[]] ++ lb) W fun e W' => (∃ v, e = .returned v) ∧ ((∃ xs, S xs ∧ J xs W') ∨ (∃ pre, Sp pre ∧ Jx pre W'))

section
variable {F : Fence} {n : Nat} {P : Program} {α : Type} {ps : Array Tmp} {assign body : Code} {fn : FuncId} {tmps : Array Value} {B : Nat}
/-- The record of such a loop. -/
def recOf (fn : FuncId) (tmps : Array Value) (ps : Array Tmp) (assign body : Code) (B : Nat) (st : LoopState) (pe : Option Code) : Loop := { state := st, pending := pe, fn, tmps, params := ps, assign, body, defers := B }
/-- the loop's two blocks, and what the caller says -/
def Idle (I : List α → World → Prop) (rc : LoopState → Option Code → Loop) (B : Nat) (pre : List α) (W : World) : Prop := I pre W ∧ W.heap[B + 1]? = some (.loop (rc .ready none)) ∧ W.heap[B]? = some (.deferred (some []))
def Left (Ix : Code → List α → World → Prop) (rc : LoopState → Option Code → Loop) (B : Nat) (pre : List α) (W : World) : Prop := ∃ c, Ix c pre W ∧ W.heap[B + 1]? = some (.loop (rc .done (some c))) ∧ W.heap[B]? = some (.deferred (some []))

/-- One round, the thing handed being good. -/
theorem round_handed {encs : α → Array Value} {R : World → World → Prop} {G : List α → α → World → Prop} {N : Nat}
    (hfn : F.fn fn) (hKt : ∀ {A B C : World}, R A B → R B C → R A C) (hKb : ∀ (W : World) (l : Nat) (o o' : Obj), B ≤ l → W.heap[l]? = some o → o.isCells = false → o.isWalk = false → R W (W.putObj l o')) (hps : ∀ x, (encs x).size = ps.size)
    (I : List α → World → Prop) (Ix : Code → List α → World → Prop) (hI : OwnFrom B I) (hIx : ∀ c, OwnFrom B (Ix c)) (hG : ∀ pre, OwnFrom B (G pre)) (a₁ : α → Act)
    (hassign : ∀ (l : Nat) (x : α) (W : World) (K : Act → World → Prop), K (a₁ x) W →
      assign.wpIn (F.inRound l) (n - 1 - 1) P (Exit.then K (fun _ _ _ => False)) { tmps := (ps.zip (encs x)).foldl (fun t (p, v) => t.setIfInBounds p v) tmps, defers := [] } W)
    (hbody : ∀ (l : Nat) (pre : List α) (x : α) (W : World), I pre W → G pre x W → pre.length < N → body.wpIn (F.inRound l) (n - 1 - 1) P (ownPostG B R I Ix (pre ++ [x]) W) (a₁ x) W)
    (pre : List α) (x : α) (W : World) (hJ : Idle I (recOf fn tmps ps assign body B) B pre W) (hGx : G pre x W) (hlen : pre.length < N) :
    YieldAt F (n - 1 - 1) P (B + 1) (encs x) W fun e W' =>
      (e = .returned (.bool true) ∧ Idle I (recOf fn tmps ps assign body B) B (pre ++ [x]) W' ∧ R W W') ∨ (e = .returned (.bool false) ∧ Left Ix (recOf fn tmps ps assign body B) B (pre ++ [x]) W') := by
  obtain ⟨hi, hl, hk⟩ := hJ
  have hlt : B + 1 < W.heap.size := (Array.getElem?_eq_some_iff.1 hl).1
  refine ⟨fn, _, assign, body, run_yield (P := P) (args := encs x) hl (hps x), roundIn_of_wpIn hfn (hassign _ x W _ ⟨_, run_beginRound hl rfl, ?_⟩)⟩
  -- the record is busy
  generalize hW2 : W.putObj (B + 1) (.loop { recOf fn tmps ps assign body B .ready none with state := .busy }) = W2
  have hl2 : W2.heap[B + 1]? = some (.loop { recOf fn tmps ps assign body B .ready none with state := .busy }) := by rw [← hW2]; exact World.putObj_heap_same hlt
  have hk2 : W2.heap[B]? = some (.deferred (some [])) := by rw [← hW2]; exact (World.putObj_heap_other (by omega)).trans hk
  have hR2 : R W W2 := by rw [← hW2]; exact hKb _ _ _ _ (by omega) hl rfl rfl
  have hi2 : I pre W2 := by rw [← hW2]; exact hI.putObj _ hi (by omega) hl rfl
  have hg2 : G pre x W2 := by rw [← hW2]; exact (hG pre).putObj _ hGx (by omega) hl rfl
  refine wpIn_mono (hbody _ pre x W2 hi2 hg2 hlen) ?_
  intro e a3 W3 hp
  have leave : ∀ (jump : Option Code), KeepsFrom B W2 W3 → ∃ W4, W4 = W3.putObj (B + 1) (.loop (recOf fn tmps ps assign body B (if jump.isNone then .ready else .done) jump)) ∧
      (Instr.endRound (B + 1) jump).run P W3 = .ok (.bool jump.isNone) W4 ∧ W4.heap[B + 1]? = some (.loop (recOf fn tmps ps assign body B (if jump.isNone then .ready else .done) jump)) ∧ W4.heap[B]? = some (.deferred (some [])) ∧
      W3.heap[B + 1]? = some (.loop { recOf fn tmps ps assign body B .ready none with state := .busy }) := fun jump hk3 => by
    have hl3 := hk3.same _ _ (by omega) hl2 rfl
    exact ⟨_, rfl, run_endRound (P := P) jump hl3, World.putObj_heap_same (Array.getElem?_eq_some_iff.1 hl3).1, (World.putObj_heap_other (by omega)).trans (hk3.same _ _ (Nat.le_refl _) hk2 rfl), hl3⟩
  match e, hp with
  | .normal, ⟨hk3, hR3, hi3⟩ =>
    obtain ⟨W4, e4, hrun, h1, h2, hl3⟩ := leave none hk3
    refine ⟨_, _, hrun, .inl ⟨rfl, ⟨?_, h1, h2⟩, ?_⟩⟩
    · rw [e4]; exact hI.putObj _ hi3 (by omega) hl3 rfl
    · rw [e4]; exact hKt (hKt hR2 hR3) (hKb _ _ _ _ (by omega) hl3 rfl rfl)
  | .ret, ⟨hk3, hi3⟩ =>
    obtain ⟨W4, e4, hrun, h1, h2, hl3⟩ := leave (some .ret) hk3
    refine ⟨_, _, hrun, .inr ⟨rfl, .ret, ?_, h1, h2⟩⟩
    rw [e4]; exact (hIx _).putObj _ hi3 (by omega) hl3 rfl
  | .exit id, ⟨hk3, hi3⟩ =>
    obtain ⟨W4, e4, hrun, h1, h2, hl3⟩ := leave (some (.exit id)) hk3
    refine ⟨_, _, hrun, .inr ⟨rfl, .exit id, ?_, h1, h2⟩⟩
    rw [e4]; exact (hIx _).putObj _ hi3 (by omega) hl3 rfl
  | .goto t, ⟨hk3, hi3⟩ =>
    obtain ⟨W4, e4, hrun, h1, h2, hl3⟩ := leave (some (.goto t)) hk3
    refine ⟨_, _, hrun, .inr ⟨rfl, .goto t, ?_, h1, h2⟩⟩
    rw [e4]; exact (hIx _).putObj _ hi3 (by omega) hl3 rfl

/-- The statement, its iterator handing out memory. -/
theorem wpIn_rangeFunc_handed {g : Operand} {Q : Exit → Act → World → Prop} {a : Act} {w : World}
    (hro : F.round = none) (h1 : 1 ≤ n) {gf : Nat} {lb : Array Value} (hg : a.eval g = .func (.func gf) #[] lb) (hFg : F.fn gf) (eg : ∀ args w, (callFunc gf args).run P w = .ok (.enter gf args) w)
    {encs : α → Array Value} {R : World → World → Prop} {G : List α → α → World → Prop} {S Sp : List α → Prop} {N : Nat} {w0 : World} (hseq : Hands F (n - 1) P gf lb encs R G S Sp N w0)
    (hKt : ∀ {A B C : World}, R A B → R B C → R A C) (hKb : ∀ (W : World) (l : Nat) (o o' : Obj), w.heap.size ≤ l → W.heap[l]? = some o → o.isCells = false → o.isWalk = false → R W (W.putObj l o')) (hb0 : Below w0.heap.size w0 w) (hps : ∀ x, (encs x).size = ps.size)
    (I : List α → World → Prop) (Ix : Code → List α → World → Prop) (hI : OwnFrom w.heap.size I) (hIx : ∀ c, OwnFrom w.heap.size (Ix c)) (hG : ∀ pre, OwnFrom w.heap.size (G pre)) (h0 : I [] w) (a₁ : α → Act)
    (hassign : ∀ (l : Nat) (x : α) (W : World) (K : Act → World → Prop), K (a₁ x) W →
      assign.wpIn (F.inRound l) (n - 1 - 1) P (Exit.then K (fun _ _ _ => False)) { tmps := (ps.zip (encs x)).foldl (fun t (p, v) => t.setIfInBounds p v) a.tmps, defers := [] } W)
    (hbody : ∀ (l : Nat) (pre : List α) (x : α) (W : World), I pre W → G pre x W → pre.length < N → body.wpIn (F.inRound l) (n - 1 - 1) P (ownPostG w.heap.size R I Ix (pre ++ [x]) W) (a₁ x) W)
    (hdone : ∀ (D : Nat) (xs : List α) (W : World), w.heap.size ≤ D → S xs → I xs W → W.heap[D]? = some (.deferred (some [])) → Q .normal { a with defers := { target := .collected D, args := #[] } :: a.defers } W)
    (hstop : ∀ (D : Nat) (c : Code) (pre : List α) (W : World), w.heap.size ≤ D → Sp pre → Ix c pre W → W.heap[D]? = some (.deferred (some [])) → c.wpIn F n P Q { a with defers := { target := .collected D, args := #[] } :: a.defers } W) :
    (Code.rangeFunc g ps assign body).wpIn F n P Q a w := by
  refine wpIn_rangeFunc fun fn hfn => ?_
  rw [hro]
  generalize hB : w.heap.size = B at *
  generalize hW1 : (w.alloc (.deferred (some []))).alloc (.loop (recOf fn a.tmps ps assign body B .ready none)) = W1
  have hsz1 : (w.alloc (.deferred (some []))).heap.size = B + 1 := by rw [World.size_alloc, hB]
  have hL1 : W1.heap[B + 1]? = some (.loop (recOf fn a.tmps ps assign body B .ready none)) := by
    rw [← hW1, ← hsz1]; exact World.alloc_heap_new _ _
  have hK1 : W1.heap[B]? = some (.deferred (some [])) := by
    rw [← hW1]
    refine (Below.heap_alloc _ _ _ (by rw [hsz1]; omega)).trans ?_
    rw [← hB]; exact World.alloc_heap_new w _
  have hI1 : I [] W1 := by rw [← hW1]; exact hI.alloc _ (hI.alloc _ h0)
  have hs : W1.heap.size = B + 2 := by rw [← hW1, World.size_alloc, hsz1]
  have hb1 : Below w0.heap.size w0 W1 := by
    rw [← hW1]
    exact hb0.trans ((((Below.refl _ w).alloc (Nat.le_refl _) _).alloc (by simp) _).mono hb0.size)
  refine ⟨B + 1, [{ target := .collected B, args := #[] }], W1, { target := .fn (.func gf) lb, args := #[.func (.yield (B + 1)) #[] #[]] }, W1, gf, #[.func (.yield (B + 1)) #[] #[]] ++ lb, W1, ?_, ?_, ?_, ?_, fun _ => h1, ?_⟩
  · rw [← hW1, ← hB]; exact run_enterLoop_outer _ _ _ _ _
  · simp only [resolve, hg]
    simp [go_sem]
  · intro f' hf'; simp [Target.leads] at hf'; subst hf'; exact hFg
  · simp [invoke, go_sem, eg]
  · have low : ∀ {A : World} {row : Option Nat}, (∀ r, row = some r → W1.heap.size ≤ r ∧ ∃ o : Obj, A.heap[r]? = some o ∧ o.isWalk = true) → (∀ r, row = some r → B ≤ r ∧ ∃ o : Obj, A.heap[r]? = some o ∧ o.isCells = false) :=
      fun hr r e => by obtain ⟨hb, o, ho, hw⟩ := hr r e; exact ⟨by omega, o, ho, Obj.not_cells_of_walk hw⟩
    refine (hseq (B + 1) (Idle I (recOf fn a.tmps ps assign body B) B) (Left Ix (recOf fn a.tmps ps assign body B) B) W1 hb1 ?_ ?_ ?_ ⟨hI1, hL1, hK1⟩).mono ?_
    · rintro s A C row ⟨hs1, hs2, hs3⟩ hg' hr
      exact ⟨hI s A C row hs1 hg' (low hr), (grownBy_keeps hg' (fun r e => (hr r e).2) hs2 rfl).trans hs2, (grownBy_keeps hg' (fun r e => (hr r e).2) hs3 rfl).trans hs3⟩
    · rintro s A C row ⟨c, hs1, hs2, hs3⟩ hg' hr
      exact ⟨c, hIx c s A C row hs1 hg' (low hr), (grownBy_keeps hg' (fun r e => (hr r e).2) hs2 rfl).trans hs2, (grownBy_keeps hg' (fun r e => (hr r e).2) hs3 rfl).trans hs3⟩
    · intro pre x W hJ hGx hlen
      exact round_handed (R := R) hfn (fun h k => hKt h k) hKb hps I Ix hI hIx hG a₁ hassign hbody pre x W hJ hGx hlen
    · rintro e W2 ⟨⟨v, rfl⟩, ⟨xs, hS, hi, hl, hk⟩ | ⟨pre, hSp, c, hi, hl, hk⟩⟩
      · exact ⟨none, _, run_endLoop (P := P) hl (by simp [recOf]), hdone _ xs _ (Nat.le_refl _) hS (hI.putObj _ hi (by omega) hl rfl) ((World.putObj_heap_other (by omega)).trans hk)⟩
      · exact ⟨some c, _, run_endLoop (P := P) hl (by simp [recOf]), hstop _ c pre _ (Nat.le_refl _) hSp ((hIx c).putObj _ hi (by omega) hl rfl) ((World.putObj_heap_other (by omega)).trans hk)⟩
end
end Go.Proofs.Ytpmbjlmplfejgaa
