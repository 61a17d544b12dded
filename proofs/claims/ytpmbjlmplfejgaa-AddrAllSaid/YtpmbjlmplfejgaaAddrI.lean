/- addr.Within. -/
import Derived.Test.YtpmbjlmplfejgaaAddrH
namespace Go.Proofs.Ytpmbjlmplfejgaa
open Go.RowKit Go.Shelf
set_option linter.unusedVariables false
set_option linter.unusedSimpArgs false
attribute [local go_sem] Oper.semAt_some

def hitB (a : Int) (x : Int × Int) : Prop := x.1 ≤ a ∧ a < x.2
def WithinP (ys : List (Int × Int)) (a k : Int) : Prop := (k = -1 ∧ ∀ y ∈ ys, ¬ hitB a y) ∨ ∃ pre x, pre ++ [x] <+: ys ∧ (∀ y ∈ pre, ¬ hitB a y) ∧ hitB a x ∧ k = x.1
def NoHit (a : Int) (ys : List (Int × Int)) : Prop := ∀ y ∈ ys, ¬ hitB a y
theorem NoHit.snoc {a : Int} {ys : List (Int × Int)} {x : Int × Int} (h : NoHit a ys) (hx : ¬ hitB a x) : NoHit a (ys ++ [x]) := fun y hy => by
  rcases List.mem_append.1 hy with h' | h'
  · exact h y h'
  · simp only [List.mem_singleton] at h'
    subst h'
    exact hx
theorem boxed_from {W W' : World} {B : Nat} {t : TypeId} {v : Value} {row : Option Nat} (h : Boxed W B t v) (hg : W.grownBy W' row) (hr : ∀ r, row = some r → ∃ o : Obj, W.heap[r]? = some o ∧ o.isCells = false) : Boxed W' B t v :=
  h.kept hg (fun e' => by obtain ⟨o, ho, hc⟩ := hr B e'.symm; rw [show W.heap[B]? = _ from h] at ho; cases ho; cases hc)
set_option maxRecDepth 100000 in
set_option maxHeartbeats 2000000 in
theorem within_in (nn : Nat) (hn3 : 3 ≤ nn) (s l r : Int) (A : Option Addr) (n c : Nat) (hs : List Hd) (a : Int) (w : World) (hr : RdH w A n hs) (hc : n ≤ c) (hcm : c ≤ maxLen) :
    CallsIn Fence.wide nn Try.prog 62 #[geo s l r, .slice A n c, .int .i64 a] w fun e W' => ∃ k, e = .returned (.int .i64 k) ∧ WithinP (yL s l r hs n) a k ∧ Kp w W' := by
  have h1 : 1 ≤ nn := by omega
  have HR := Lib.hid hr
  have HC := Lib.hid hcm
  clear hr hcm
  refine callsIn_of_wp_marks Try.func62 rfl trivial ?_ rfl
  simp only [Try.ntmps62, List.size_toArray, List.length_cons, List.length_nil, Nat.reduceAdd, Nat.reduceSub, Array.replicate_succ, Array.replicate_zero, List.push_toArray, List.append_toArray, List.nil_append, List.cons_append]
  gi_wp2_with fail
  refine ⟨trivial, (callsIn_wide.2 (blocksI_any s l r A n c _)).mono ?_⟩
  rintro e w' ⟨rfl, rfl⟩
  have bA := Boxed.new (w.alloc (.cells #[.int .i64 s, .int .i64 l, .int .i64 r] 38)) 3 (.int .i64 a)
  have bR := Boxed.new ((w.alloc (.cells #[.int .i64 s, .int .i64 l, .int .i64 r] 38)).alloc (.cells #[.int .i64 a] 3)) 3 (.int .i64 0)
  rw [World.size_alloc] at bA
  rw [World.size_alloc, World.size_alloc] at bR
  have bA := bA.alloc (.cells #[.int .i64 0] 3)
  have hk1 : Kp w (((w.alloc (.cells #[.int .i64 s, .int .i64 l, .int .i64 r] 38)).alloc (.cells #[.int .i64 a] 3)).alloc (.cells #[.int .i64 0] 3)) := ((Kp.self.alloc _).alloc _).alloc _
  have hs1 : (((w.alloc (.cells #[.int .i64 s, .int .i64 l, .int .i64 r] 38)).alloc (.cells #[.int .i64 a] 3)).alloc (.cells #[.int .i64 0] 3)).heap.size = w.heap.size + 3 := by simp
  gi_wp2_with fail
  generalize ((w.alloc (.cells #[.int .i64 s, .int .i64 l, .int .i64 r] 38)).alloc (.cells #[.int .i64 a] 3)).alloc (.cells #[.int .i64 0] 3) = W1 at *
  have e1 := World.alloc_heap_new W1 (.cells #[.int .i64 s, .int .i64 l, .int .i64 r] 38)
  have e2 := World.alloc_heap_new (W1.alloc (.cells #[.int .i64 s, .int .i64 l, .int .i64 r] 38)) (.cells #[.slice A n c] 74)
  rw [World.size_alloc, hs1] at e2
  rw [hs1] at e1
  refine wpIn_rangeFunc_ownG rfl h1 (gf := 164) (lb := #[.pointer (some ⟨w.heap.size + 3 + 1, 0, none⟩), .pointer (some ⟨w.heap.size + 3, 0, none⟩)]) rfl trivial (enters_of Try.func164 (by kernel_rfl) rfl)
    (blocks_stops (nn - 1) (by omega) s l r A n c hs w _ HR.out hc HC.out ((hk1.alloc _).alloc _) (w.heap.size + 3 + 1) (w.heap.size + 3) e2 ((Kp.self.alloc _).block _ (by simp; omega) |>.trans e1)) KB.trans (KB.putObj (by simp; omega)) (Below.refl _ _) (fun _ => rfl)
    (fun (pre : List (Int × Int)) W => (Boxed W (w.heap.size + 1) 3 (.int .i64 a) ∧ Boxed W (w.heap.size + 1 + 1) 3 (.int .i64 0)) ∧ NoHit a pre ∧ Below w.heap.size w W)
    (fun cd (pre : List (Int × Int)) W => cd = .ret ∧ ∃ p x, pre = p ++ [x] ∧ NoHit a p ∧ hitB a x ∧ Boxed W (w.heap.size + 1 + 1) 3 (.int .i64 x.1) ∧ Below w.heap.size w W)
    (OwnFrom.and (OwnFrom.and (Own.from (boxed_own _ _ _) _) (Own.from (boxed_own _ _ _) _)) (OwnFrom.and (ownFrom_pure _ (fun pre => NoHit a pre)) (ownFrom_below (Nat.le_refl _) (by simp; omega))))
    (fun cd p X Y row hx hg hr => by
      obtain ⟨h, p', x, e, h2, h3, h4, h5⟩ := hx
      exact ⟨h, p', x, e, h2, h3, boxed_from h4 hg (fun r e => (hr r e).2), h5.grown hg h5.size (fun k e => Nat.le_trans (by simp; omega) (hr k e).1)⟩)
    ?init
    (fun (x : Int × Int) => { tmps := #[geo s l r, .slice A n c, .int .i64 a, .pointer (some ⟨w.heap.size, 0, none⟩), undef, .pointer (some ⟨w.heap.size + 1, 0, none⟩), .pointer (some ⟨w.heap.size + 1 + 1, 0, none⟩), .int .i64 x.1, .int .i64 x.2, geo s l r, .slice A n c, .func (.func 164) #[] #[.pointer (some ⟨w.heap.size + 3 + 1, 0, none⟩), .pointer (some ⟨w.heap.size + 3, 0, none⟩)], .int .i64 x.1, .int .i64 x.2, undef, undef, undef, undef, undef, undef, undef, undef, undef], defers := [] }) ?assign ?body ?done ?stop
  case init => exact ⟨⟨(bA.alloc _).alloc _, (bR.alloc _).alloc _⟩, (fun y hy => by simp at hy), (hk1.alloc _).alloc _⟩
  case assign =>
    intro ly x W K hK
    gi_wp2
    exact hK
  case body =>
    rintro ly pre x W ⟨⟨hA, hB⟩, hpre, hBel⟩ hlt
    have hca := hA.cell
    have hcr := hB.cell
    have hfr := hB.frozen
    obtain ⟨x1, x2⟩ := x
    dsimp only
    by_cases g1 : a ≥ x1
    · by_cases g2 : a < x2
      · gi_wp2
        refine ⟨(KeepsOthers.setCell _ _ _).from _, rfl, pre, (x1, x2), rfl, hpre, ⟨g1, g2⟩, hB.set _, hBel.setCell (p := ⟨w.heap.size + 1 + 1, 0, none⟩) (by simp; omega) _⟩
      · have hp2 : NoHit a (pre ++ [(x1, x2)]) := hpre.snoc (fun h => g2 h.2)
        gi_wp2
        exact ⟨KeepsFrom.refl _ _, KB.refl _ _, ⟨hA, hB⟩, hp2, hBel⟩
    · have hp2 : NoHit a (pre ++ [(x1, x2)]) := hpre.snoc (fun h => g1 h.1)
      gi_wp2
      exact ⟨KeepsFrom.refl _ _, KB.refl _ _, ⟨hA, hB⟩, hp2, hBel⟩
  case done =>
    rintro D ys W hD rfl ⟨⟨hA, hB⟩, hpre, hBel⟩ hK
    have hcr := hB.cell
    have hfr := hB.frozen
    gi_wp2
    have hK' : (W.setCell ⟨w.heap.size + 1 + 1, 0, none⟩ (.int .i64 (-1))).heap[D]? = some (.deferred (some [])) := (KeepsOthers.setCell W ⟨w.heap.size + 1 + 1, 0, none⟩ (.int .i64 (-1))).same D _ hK rfl
    refine ⟨by simp, .inl ⟨_, _, rfl, run_takeDeferred hK', ?_⟩⟩
    have hc1 : ((W.setCell ⟨w.heap.size + 1 + 1, 0, none⟩ (.int .i64 (-1))).putObj D (.deferred none)).cell? ⟨w.heap.size + 1 + 1, 0, none⟩ = some (.int .i64 (-1)) := (boxed_from (hB.set (.int .i64 (-1))) (grownBy_putObj' _ D _) (fun r e => by cases e; exact ⟨_, hK', rfl⟩)).cell
    exact ⟨.int .i64 (-1), by simp [results, Try.results62, go_sem, hc1], -1, rfl, .inl ⟨rfl, hpre⟩, (hBel.setCell (p := ⟨w.heap.size + 1 + 1, 0, none⟩) (by simp; omega) _).trans (belowK_b (w := w) (Nat.le_refl _) _ D _ _ (by simp at hD; omega) hK' rfl rfl)⟩
  case stop =>
    rintro D cd pre W hD hpf ⟨rfl, p, x, rfl, hp, hx, hB, hBel⟩ hK
    have hcr := hB.cell
    gi_wp2
    refine ⟨by simp, .inl ⟨_, _, rfl, run_takeDeferred hK, ?_⟩⟩
    have hc1 : (W.putObj D (.deferred none)).cell? ⟨w.heap.size + 1 + 1, 0, none⟩ = some (.int .i64 x.1) := (boxed_from hB (grownBy_putObj' _ D _) (fun r e => by cases e; exact ⟨_, hK, rfl⟩)).cell
    exact ⟨.int .i64 x.1, by simp [results, Try.results62, go_sem, hc1], x.1, rfl, .inr ⟨p, x, hpf, hp, hx, rfl⟩, hBel.trans (belowK_b (w := w) (Nat.le_refl _) _ D _ _ (by simp at hD; omega) hK rfl rfl)⟩
end Go.Proofs.Ytpmbjlmplfejgaa
