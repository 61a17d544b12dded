/- Boxes of three cells that are written. -/
import Derived.Test.YtpmbjlmplfejgaaLib
namespace Go.Proofs.Ytpmbjlmplfejgaa
open Go.RowKit
set_option linter.unusedVariables false

theorem boxf3 {w w1 : World} {a b c : Value} {t : TypeId} (h : Kp (w.alloc (.cells #[a, b, c] t)) w1) :
    w1.frozen? ⟨w.heap.size, 0, none⟩ = false ∧ w1.frozen? ⟨w.heap.size, 1, none⟩ = false ∧ w1.frozen? ⟨w.heap.size, 2, none⟩ = false := by
  have hb : w.heap.size < (w.alloc (.cells #[a, b, c] t)).heap.size := by simp
  refine ⟨(Below.frozen h hb).trans ?_, (Below.frozen h hb).trans ?_, (Below.frozen h hb).trans ?_⟩ <;> rw [World.frozen?_alloc_at _ _ _ _ (by simp)]
theorem Kp.set {w W : World} (h : Kp w W) (p : Addr) (u : Value) (hp : w.heap.size ≤ p.block) : Kp w (W.setCell p u) :=
  ((h.upd fun _ => False).set p (fun hb => absurd hp (by omega)) u).kpOf (fun _ _ f => f)
theorem set3 {w W : World} {g : Nat} {a b c : Value} (u v x : Value) (hk : Kp w W) (hg : w.heap.size ≤ g)
    (h0 : W.cell? ⟨g, 0, none⟩ = some a) (h1 : W.cell? ⟨g, 1, none⟩ = some b) (h2 : W.cell? ⟨g, 2, none⟩ = some c) :
    (((W.setCell ⟨g, 0, none⟩ u).setCell ⟨g, 1, none⟩ v).setCell ⟨g, 2, none⟩ x).cell? ⟨g, 0, none⟩ = some u ∧
    (((W.setCell ⟨g, 0, none⟩ u).setCell ⟨g, 1, none⟩ v).setCell ⟨g, 2, none⟩ x).cell? ⟨g, 1, none⟩ = some v ∧
    (((W.setCell ⟨g, 0, none⟩ u).setCell ⟨g, 1, none⟩ v).setCell ⟨g, 2, none⟩ x).cell? ⟨g, 2, none⟩ = some x ∧
    Kp w (((W.setCell ⟨g, 0, none⟩ u).setCell ⟨g, 1, none⟩ v).setCell ⟨g, 2, none⟩ x) := by
  refine ⟨?_, ?_, ?_, ((hk.set _ _ hg).set _ _ hg).set _ _ hg⟩
  · rw [World.cell?_setCell_other _ _ _ _ (by simp), World.cell?_setCell_other _ _ _ _ (by simp)]
    exact cell_set_same h0
  · rw [World.cell?_setCell_other _ _ _ _ (by simp)]
    exact cell_set_same (by rw [World.cell?_setCell_other _ _ _ _ (by simp)]; exact h1)
  · exact cell_set_same (by rw [World.cell?_setCell_other _ _ _ _ (by simp), World.cell?_setCell_other _ _ _ _ (by simp)]; exact h2)
theorem wp_region_Md {P : Program} {ops : Array Oper} {Q : Exit → Act → World → Prop} {id : Nat} {a : Act} {w : World} (N : List Nat) (S : World → Prop) (hm : P.follows .mixedOrders = true)
    (h : anyM P .any ops Q S N ops.size (Array.replicate ops.size false) a w.drew) : (Code.region id ops true).wp P Q a w := wp_region_M N S hm h
end Go.Proofs.Ytpmbjlmplfejgaa
