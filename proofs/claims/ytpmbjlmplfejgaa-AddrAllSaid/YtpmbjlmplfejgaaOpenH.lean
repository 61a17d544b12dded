/- Arguments that are slices of heads: what the shell of a law tells of them. -/
import Derived.Test.YtpmbjlmplfejgaaAddrA
import Derived.Test.YtpmbjlmplfejgaaOpen
namespace Go.Proofs.Ytpmbjlmplfejgaa
open Go.ChangeShapes Go.WideShapes Go.ChangeAt Go.RowKit Go.Joins Go.Deep
set_option linter.unusedVariables false

theorem cells42 : Try.prog.cellsOf 42 = 3 := by kernel_rfl
theorem len_three {α : Type} {l : List α} (h : l.length = 3) : ∃ u v x, l = [u, v, x] := by
  match l, h with
  | [u, v, x], _ => exact ⟨u, v, x, rfl⟩
def InH (hs : List Hd) : Prop := ∀ h ∈ hs, (Lit.int .i64 h.1).wf = true ∧ (Lit.int .i64 h.2.1).wf = true ∧ (Lit.int .i64 h.2.2).wf = true
/-- What is told of a slice of heads that came in. -/
def IsHeads (w : World) (A : Option Addr) (len cap : Nat) (hs : List Hd) : Prop := RdH w A len hs ∧ InH hs ∧ len ≤ cap ∧ cap ≤ maxLen ∧ (A = none → len = 0 ∧ cap = 0)

theorem open_heads {H : Type} {enc : TypeId × Value → H} {w : World} {base : Nat} {spare : Nat → Bool} {held : Bool} {fuel : Nat} {cs : List Value} {x : DataW H × List MemPlace}
    (h : DataW.trod enc Try.prog w base spare held fuel 74 cs = some x) : ∃ A len cap hs, cs = [.slice A len cap] ∧ IsHeads w A len cap hs := by
  rcases open_slice Try.underlying74 h with ⟨rfl, _⟩ | ⟨a, len, cap, m, n, D, Pl, rfl, hb, hl, hm, hmm, rfl, hx⟩
  · exact ⟨none, 0, 0, [], rfl, RdH.nil, fun h hh => (by cases hh), by omega, by omega, fun _ => ⟨rfl, rfl⟩⟩
  · have hlm : len ≤ m := by rw [hmm]; split <;> omega
    rw [cells42] at hx
    obtain ⟨f, hf⟩ := choose_lt (n := len) (p := fun i (e : Hd) => (w.cell? (a.add (i * 3)) = some (.int .i64 e.1) ∧ w.cell? ⟨(a.add (i * 3)).block, (a.add (i * 3)).off + 1, none⟩ = some (.int .i64 e.2.1) ∧ w.cell? ⟨(a.add (i * 3)).block, (a.add (i * 3)).off + 2, none⟩ = some (.int .i64 e.2.2)) ∧ (Lit.int .i64 e.1).wf = true ∧ (Lit.int .i64 e.2.1).wf = true ∧ (Lit.int .i64 e.2.2).wf = true) (fun i hi => by
      obtain ⟨cs', h1, h2⟩ := hx i (by omega)
      obtain ⟨_, hlen, hc⟩ := World.cells?_some h1
      obtain ⟨y0, y1, y2, n', _, _, k0, k1, k2⟩ := trod_struct3 Try.underlying42 h2
      obtain ⟨u, v, z, rfl⟩ := len_three hlen
      rw [show (Try.prog.cellsOf 3) = 1 from cells3] at k0 k1 k2
      obtain ⟨p, e0, _, w0⟩ := DataW.trod_int (k := .i64) (by kernel_rfl) k0
      obtain ⟨q, e1, _, w1⟩ := DataW.trod_int (k := .i64) (by kernel_rfl) k1
      obtain ⟨t, e2, _, w2⟩ := DataW.trod_int (k := .i64) (by kernel_rfl) k2
      simp at e0 e1 e2
      subst e0
      subst e1
      subst e2
      have c0 := hc 0 (by omega)
      have c1 := hc 1 (by omega)
      have c2 := hc 2 (by omega)
      refine ⟨(p, q, t), ⟨?_, ?_, ?_⟩, w0, w1, w2⟩
      · simpa [Addr.add] using c0
      · simpa [Addr.add] using c1
      · simpa [Addr.add] using c2)
    refine ⟨some a, len, cap, (List.range len).map f, rfl, ⟨by simp, by simp only [maxLen] at hm; omega, fun _ => ⟨a, rfl, fun j hj => ?_⟩⟩, ?_, hl, hm, fun e => by cases e⟩
    · have e : hdAt ((List.range len).map f) j = f j := by unfold hdAt; rw [List.getElem?_map, List.getElem?_range hj]; rfl
      rw [e]
      exact (hf j hj).1
    · intro e he
      simp only [List.mem_map, List.mem_range] at he
      obtain ⟨i, hi, rfl⟩ := he
      exact (hf i hi).2
end Go.Proofs.Ytpmbjlmplfejgaa
