/- Arguments that are slices of structs of whole numbers: what the shell of a law tells of them. -/
import Derived.Test.YtpmbjlmplfejgaaEntF
import Derived.Lib.SmallJoins
import Derived.Deep.Slices
import Derived.Deep.Strs
namespace Go.Proofs.Ytpmbjlmplfejgaa
open Go.ChangeShapes Go.WideShapes Go.ChangeAt Go.RowKit Go.Joins Go.Deep
set_option linter.unusedVariables false

theorem cells136 : Try.prog.cellsOf 136 = 2 := by kernel_rfl
theorem cells3 : Try.prog.cellsOf 3 = 1 := by kernel_rfl
theorem cells28 : Try.prog.cellsOf 28 = 1 := by kernel_rfl

theorem len_two {α : Type} {l : List α} (h : l.length = 2) : ∃ u v, l = [u, v] := by
  match l, h with
  | [u, v], _ => exact ⟨u, v, rfl⟩
/-- What is told of a slice of entries that came in. -/
def IsEnts (w : World) (A : Option Addr) (len cap : Nat) (es : List Ent) : Prop := RdE w A len es ∧ InE es ∧ len ≤ cap ∧ cap ≤ maxLen ∧ (A = none → len = 0 ∧ cap = 0)

theorem open_ents {H : Type} {enc : TypeId × Value → H} {w : World} {base : Nat} {spare : Nat → Bool} {held : Bool} {fuel : Nat} {cs : List Value} {x : DataW H × List MemPlace}
    (h : DataW.trod enc Try.prog w base spare held fuel 53 cs = some x) : ∃ A len cap es, cs = [.slice A len cap] ∧ IsEnts w A len cap es := by
  rcases open_slice Try.underlying53 h with ⟨rfl, _⟩ | ⟨a, len, cap, m, n, D, Pl, rfl, hb, hl, hm, hmm, rfl, hx⟩
  · exact ⟨none, 0, 0, [], rfl, RdE.nil, InE.nil, by omega, by omega, fun _ => ⟨rfl, rfl⟩⟩
  · have hlm : len ≤ m := by rw [hmm]; split <;> omega
    rw [cells136] at hx
    obtain ⟨f, hf⟩ := choose_lt (n := len) (p := fun i (e : Ent) => (w.cell? (a.add (i * 2)) = some (.int .i64 e.1) ∧ w.cell? ⟨(a.add (i * 2)).block, (a.add (i * 2)).off + 1, none⟩ = some (.int .u64 e.2)) ∧ (Lit.int .i64 e.1).wf = true ∧ (Lit.int .u64 e.2).wf = true) (fun i hi => by
      obtain ⟨cs', h1, h2⟩ := hx i (by omega)
      obtain ⟨_, hlen, hc⟩ := World.cells?_some h1
      obtain ⟨y0, y1, n', _, _, k0, k1⟩ := trod_struct2 Try.underlying136 h2
      obtain ⟨u, v, rfl⟩ := len_two hlen
      · rw [show (Try.prog.cellsOf 3) = 1 from cells3] at k0
        rw [show (Try.prog.cellsOf 28) = 1 from cells28] at k1
        obtain ⟨p, e0, _, w0⟩ := DataW.trod_int (k := .i64) (by kernel_rfl) k0
        obtain ⟨q, e1, _, w1⟩ := DataW.trod_int (k := .u64) (by kernel_rfl) k1
        simp at e0 e1
        subst e0
        subst e1
        have c0 := hc 0 (by omega)
        have c1 := hc 1 (by omega)
        refine ⟨(p, q), ⟨?_, ?_⟩, w0, w1⟩
        · simpa [Addr.add] using c0
        · simpa [Addr.add] using c1)
    refine ⟨some a, len, cap, (List.range len).map f, rfl, ⟨by simp, by simp only [maxLen] at hm; omega, fun _ => ⟨a, rfl, fun j hj => ?_⟩⟩, ?_, hl, hm, fun e => by cases e⟩
    · have e : entAt ((List.range len).map f) j = f j := by unfold entAt; rw [List.getElem?_map, List.getElem?_range hj]; rfl
      rw [e]
      exact (hf j hj).1
    · intro e he
      simp only [List.mem_map, List.mem_range] at he
      obtain ⟨i, hi, rfl⟩ := he
      exact ⟨wf_i64 (hf i hi).2.1, wf_u64 (hf i hi).2.2⟩
end Go.Proofs.Ytpmbjlmplfejgaa
