/- The law ImageReplays, at what the shell tells. -/
import Derived.Test.YtpmbjlmplfejgaaImaI
namespace Go.Proofs.Ytpmbjlmplfejgaa
open Go.RowKit
theorem law_ImageReplays' {A : Option Addr} {n c : Nat} {zs : List Int} {W : World} (h : IsRow .u64 W A n c zs) :
    Calls Try.prog 17 #[.slice A n c] W fun e w' => e = .returned (.bool true) ∧ Kp W w' := by
  have h1 := rd_row h
  refine law_ImageReplays A n c _ W h1.1 (inR_u64 h1.2.2) h1.2.1 ?_ (row_none h)
  rcases h with ⟨rfl, rfl, rfl, rfl⟩ | ⟨x, rfl, h1, h2, _⟩
  · exact Nat.zero_le _
  · exact h2
end Go.Proofs.Ytpmbjlmplfejgaa
