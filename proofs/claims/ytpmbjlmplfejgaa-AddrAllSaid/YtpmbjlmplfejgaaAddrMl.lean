/- The law AddrAll, at what the shell tells. -/
import Derived.Test.YtpmbjlmplfejgaaAddrM
import Derived.Test.YtpmbjlmplfejgaaOpenH
namespace Go.Proofs.Ytpmbjlmplfejgaa
open Go.RowKit
theorem law_AddrAll' {s l r : Int} {A : Option Addr} {n c : Nat} {hs : List Hd} {W : World} (h : IsHeads W A n c hs) :
    Calls Try.prog 16 #[geo s l r, .slice A n c] W fun e w' => e = .returned (.bool true) ∧ Kp W w' :=
  law_AddrAll s l r A n c hs W h.1 h.2.2.1 h.2.2.2.1
end Go.Proofs.Ytpmbjlmplfejgaa
