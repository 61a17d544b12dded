/- The law AddrSpots, at what the shell tells. -/
import Derived.Test.YtpmbjlmplfejgaaAddrL
import Derived.Test.YtpmbjlmplfejgaaOpenH
namespace Go.Proofs.Ytpmbjlmplfejgaa
open Go.RowKit
theorem law_AddrSpots' {s l r a i x : Int} {A : Option Addr} {n c : Nat} {hs : List Hd} {W : World} (h : IsHeads W A n c hs) (ha : (Lit.int .i64 a).wf = true) :
    Calls Try.prog 15 #[geo s l r, .slice A n c, .int .i64 a, .int .i64 i, .int .i64 x] W fun e w' => e = .returned (.bool true) ∧ Kp W w' :=
  law_AddrSpots s l r A n c hs a i x W h.1 h.2.2.1 h.2.2.2.1 (wf_i64 ha).2
end Go.Proofs.Ytpmbjlmplfejgaa
