/- Slices of heads; slices.ContainsFunc over heads; which heads are a geometry's; classes. -/
import Derived.Test.YtpmbjlmplfejgaaHeadG
import Derived.Test.YtpmbjlmplfejgaaPartA
import Derived.Test.YtpmbjlmplfejgaaLibC
namespace Go.Proofs.Ytpmbjlmplfejgaa
open Go.RowKit
set_option linter.unusedVariables false
set_option linter.unusedSimpArgs false

abbrev Hd := Int × Int × Int
def hdAt (hs : List Hd) (j : Nat) : Hd := hs[j]?.getD (0, 0, 0)
def hOk (h : Hd) : Bool := hMay h.1 h.2.1 h.2.2
/-- A slice of heads that is read. -/
def RdH (w : World) (A : Option Addr) (n : Nat) (hs : List Hd) : Prop :=
  hs.length = n ∧ n ≤ 9223372036854775807 ∧ (0 < n → ∃ ad, A = some ad ∧ ∀ j, j < n → w.cell? (ad.add (j * 3)) = some (.int .i64 (hdAt hs j).1) ∧
    w.cell? ⟨(ad.add (j * 3)).block, (ad.add (j * 3)).off + 1, none⟩ = some (.int .i64 (hdAt hs j).2.1) ∧ w.cell? ⟨(ad.add (j * 3)).block, (ad.add (j * 3)).off + 2, none⟩ = some (.int .i64 (hdAt hs j).2.2))
theorem RdH.kp {w w' : World} {A : Option Addr} {n : Nat} {hs : List Hd} (h : RdH w A n hs) (hk : Kp w w') : RdH w' A n hs :=
  ⟨h.1, h.2.1, fun hn => by obtain ⟨ad, e, hc⟩ := h.2.2 hn; exact ⟨ad, e, fun j hj => ⟨hk.cell (hc j hj).1, hk.cell (hc j hj).2.1, hk.cell (hc j hj).2.2⟩⟩⟩
theorem RdH.at_ {w : World} {A : Option Addr} {n : Nat} {hs : List Hd} (h : RdH w A n hs) (j : Nat) (hj : j < n) :
    ∃ ad, A = some ad ∧ w.cell? (ad.add (j * 3)) = some (.int .i64 (hdAt hs j).1) ∧
    w.cell? ⟨(ad.add (j * 3)).block, (ad.add (j * 3)).off + 1, none⟩ = some (.int .i64 (hdAt hs j).2.1) ∧ w.cell? ⟨(ad.add (j * 3)).block, (ad.add (j * 3)).off + 2, none⟩ = some (.int .i64 (hdAt hs j).2.2) := by
  obtain ⟨ad, e, hc⟩ := h.2.2 (by omega)
  exact ⟨ad, e, hc j hj⟩
theorem RdH.nil {w : World} {A : Option Addr} : RdH w A 0 [] := ⟨rfl, by omega, fun h => absurd h (by omega)⟩
theorem hdAt_mem {hs : List Hd} {j : Nat} (hj : j < hs.length) : hdAt hs j ∈ hs := by
  unfold hdAt
  rw [List.getElem?_eq_getElem hj]
  exact List.getElem_mem hj
theorem hdAt_eq {hs : List Hd} {j : Nat} (hj : j < hs.length) : hdAt hs j = hs[j] := by
  unfold hdAt
  rw [List.getElem?_eq_getElem hj]
  rfl
theorem hdAt_drop (hs : List Hd) (k j : Nat) : hdAt (hs.drop k) j = hdAt hs (k + j) := by
  unfold hdAt
  rw [List.getElem?_drop]
theorem hdAt_take (hs : List Hd) (k j : Nat) (h : j < k) : hdAt (hs.take k) j = hdAt hs j := by
  unfold hdAt
  rw [List.getElem?_take, if_pos h]
/-- So many heads, from one on. -/
theorem RdH.cut {w : World} {ad : Addr} {n : Nat} {hs : List Hd} (h : RdH w (some ad) n hs) (k m : Nat) (hk : k + m ≤ n) : RdH w (some (ad.add (k * 3))) m ((hs.drop k).take m) := by
  refine ⟨by rw [List.length_take, List.length_drop, h.1]; omega, by have := h.2.1; omega, fun hp => ⟨_, rfl, fun j hj => ?_⟩⟩
  obtain ⟨ad', e, hc⟩ := h.at_ (k + j) (by omega)
  injection e with e
  subst e
  rw [hdAt_take _ _ _ hj, hdAt_drop, Addr.add_add, show k * 3 + j * 3 = (k + j) * 3 by omega]
  exact hc

set_option maxHeartbeats 1000000 in
set_option maxRecDepth 100000 in
theorem indexH_any (A : Option Addr) (n c : Nat) (hs : List Hd) (fid : FuncId) (caps : Array Value) (p : Hd → Bool) (w : World) (hr : RdH w A n hs)
    (hcall : ∀ (args : Array Value) (w : World), (callFunc fid args).run Try.prog w = .ok (.enter fid args) w)
    (hp : ∀ w' e, Kp w w' → e ∈ hs → Calls Try.prog fid (#[hdv e] ++ caps) w' fun x w'' => x = .returned (.bool (p e)) ∧ Kp w' w'') :
    Calls Try.prog 169 #[.slice A n c, .func (.func fid) #[] caps] w fun e w' => (∃ k : Int, e = .returned (.int .i64 k) ∧ (decide (0 ≤ k) = hs.any p)) ∧ Kp w w' := by
  have HR := Lib.hid hr
  have HP := Lib.hid hp
  have hn := hr.2.1
  have HL : Hid (hs.length = n) := hr.1
  clear hr hp
  go_enter Try.func169, Try.ntmps169
  go_wp2
  go_loopw [5, 8] (fun _ i wr => ∃ k : Nat, k ≤ n ∧ i = .int .i64 k ∧ Hid (Kp w wr) ∧ Hid (∀ j, j < k → p (hdAt hs j) = false)) (fun _ i _ => n - (intOf i).toNat)
  case atStart => exact ⟨0, by omega, rfl, Kp.self, fun j hj => absurd hj (by omega)⟩
  case round =>
    obtain ⟨k, hk, rfl, HK, HE⟩ := hrel
    by_cases hlt : k < n
    · obtain ⟨ad, rfl, hc, hc2, hc3⟩ := (HR.out.kp HK.out).at_ k hlt
      have b1 : (0 : Int) ≤ k := by omega
      have b2 : (k : Int) < n := by omega
      go_wp2_with fail
      refine (HP.out wr (hdAt hs k) HK.out (hdAt_mem (by rw [HL.out]; exact hlt))).mono ?_
      rintro e w1 ⟨rfl, hk1⟩
      have HK1 : Hid (Kp w w1) := Kp.trans HK.out hk1
      clear hk1 hc hc2 hc3
      cases hpk : p (hdAt hs k)
      · have HE2 : Hid (∀ j, j < k + 1 → p (hdAt hs j) = false) := fun j hj => by
          by_cases h : j = k
          · subst h; exact hpk
          · exact HE.out j (by omega)
        go_wp2
        go_roundw
        case rel => exact ⟨k + 1, by omega, by go_num, HK1, HE2⟩
        case measure => simp [intOf]; omega
      · go_wp2
        go_ret
        refine ⟨⟨k, rfl, ?_⟩, HK1.out⟩
        rw [List.any_eq_true.2 ⟨_, hdAt_mem (by rw [HL.out]; exact hlt), hpk⟩]
        simp
    · obtain rfl : k = n := by omega
      go_wp2
      go_ret
      refine ⟨⟨-1, rfl, ?_⟩, HK.out⟩
      symm
      rw [show decide ((0 : Int) ≤ -1) = false from by decide, List.any_eq_false]
      intro x hx
      obtain ⟨j, hj, rfl⟩ := List.getElem_of_mem hx
      have := HE.out j (by rw [← HL.out]; exact hj)
      rw [hdAt_eq hj] at this
      simp [this]

set_option maxRecDepth 100000 in
theorem containsH_any (A : Option Addr) (n c : Nat) (hs : List Hd) (fid : FuncId) (caps : Array Value) (p : Hd → Bool) (w : World) (hr : RdH w A n hs)
    (hcall : ∀ (args : Array Value) (w : World), (callFunc fid args).run Try.prog w = .ok (.enter fid args) w)
    (hp : ∀ w' e, Kp w w' → e ∈ hs → Calls Try.prog fid (#[hdv e] ++ caps) w' fun x w'' => x = .returned (.bool (p e)) ∧ Kp w' w'') :
    Calls Try.prog 129 #[.slice A n c, .func (.func fid) #[] caps] w fun e w' => e = .returned (.bool (hs.any p)) ∧ Kp w w' := by
  have H := Lib.hid (indexH_any A n c hs fid caps p w hr hcall hp)
  clear hr hp
  go_enter Try.func129, Try.ntmps129
  go_wp2_with fail
  refine H.out.mono ?_
  rintro e w1 ⟨⟨k, rfl, hk⟩, hk1⟩
  go_wp2
  go_ret
  exact ⟨rfl, hk1⟩

theorem right1_any (h : Hd) (w : World) : Calls Try.prog 162 #[hdv h] w fun x w' => x = .returned (.bool (!hOk h)) ∧ Kp w w' := by
  obtain ⟨k, c, n⟩ := h
  go_enter Try.func162, Try.ntmps162
  go_wp2_with fail
  refine (word_any k c n _).mono ?_
  rintro e w1 ⟨rfl, hk1⟩
  go_wp2
  go_ret
  exact ⟨rfl, (Kp.self.alloc _).trans hk1⟩
theorem call162 (args : Array Value) (w : World) : (callFunc 162 args).run Try.prog w = .ok (.enter 162 args) w := by kernel_rfl

/-- These are a geometry's heads. -/
def rightV (s l r : Int) (hs : List Hd) : Bool := gMay s l r && (decide ((hs.length : Int) = s) && hs.all hOk)
set_option maxRecDepth 100000 in
theorem right_any (s l r : Int) (A : Option Addr) (n c : Nat) (hs : List Hd) (w : World) (hr : RdH w A n hs) :
    Calls Try.prog 118 #[geo s l r, .slice A n c] w fun e w' => e = .returned (.bool (rightV s l r hs)) ∧ Kp w w' := by
  have HR := Lib.hid hr
  have HL : Hid (hs.length = n) := hr.1
  clear hr
  cases hg : gMay s l r
  · have HV : Hid (rightV s l r hs = false) := by unfold Hid rightV; rw [hg]; rfl
    go_enter Try.func118, Try.ntmps118
    go_wp2_with fail
    refine (may_any s l r _).mono ?_
    rw [hg]
    rintro e w1 ⟨rfl, hk1⟩
    go_wp2
    go_ret
    exact ⟨ret_bool HV.out.symm, (Kp.self.alloc _).trans hk1⟩
  · by_cases hn : (n : Int) = s
    · have HV : Hid (rightV s l r hs = !(hs.any fun h => !hOk h)) := by
        unfold Hid rightV
        rw [hg, HL.out, show decide ((n : Int) = s) = true by simp [hn]]
        simp only [Bool.true_and, List.not_any_eq_all_not, Bool.not_not]
      go_enter Try.func118, Try.ntmps118
      go_wp2_with fail
      refine (may_any s l r _).mono ?_
      rw [hg]
      rintro e w1 ⟨rfl, hk1⟩
      obtain ⟨g0, g1, g2⟩ := box3 hk1
      have HK1 : Hid (Kp w w1) := (Kp.self.alloc _).trans hk1
      clear hk1 hg
      have hb : ((n : Int) == s) = true := by simp [hn]
      have HC := Lib.hid (containsH_any A n c hs 162 #[] (fun h => !hOk h) w1 (HR.out.kp HK1.out) call162 (fun w' e _ _ => right1_any e w'))
      clear hn
      go_wp2_with fail
      refine HC.out.mono ?_
      rintro e w2 ⟨rfl, hk2⟩
      go_wp2
      go_ret
      exact ⟨ret_bool HV.out.symm, HK1.out.trans hk2⟩
    · have HV : Hid (rightV s l r hs = false) := by
        unfold Hid rightV
        rw [hg, HL.out, show decide ((n : Int) = s) = false by simp [hn]]
        rfl
      have hb : ((n : Int) == s) = false := by simp [hn]
      clear hn
      go_enter Try.func118, Try.ntmps118
      go_wp2_with fail
      refine (may_any s l r _).mono ?_
      rw [hg]
      rintro e w1 ⟨rfl, hk1⟩
      obtain ⟨g0, g1, g2⟩ := box3 hk1
      go_wp2
      go_ret
      exact ⟨ret_bool HV.out.symm, (Kp.self.alloc _).trans hk1⟩

set_option maxHeartbeats 1000000 in
set_option maxRecDepth 100000 in
theorem rmayH_any (s l r : Int) (A : Option Addr) (n c : Nat) (hs : List Hd) (w : World) (hr : RdH w A n hs) :
    Calls Try.prog 119 #[geo s l r, .slice A n c] w fun e w' => e = .returned (.bool (rightV s l r hs)) ∧ Kp w w' := by
  have HR := Lib.hid hr
  have HL : Hid (hs.length = n) := hr.1
  have hn0 := hr.2.1
  clear hr
  cases hg : gMay s l r
  · have HV : Hid (rightV s l r hs = false) := by unfold Hid rightV; rw [hg]; rfl
    go_enter Try.func119, Try.ntmps119
    go_wp2_with fail
    refine (rmay_any s l r _).mono ?_
    rw [hg]
    rintro e w1 ⟨rfl, hk1⟩
    go_wp2
    go_ret
    exact ⟨ret_bool HV.out.symm, (Kp.self.alloc _).trans hk1⟩
  · by_cases hn : (n : Int) = s
    · have HV : Hid (rightV s l r hs = hs.all hOk) := by
        unfold Hid rightV
        rw [hg, HL.out, show decide ((n : Int) = s) = true by simp [hn]]
        simp only [Bool.true_and]
      go_enter Try.func119, Try.ntmps119
      go_wp2_with fail
      refine (rmay_any s l r _).mono ?_
      rw [hg]
      rintro e w1 ⟨rfl, hk1⟩
      obtain ⟨g0, g1, g2⟩ := box3 hk1
      have HK1 : Hid (Kp w w1) := (Kp.self.alloc _).trans hk1
      clear hk1 hg
      have hb : ((n : Int) != s) = false := by simp [hn]
      clear hn
      go_wp2
      go_loopw [5] (fun i wr => ∃ k : Nat, k ≤ n ∧ i = .int .i64 k ∧ Hid (Kp w wr) ∧ Hid (∀ j, j < k → hOk (hdAt hs j) = true)) (fun i _ => n - (intOf i).toNat)
      case atStart => exact ⟨0, by omega, rfl, HK1, fun j hj => absurd hj (by omega)⟩
      case round =>
        obtain ⟨k, hk, rfl, HK, HE⟩ := hrel
        by_cases hlt : k < n
        · obtain ⟨ad, rfl, hc, hc2, hc3⟩ := (HR.out.kp HK.out).at_ k hlt
          have b1 : (0 : Int) ≤ k := by omega
          have b2 : (k : Int) < n := by omega
          go_wp2_with fail
          refine (hrmay_any _ _ _ _).mono ?_
          rintro e w2 ⟨rfl, hk2⟩
          have HK2 : Hid (Kp w w2) := Kp.trans HK.out hk2
          clear hk2 hc hc2 hc3
          cases hm : hMay (hdAt hs k).1 (hdAt hs k).2.1 (hdAt hs k).2.2
          · have HF : Hid (hs.all hOk = false) := by
              unfold Hid
              rw [List.all_eq_false]
              exact ⟨_, hdAt_mem (by rw [HL.out]; exact hlt), by unfold hOk; rw [hm]; simp⟩
            go_wp2
            go_ret
            exact ⟨ret_bool (by rw [HV.out, HF.out]), HK2.out⟩
          · have HE2 : Hid (∀ j, j < k + 1 → hOk (hdAt hs j) = true) := fun j hj => by
              by_cases h : j = k
              · subst h; exact hm
              · exact HE.out j (by omega)
            go_wp2
            go_roundw
            case rel => exact ⟨k + 1, by omega, by go_num, HK2, HE2⟩
            case measure => simp [intOf]; omega
        · obtain rfl : k = n := by omega
          have HT : Hid (hs.all hOk = true) := by
            unfold Hid
            rw [List.all_eq_true]
            intro x hx
            obtain ⟨j, hj, rfl⟩ := List.getElem_of_mem hx
            have := HE.out j (by rw [← HL.out]; exact hj)
            rwa [hdAt_eq hj] at this
          go_wp2
          go_ret
          exact ⟨ret_bool (by rw [HV.out, HT.out]), HK.out⟩
    · have HV : Hid (rightV s l r hs = false) := by
        unfold Hid rightV
        rw [hg, HL.out, show decide ((n : Int) = s) = false by simp [hn]]
        rfl
      have hb : ((n : Int) != s) = true := by simp [hn]
      clear hn
      go_enter Try.func119, Try.ntmps119
      go_wp2_with fail
      refine (rmay_any s l r _).mono ?_
      rw [hg]
      rintro e w1 ⟨rfl, hk1⟩
      obtain ⟨g0, g1, g2⟩ := box3 hk1
      go_wp2
      go_ret
      exact ⟨ret_bool HV.out.symm, (Kp.self.alloc _).trans hk1⟩

/-- The words of a block of a class. -/
def sizeV (c : Int) : Int := if 0 ≤ c ∧ c < 4 then 2 * 2 ^ c.toNat else 0
theorem sizeV_of (c : Int) : (c = 0 ∧ sizeV c = 2) ∨ (c = 1 ∧ sizeV c = 4) ∨ (c = 2 ∧ sizeV c = 8) ∨ (c = 3 ∧ sizeV c = 16) ∨ ((c < 0 ∨ 4 ≤ c) ∧ sizeV c = 0) := by
  rcases (by omega : c = 0 ∨ c = 1 ∨ c = 2 ∨ c = 3 ∨ (c < 0 ∨ 4 ≤ c)) with h | h | h | h | h
  · subst h; exact .inl ⟨rfl, by decide⟩
  · subst h; exact .inr (.inl ⟨rfl, by decide⟩)
  · subst h; exact .inr (.inr (.inl ⟨rfl, by decide⟩))
  · subst h; exact .inr (.inr (.inr (.inl ⟨rfl, by decide⟩)))
  · exact .inr (.inr (.inr (.inr ⟨h, by unfold sizeV; rw [if_neg (by omega)]⟩)))
theorem size_any (c : Int) (w : World) : Calls Try.prog 161 #[.int .i64 c] w fun e w' => e = .returned (.int .i64 (sizeV c)) ∧ Kp w w' := by
  rcases sizeV_of c with ⟨rfl, h⟩ | ⟨rfl, h⟩ | ⟨rfl, h⟩ | ⟨rfl, h⟩ | ⟨hc | hc, h⟩
  all_goals
    have HV := Lib.hid h
    clear h
    go_enter Try.func161, Try.ntmps161
    go_wp2
    go_ret
    exact ⟨by rw [HV.out]; rfl, Kp.self⟩
def blocksV (c : Int) : Int := if sizeV c > 0 then 64 / sizeV c else 0
theorem blocksV_of (c : Int) : (sizeV c = 2 ∧ blocksV c = 32) ∨ (sizeV c = 4 ∧ blocksV c = 16) ∨ (sizeV c = 8 ∧ blocksV c = 8) ∨ (sizeV c = 16 ∧ blocksV c = 4) ∨ (sizeV c = 0 ∧ blocksV c = 0) := by
  unfold blocksV
  rcases sizeV_of c with ⟨_, h⟩ | ⟨_, h⟩ | ⟨_, h⟩ | ⟨_, h⟩ | ⟨_, h⟩ <;> rw [h] <;> simp
theorem blocks_any (c : Int) (w : World) : Calls Try.prog 160 #[.int .i64 c] w fun e w' => e = .returned (.int .i64 (blocksV c)) ∧ Kp w w' := by
  have HS := Lib.hid (size_any c w)
  rcases blocksV_of c with ⟨h, hb⟩ | ⟨h, hb⟩ | ⟨h, hb⟩ | ⟨h, hb⟩ | ⟨h, hb⟩
  all_goals
    rw [h] at HS
    rw [hb]
    clear h hb
    go_enter Try.func160, Try.ntmps160
    go_wp2_with fail
    refine HS.out.mono ?_
    rintro e w1 ⟨rfl, hk1⟩
    go_wp2
    go_ret
    exact ⟨rfl, hk1⟩
set_option maxRecDepth 100000 in
theorem rsize_any (c : Int) (w : World) : Calls Try.prog 115 #[.int .i64 c] w fun e w' => e = .returned (.int .i64 (sizeV c)) ∧ Kp w w' := by
  rcases sizeV_of c with ⟨rfl, h⟩ | ⟨rfl, h⟩ | ⟨rfl, h⟩ | ⟨rfl, h⟩ | ⟨hc | hc, h⟩
  all_goals
    have HV := Lib.hid h
    clear h
    go_enter Try.func115, Try.ntmps115
    go_wp2
    go_ret
    exact ⟨by rw [HV.out]; rfl, Kp.self.alloc _⟩
/-- How many blocks a span has, and how many words each. -/
def shapeV (h : Hd) : Int × Int := if h.1 = 2 then (1, h.2.2 * 64) else (blocksV h.2.1, sizeV h.2.1)
set_option maxRecDepth 100000 in
theorem shape_any (h : Hd) (w : World) (hb : -1000 ≤ h.2.2 ∧ h.2.2 ≤ 1000) : Calls Try.prog 117 #[hdv h] w fun e w' => e = .returned (.tuple #[.int .i64 (shapeV h).1, .int .i64 (shapeV h).2]) ∧ Kp w w' := by
  obtain ⟨k, c, n⟩ := h
  dsimp only at hb
  obtain ⟨g0, g1, g2⟩ := box3 (Kp.self (w := w.alloc (.cells #[.int .i64 k, .int .i64 c, .int .i64 n] 42)))
  have q0 := fun W : KW (w.alloc (.cells #[.int .i64 k, .int .i64 c, .int .i64 n] 42)) => W.cell g0
  have q1 := fun W : KW (w.alloc (.cells #[.int .i64 k, .int .i64 c, .int .i64 n] 42)) => W.cell g1
  have q2 := fun W : KW (w.alloc (.cells #[.int .i64 k, .int .i64 c, .int .i64 n] 42)) => W.cell g2
  have HK : Hid (Kp w (w.alloc (.cells #[.int .i64 k, .int .i64 c, .int .i64 n] 42))) := Kp.self.alloc _
  by_cases hk : k = 2
  · have HV : Hid (shapeV (k, c, n) = (1, n * 64)) := by unfold Hid shapeV; rw [if_pos hk]
    subst hk
    go_enter Try.func117, Try.ntmps117
    go_wp2
    refine wp_region_kw _ Kp.self (by kernel_rfl) (by kernel_rfl) ?_
    repeat (any_goals (first | go_big_quiet_step (fail) | quiet_step (fail)))
    refine wpQuiet_nil ?_
    rintro w5 ⟨W, e⟩
    have HK5 : Hid (Kp w w5) := Kp.trans HK.out (e ▸ W.2)
    clear e W q0 q1 q2
    go_wp2
    go_ret2
    exact ⟨by rw [HV.out]; rfl, HK5.out⟩
  · have HV : Hid (shapeV (k, c, n) = (blocksV c, sizeV c)) := by unfold Hid shapeV; rw [if_neg hk]
    have hb2 : (k == 2) = false := by simp [hk]
    have HB := Lib.hid (fun W => blocks_any c W)
    have HS := Lib.hid (fun W => size_any c W)
    clear hk
    go_enter Try.func117, Try.ntmps117
    go_wp2
    refine wp_region_kw _ Kp.self (by kernel_rfl) (by kernel_rfl) ?_
    repeat (any_goals (first | go_big_quiet_step ((first | (go_at_call 160; exact kw_call (HB.out _)) | (go_at_call 161; exact kw_call (HS.out _)))) | quiet_step ((first | (go_at_call 160; exact kw_call (HB.out _)) | (go_at_call 161; exact kw_call (HS.out _))))))
    refine wpQuiet_nil ?_
    rintro w5 ⟨W, e⟩
    have HK5 : Hid (Kp w w5) := Kp.trans HK.out (e ▸ W.2)
    clear e W q0 q1 q2
    go_wp2
    go_ret2
    exact ⟨by rw [HV.out]; rfl, HK5.out⟩
end Go.Proofs.Ytpmbjlmplfejgaa
