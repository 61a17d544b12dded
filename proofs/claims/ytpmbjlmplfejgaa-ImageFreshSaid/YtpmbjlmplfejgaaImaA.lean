/- The image: what a log may write, whether words fit a geometry, where entries begin. -/
import Derived.Test.YtpmbjlmplfejgaaPartB
import Derived.Test.YtpmbjlmplfejgaaLibC
namespace Go.Proofs.Ytpmbjlmplfejgaa
open Go.RowKit
set_option linter.unusedVariables false
set_option linter.unusedSimpArgs false

def mayP (p : Int × Int × Int) : Bool := (decide (p.1 = 1) && decide (0 ≤ p.2.1)) || (decide (p.1 = 3) && decide (p.2.2 < 2)) || decide (p.1 = 4)
def mayA (s l r a : Int) : Bool := mayP (whereV s l r a)
def fitsV (s l r : Int) (n : Nat) : Bool := gMay s l r && decide ((n : Int) = total s l)
def entryV (s l r i : Int) : Int := if laneV s l r i < 0 then -1 else laneV s l r i + 8

theorem mayP1 {a b c : Int} (h : (a == 1) = true) : decide (0 ≤ b) = mayP (a, b, c) := by
  have := eq_of_beq h
  subst this
  simp [mayP]
theorem mayP3 {a b c : Int} (h : (a == 3) = true) : decide (c ≤ 1) = mayP (a, b, c) := by
  have := eq_of_beq h
  subst this
  simp [mayP]
  omega
theorem mayP4 {a b c : Int} (h : (a == 4) = true) : true = mayP (a, b, c) := by
  have := eq_of_beq h
  subst this
  simp [mayP]
theorem mayP0 {a b c : Int} (h1 : (a == 1) = false) (h3 : (a == 3) = false) (h4 : (a == 4) = false) : false = mayP (a, b, c) := by
  simp at h1 h3 h4
  simp [mayP, h1, h3, h4]

set_option maxHeartbeats 1000000 in
set_option maxRecDepth 100000 in
theorem mayA_any (s l r a : Int) (w : World) (hb : a < 9223372036854775808) : Calls Try.prog 68 #[geo s l r, .int .i64 a] w fun e w' => e = .returned (.bool (mayA s l r a)) ∧ Kp w w' := by
  have HW := fun W => Lib.hid (where_any s l r a W hb)
  unfold mayA
  generalize whereV s l r a = p at *
  obtain ⟨p0, p1, p2⟩ := p
  go_enter Try.func68, Try.ntmps68
  go_wp2_with fail
  refine (HW _).out.mono ?_
  rintro e w1 ⟨rfl, hk⟩
  have HK : Hid (Kp w w1) := (Kp.self.alloc _).trans hk
  clear hk HW
  have HK2 : Hid (Kp w (w1.alloc (.cells #[.int .i64 p0, .int .i64 p1, .int .i64 p2] 97))) := HK.out.alloc _
  clear HK
  go_wp2
  all_goals go_ret
  all_goals refine ⟨ret_bool ?_, HK2.out⟩
  all_goals first | exact mayP1 (by assumption) | exact mayP3 (by assumption) | exact mayP4 (by assumption) | exact mayP0 (by assumption) (by assumption) (by assumption)

set_option maxHeartbeats 1000000 in
set_option maxRecDepth 100000 in
theorem rmayA_any (s l r a : Int) (w : World) : Calls Try.prog 74 #[geo s l r, .int .i64 a] w fun e w' => e = .returned (.bool (mayA s l r a)) ∧ Kp w w' := by
  have HW := fun W => Lib.hid (rwhere_any s l r a W)
  unfold mayA
  generalize whereV s l r a = p at *
  obtain ⟨p0, p1, p2⟩ := p
  go_enter Try.func74, Try.ntmps74
  go_wp2_with fail
  refine (HW _).out.mono ?_
  rintro e w1 ⟨rfl, hk⟩
  have HK : Hid (Kp w w1) := (Kp.self.alloc _).trans hk
  clear hk HW
  have HK2 : Hid (Kp w (w1.alloc (.cells #[.int .i64 p0, .int .i64 p1, .int .i64 p2] 97))) := HK.out.alloc _
  clear HK
  by_cases h1 : p0 = 1
  · subst h1
    by_cases hp : 0 ≤ p1
    · go_wp2
      go_ret
      exact ⟨ret_bool (by simp [mayP, hp]), HK2.out⟩
    · go_wp2
      go_ret
      exact ⟨ret_bool (by simp [mayP, hp]), HK2.out⟩
  · have e1 : (p0 == 1) = false := by simp [h1]
    by_cases h3 : p0 = 3
    · subst h3
      by_cases hp : p2 < 2
      · go_wp2
        go_ret
        exact ⟨ret_bool (by simp [mayP, hp]), HK2.out⟩
      · go_wp2
        go_ret
        exact ⟨ret_bool (by simp [mayP, hp]), HK2.out⟩
    · have e3 : (p0 == 3) = false := by simp [h3]
      go_wp2
      go_ret
      exact ⟨ret_bool (by simp [mayP, h1, h3]; rw [Bool.eq_iff_iff]; simp), HK2.out⟩

set_option maxHeartbeats 1000000 in
set_option maxRecDepth 100000 in
theorem ifits_any (s l r : Int) (A : Option Addr) (n c : Nat) (w : World) : Calls Try.prog 126 #[geo s l r, .slice A n c] w fun e w' => e = .returned (.bool (fitsV s l r n)) ∧ Kp w w' := by
  have HM := fun W => Lib.hid (may_any s l r W)
  have HT := fun W => Lib.hid (total_any s l r W)
  unfold fitsV
  cases hg : gMay s l r
  · simp only [hg] at HM HT
    go_enter Try.func126, Try.ntmps126
    go_wp2_with fail
    refine (HM _).out.mono ?_
    rintro e w1 ⟨rfl, hk⟩
    have HK : Hid (Kp w w1) := (Kp.self.alloc _).trans hk
    go_wp2
    go_ret
    exact ⟨rfl, HK.out⟩
  · simp only [hg, if_true] at HM HT
    go_enter Try.func126, Try.ntmps126
    go_wp2_with fail
    refine (HM _).out.mono ?_
    rintro e w1 ⟨rfl, hk⟩
    obtain ⟨g0, g1, g2⟩ := box3 hk
    have HK : Hid (Kp w w1) := (Kp.self.alloc _).trans hk
    clear hk
    go_wp2_with fail
    refine (HT _).out.mono ?_
    rintro e w2 ⟨rfl, hk⟩
    go_wp2
    go_ret
    exact ⟨ret_bool (by rw [Bool.eq_iff_iff]; simp), HK.out.trans hk⟩

set_option maxHeartbeats 1000000 in
set_option maxRecDepth 100000 in
theorem rfits_any (s l r : Int) (A : Option Addr) (n c : Nat) (w : World) : Calls Try.prog 77 #[geo s l r, .slice A n c] w fun e w' => e = .returned (.bool (fitsV s l r n)) ∧ Kp w w' := by
  have HM := fun W => Lib.hid (rmay_any s l r W)
  have HT := fun W => Lib.hid (rtotal_any s l r W)
  unfold fitsV
  cases hg : gMay s l r
  · simp only [hg] at HM HT
    go_enter Try.func77, Try.ntmps77
    go_wp2_with fail
    refine (HM _).out.mono ?_
    rintro e w1 ⟨rfl, hk⟩
    have HK : Hid (Kp w w1) := (Kp.self.alloc _).trans hk
    go_wp2
    go_ret
    exact ⟨rfl, HK.out⟩
  · simp only [hg, if_true] at HM HT
    go_enter Try.func77, Try.ntmps77
    go_wp2_with fail
    refine (HM _).out.mono ?_
    rintro e w1 ⟨rfl, hk⟩
    obtain ⟨g0, g1, g2⟩ := box3 hk
    have HK : Hid (Kp w w1) := (Kp.self.alloc _).trans hk
    clear hk
    go_wp2_with fail
    refine (HT _).out.mono ?_
    rintro e w2 ⟨rfl, hk⟩
    go_wp2
    go_ret
    exact ⟨ret_bool (by rw [Bool.eq_iff_iff]; simp), HK.out.trans hk⟩

set_option maxHeartbeats 1000000 in
set_option maxRecDepth 100000 in
theorem entry_any (s l r i : Int) (w : World) : Calls Try.prog 166 #[geo s l r, .int .i64 i, .int .i64 0] w fun e w' => e = .returned (.int .i64 (entryV s l r i)) ∧ Kp w w' := by
  have HL := fun W => Lib.hid (laneV_any s l r i W)
  have hb : laneV s l r i ≤ 10000 := by
    unfold laneV
    split
    · rename_i h
      have := may_bd h.1
      omega
    · omega
  unfold entryV
  generalize laneV s l r i = q at *
  by_cases hq : q < 0
  · rw [if_pos hq]
    go_enter Try.func166, Try.ntmps166
    go_wp2_with fail
    refine (HL _).out.mono ?_
    rintro e w1 ⟨rfl, hk⟩
    have HK : Hid (Kp w w1) := (Kp.self.alloc _).trans hk
    go_wp2
    go_ret
    exact ⟨rfl, HK.out⟩
  · rw [if_neg hq]
    go_enter Try.func166, Try.ntmps166
    go_wp2_with fail
    refine (HL _).out.mono ?_
    rintro e w1 ⟨rfl, hk⟩
    have HK : Hid (Kp w w1) := (Kp.self.alloc _).trans hk
    have e1 := IntWalk.i64_in (q + 8) ⟨by omega, by omega⟩
    go_wp2
    go_ret
    exact ⟨ret_int (by first | rfl | omega), HK.out⟩
end Go.Proofs.Ytpmbjlmplfejgaa
