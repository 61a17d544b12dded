/- super.Read. -/
import Derived.Test.YtpmbjlmplfejgaaSupE
namespace Go.Proofs.Ytpmbjlmplfejgaa
open Go.RowKit
set_option linter.unusedVariables false
set_option linter.unusedSimpArgs false

set_option maxHeartbeats 1000000 in
set_option maxRecDepth 100000 in
theorem sread_any (A : Option Addr) (n c : Nat) (xs : List Int) (w : World) (hr : RdI w .u64 A n xs) (hx : InR 18446744073709551616 xs) (hc : n ≤ c) (hcm : c ≤ maxLen) :
    Calls Try.prog 48 #[.slice A n c] w fun e w' => (∃ g ok, e = .returned (.tuple #[geov g, .int .i64 (supErr ok)]) ∧ RdSup xs n g ok) ∧ Kp w w' := by
  go_enter Try.func48, Try.ntmps48
  go_wp2_with fail
  generalize hWe : ((((w.alloc (.cells #[.slice A n c] 27)).alloc (.cells #[.int .i64 0, .int .i64 0, .int .i64 0] 38)).alloc (.cells #[.int .i64 0, .int .i64 0, .int .i64 0] 38)).alloc (.cells #[.func (.func 109) #[] #[.pointer (some ⟨w.heap.size, 0, none⟩)], .func (.func 110) #[] #[.pointer (some ⟨w.heap.size, 0, none⟩), .pointer (some ⟨w.heap.size + 1 + 1, 0, none⟩)], .func (.func 111) #[] #[.pointer (some ⟨w.heap.size, 0, none⟩), .pointer (some ⟨w.heap.size + 1 + 1, 0, none⟩)], .func (.func 112) #[] #[.pointer (some ⟨w.heap.size, 0, none⟩), .pointer (some ⟨w.heap.size + 1 + 1, 0, none⟩)]] 23)) = W
  have hk0 : Kp w W := by rw [← hWe]; exact (((Kp.self.alloc _).alloc _).alloc _).alloc _
  have e1 : (w.alloc (.cells #[.slice A n c] 27)).heap.size = w.heap.size + 1 := by simp
  have e2 : ((w.alloc (.cells #[.slice A n c] 27)).alloc (.cells #[.int .i64 0, .int .i64 0, .int .i64 0] 38)).heap.size = w.heap.size + 1 + 1 := by simp
  have e3 : (((w.alloc (.cells #[.slice A n c] 27)).alloc (.cells #[.int .i64 0, .int .i64 0, .int .i64 0] 38)).alloc (.cells #[.int .i64 0, .int .i64 0, .int .i64 0] 38)).heap.size = w.heap.size + 1 + 1 + 1 := by simp
  have cW : W.cell? ⟨w.heap.size, 0, none⟩ = some (.slice A n c) := by
    have k : Kp (w.alloc (.cells #[.slice A n c] 27)) W := by rw [← hWe]; exact ((Kp.self.alloc _).alloc _).alloc _
    exact box_cell k 0 rfl
  have kR : Kp ((w.alloc (.cells #[.slice A n c] 27)).alloc (.cells #[.int .i64 0, .int .i64 0, .int .i64 0] 38)) W := by rw [← hWe]; exact (Kp.self.alloc _).alloc _
  have bR : Box W (w.heap.size + 1) 0 0 0 := by
    obtain ⟨r0, r1, r2⟩ := box3 kR
    obtain ⟨f0, f1, f2⟩ := boxf3 kR
    rw [e1] at r0 r1 r2 f0 f1 f2
    exact ⟨r0, r1, r2, f0, f1, f2⟩
  have kG : Kp (((w.alloc (.cells #[.slice A n c] 27)).alloc (.cells #[.int .i64 0, .int .i64 0, .int .i64 0] 38)).alloc (.cells #[.int .i64 0, .int .i64 0, .int .i64 0] 38)) W := by rw [← hWe]; exact Kp.self.alloc _
  have bG : Box W (w.heap.size + 1 + 1) 0 0 0 := by
    obtain ⟨r0, r1, r2⟩ := box3 kG
    obtain ⟨f0, f1, f2⟩ := boxf3 kG
    rw [e2] at r0 r1 r2 f0 f1 f2
    exact ⟨r0, r1, r2, f0, f1, f2⟩
  have cF : ∀ j, j < 4 → W.cell? ⟨w.heap.size + 1 + 1 + 1, j, none⟩ = some (askV (sfid j) (scaps w.heap.size (w.heap.size + 1 + 1) j)) := by
    intro j hj
    have kF : Kp ((((w.alloc (.cells #[.slice A n c] 27)).alloc (.cells #[.int .i64 0, .int .i64 0, .int .i64 0] 38)).alloc (.cells #[.int .i64 0, .int .i64 0, .int .i64 0] 38)).alloc (.cells #[.func (.func 109) #[] #[.pointer (some ⟨w.heap.size, 0, none⟩)], .func (.func 110) #[] #[.pointer (some ⟨w.heap.size, 0, none⟩), .pointer (some ⟨w.heap.size + 1 + 1, 0, none⟩)], .func (.func 111) #[] #[.pointer (some ⟨w.heap.size, 0, none⟩), .pointer (some ⟨w.heap.size + 1 + 1, 0, none⟩)], .func (.func 112) #[] #[.pointer (some ⟨w.heap.size, 0, none⟩), .pointer (some ⟨w.heap.size + 1 + 1, 0, none⟩)]] 23)) W := by rw [← hWe]; exact Kp.self
    have h := box_cell kF j (v := askV (sfid j) (scaps w.heap.size (w.heap.size + 1 + 1) j)) (by
      match j, hj with
      | 0, _ => rfl
      | 1, _ => rfl
      | 2, _ => rfl
      | 3, _ => rfl)
    rwa [e3] at h
  clear hWe e1 e2 e3 kR kG
  have HR := Lib.hid hr
  have HX := Lib.hid hx
  refine (all_any ⟨w.heap.size + 1 + 1 + 1, 0, none⟩ 4 sfid (scaps w.heap.size (w.heap.size + 1 + 1)) (SI (w.heap.size + 1 + 1) n xs W) (SF (w.heap.size + 1 + 1) n xs W) W (by decide) ?_ ?_ ?_ ?_).mono ?_
  · intro j hj
    match j, hj with
    | 0, _ => exact call109
    | 1, _ => exact call110
    | 2, _ => exact call111
    | 3, _ => exact call112
  · intro j k w' hj hI
    rw [add0]
    exact hI.1.cell (by simp) (cF j hj)
  · exact ⟨Upd.self, fun h => absurd h (by omega), 0, 0, 0, bG, fun h => absurd h (by omega), fun h => absurd h (by omega), fun h => absurd h (by omega)⟩
  · intro j w' hj hI
    exact asks_any w.heap.size (w.heap.size + 1 + 1) A n c xs w W cW (by omega) HR.out HX.out hc hcm hk0 (by omega) j hj w' hI
  · rintro e w' (⟨rfl, hU, h8, s, l, r, hB, h2, h3, h4⟩ | ⟨rfl, hU, hN⟩)
    · have hv : Valid xs n s l r := ⟨(h2 (by omega)).1, h8 (by omega), h3 (by omega), h4 (by omega)⟩
      have HK : Hid (Kp w w') := ((hk0.upd (fun b => b = w.heap.size + 1 + 1)).trans hU (fun _ _ h => h)).kpOf (by omega)
      have HV := Lib.hid hv
      have q0 := hB.c0
      have q1 := hB.c1
      have q2 := hB.c2
      have r0 : w'.cell? ⟨w.heap.size + 1, 0, none⟩ = some (.int .i64 0) := hU.cell (by simp) bR.c0
      have r1 : w'.cell? ⟨w.heap.size + 1, 1, none⟩ = some (.int .i64 0) := hU.cell (by simp) bR.c1
      have r2 : w'.cell? ⟨w.heap.size + 1, 2, none⟩ = some (.int .i64 0) := hU.cell (by simp) bR.c2
      have f0 : w'.frozen? ⟨w.heap.size + 1, 0, none⟩ = false := hU.frozen (by simp) bR.c0 bR.f0
      have f1 : w'.frozen? ⟨w.heap.size + 1, 1, none⟩ = false := hU.frozen (by simp) bR.c1 bR.f1
      have f2 : w'.frozen? ⟨w.heap.size + 1, 2, none⟩ = false := hU.frozen (by simp) bR.c2 bR.f2
      clear h2 h3 h4 h8 hB hU cF cW bR bG hr hx hv hk0
      go_wp2
      obtain ⟨c0, c1, c2, hk4⟩ := set3 (.int .i64 s) (.int .i64 l) (.int .i64 r) HK.out (Nat.le_succ _) r0 r1 r2
      generalize ((w'.setCell ⟨w.heap.size + 1, 0, none⟩ (.int .i64 s)).setCell ⟨w.heap.size + 1, 1, none⟩ (.int .i64 l)).setCell ⟨w.heap.size + 1, 2, none⟩ (.int .i64 r) = w5 at *
      exact bodyPost_ret (v := .tuple #[geo s l r, .int .i64 0]) (by simp [results, Try.results48, go_sem, c0, c1, c2]) rfl ⟨⟨(s, l, r), true, rfl, .inl ⟨rfl, HV.out⟩⟩, hk4⟩
    · have HK : Hid (Kp w w') := ((hk0.upd (fun b => b = w.heap.size + 1 + 1)).trans hU (fun _ _ h => h)).kpOf (by omega)
      have HN := Lib.hid hN
      have r0 : w'.cell? ⟨w.heap.size + 1, 0, none⟩ = some (.int .i64 0) := hU.cell (by simp) bR.c0
      have r1 : w'.cell? ⟨w.heap.size + 1, 1, none⟩ = some (.int .i64 0) := hU.cell (by simp) bR.c1
      have r2 : w'.cell? ⟨w.heap.size + 1, 2, none⟩ = some (.int .i64 0) := hU.cell (by simp) bR.c2
      have f0 : w'.frozen? ⟨w.heap.size + 1, 0, none⟩ = false := hU.frozen (by simp) bR.c0 bR.f0
      have f1 : w'.frozen? ⟨w.heap.size + 1, 1, none⟩ = false := hU.frozen (by simp) bR.c1 bR.f1
      have f2 : w'.frozen? ⟨w.heap.size + 1, 2, none⟩ = false := hU.frozen (by simp) bR.c2 bR.f2
      clear hU cF cW bR bG hr hx hN hk0
      go_wp2
      obtain ⟨c0, c1, c2, hk4⟩ := set3 (.int .i64 0) (.int .i64 0) (.int .i64 0) HK.out (Nat.le_succ _) r0 r1 r2
      generalize ((w'.setCell ⟨w.heap.size + 1, 0, none⟩ (.int .i64 0)).setCell ⟨w.heap.size + 1, 1, none⟩ (.int .i64 0)).setCell ⟨w.heap.size + 1, 2, none⟩ (.int .i64 0) = w5 at *
      exact bodyPost_ret (v := .tuple #[geo 0 0 0, .int .i64 11]) (by simp [results, Try.results48, go_sem, c0, c1, c2]) rfl ⟨⟨(0, 0, 0), false, rfl, .inr ⟨rfl, rfl, HN.out⟩⟩, hk4⟩
end Go.Proofs.Ytpmbjlmplfejgaa
