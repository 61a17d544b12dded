/- Superblocks are written: super.Write and the reference's. -/
import Derived.Test.YtpmbjlmplfejgaaGeoB
import Derived.Test.YtpmbjlmplfejgaaSplit
import Derived.Test.YtpmbjlmplfejgaaSumD
namespace Go.Proofs.Ytpmbjlmplfejgaa
open Go.RowKit
set_option linter.unusedVariables false
set_option linter.unusedSimpArgs false

/-- A new block of whole numbers, as a slice that is read. -/
theorem rd_new {w w1 : World} {k : IntKind} {e : TypeId} {xs : List Int} {fr : Nat × Nat} (h : Kp (w.alloc (.cells (xs.map (fun x => Value.int k x)).toArray e fr)) w1) (hl : xs.length ≤ 1000) :
    RdI w1 k (some ⟨w.heap.size, 0, none⟩) xs.length xs := by
  refine ⟨rfl, by omega, fun _ => ⟨_, rfl, fun j hj => ?_⟩⟩
  rw [add0]
  refine box_cell h j ?_
  simp [List.getElem?_eq_getElem hj]
theorem rd_own {w : World} {base : Nat} {k : IntKind} {e : TypeId} {xs : List Int} (hb : base ≤ w.heap.size) (hl : xs.length ≤ 1000) :
    OwnI (w.alloc (.cells (xs.map (fun x => Value.int k x)).toArray e)) base e k (.slice (some ⟨w.heap.size, 0, none⟩) xs.length xs.length) xs := by
  refine ⟨by simp [nums], .inr ⟨w.heap.size, xs.length, _, rfl, hb, heap_alloc_new w _, Nat.le_refl _, by simp only [maxLen]; omega, by simp, by simp [nums, List.take_of_length_le]⟩⟩

theorem widths97 (w : World) : Calls Try.prog 97 #[] w fun e w' => ∃ ad, e = .returned (.slice (some ad) 3 3) ∧ RdI w' .i64 (some ad) 3 [16, 16, 16] ∧ Kp w w' := by
  go_enter Try.func97, Try.ntmps97
  go_wp2
  go_ret
  exact ⟨_, rfl, rd_new (xs := [16, 16, 16]) Kp.self (by decide), Kp.self.alloc _⟩

def superL (s l r : Int) : List Int := [8390880580533249394, 3, s + 65536 * l + 4294967296 * r, total s l, 0, 0, 0]
def superW (s l r : Int) : List Int := if gMay s l r then superL s l r ++ [sealI (superL s l r)] else []
def WritePost (s l r : Int) (w : World) (e : Ending) (w' : World) : Prop := ∃ v, e = .returned v ∧ OwnI w' w.heap.size 28 .u64 v (superW s l r) ∧ Kp w w'

theorem may_bd {s l r : Int} (h : gMay s l r = true) : 1 ≤ s ∧ s ≤ 16 ∧ 1 ≤ l ∧ l ≤ 4 ∧ 1 ≤ r ∧ r ≤ 8 := by simpa [gMay] using h
theorem superL_rng {s l r : Int} (h : gMay s l r = true) : InR 18446744073709551616 (superL s l r) := by
  have := may_bd h
  intro x hx
  simp only [superL, total, List.mem_cons, List.not_mem_nil, or_false] at hx
  omega

theorem f16 : ∀ j, j < 3 → 0 ≤ sumTo [16, 16, 16] j ∧ 1 ≤ ([16, 16, 16] : List Int)[j]?.getD 0 ∧ sumTo [16, 16, 16] j + ([16, 16, 16] : List Int)[j]?.getD 0 ≤ 64 := by decide
theorem fv (s l r : Int) (h : 1 ≤ s ∧ s ≤ 16 ∧ 1 ≤ l ∧ l ≤ 4 ∧ 1 ≤ r ∧ r ≤ 8) : ∀ j, j < 3 → 0 ≤ [s, l, r][j]?.getD 0 ∧ [s, l, r][j]?.getD 0 ≤ 2 ^ (([16, 16, 16] : List Int)[j]?.getD 0).toNat - 1 := by
  intro j hj
  match j, hj with
  | 0, _ => simp; omega
  | 1, _ => simp; omega
  | 2, _ => simp; omega
theorem join3 (s l r : Int) : joinTo [16, 16, 16] [s, l, r] 3 = s + 65536 * l + 4294967296 * r := by
  simp [joinTo, sumTo]
  omega

set_option maxHeartbeats 1000000 in
set_option maxRecDepth 100000 in
theorem swrite_any (s l r : Int) (w : World) : Calls Try.prog 32 #[geo s l r] w (WritePost s l r w) := by
  cases hg : gMay s l r
  · go_enter Try.func32, Try.ntmps32
    go_wp2_with (go_at_call 95; refine (may_any _ _ _ _).mono ?_; rw [hg]; rintro e w' ⟨rfl, hk⟩)
    go_ret
    exact ⟨_, rfl, by unfold superW; rw [hg]; exact World.ownsRow_nil _ _ _ _, (Kp.self.alloc _).trans hk⟩
  · have hm := may_bd hg
    go_enter Try.func32, Try.ntmps32
    go_wp2_with fail
    refine (may_any _ _ _ _).mono ?_
    rw [hg]
    rintro e w1 ⟨rfl, hk⟩
    obtain ⟨g0, g1, g2⟩ := box3 hk
    have HK1 := Lib.hid (Kp.trans (Kp.self.alloc _) hk)
    clear hk
    go_wp2_with fail
    refine wp_region_M [] (fun w' => w'.cell? ⟨w.heap.size, 0, none⟩ = some (.int .i64 s) ∧ w'.cell? ⟨w.heap.size, 1, none⟩ = some (.int .i64 l) ∧ w'.cell? ⟨w.heap.size, 2, none⟩ = some (.int .i64 r)) (by kernel_rfl) ?_
    refine anyM_take 1 (v := ?_) [1, 2, 3, 4, 5, 6, 7, 8, 9] rfl (by decide) (by kernel_rfl) (by kernel_rfl) (by kernel_rfl) (by kernel_rfl) (fun _ _ _ h => h) (Or.inl ⟨by rfl, ?_⟩) ⟨g0, g1, g2⟩ ?_
    rotate_left
    · rintro w' ⟨s0, s1, s2⟩
      go_simp
      rfl
    simp only [Act.put, List.setIfInBounds_toArray, List.set_cons_zero, List.set_cons_succ]
    refine anyM_take 2 (v := ?_) [1, 2, 3, 4, 5, 6, 7, 8, 9] rfl (by decide) (by kernel_rfl) (by kernel_rfl) (by kernel_rfl) (by kernel_rfl) (fun _ _ _ h => h) (Or.inl ⟨by rfl, ?_⟩) ⟨g0, g1, g2⟩ ?_
    rotate_left
    · rintro w' ⟨s0, s1, s2⟩
      go_simp
      rfl
    simp only [Act.put, List.setIfInBounds_toArray, List.set_cons_zero, List.set_cons_succ]
    refine anyM_take 3 (v := ?_) [1, 2, 3, 4, 5, 6, 7, 8, 9] rfl (by decide) (by kernel_rfl) (by kernel_rfl) (by kernel_rfl) (by kernel_rfl) (fun _ _ _ h => h) (Or.inl ⟨by rfl, ?_⟩) ⟨g0, g1, g2⟩ ?_
    rotate_left
    · rintro w' ⟨s0, s1, s2⟩
      go_simp
      rfl
    simp only [Act.put, List.setIfInBounds_toArray, List.set_cons_zero, List.set_cons_succ]
    refine anyM_take 4 (v := ?_) [1, 2, 3, 4, 5, 6, 7, 8, 9] rfl (by decide) (by kernel_rfl) (by kernel_rfl) (by kernel_rfl) (by kernel_rfl) (fun _ _ _ h => h) (Or.inl ⟨by rfl, ?_⟩) ⟨g0, g1, g2⟩ ?_
    rotate_left
    · rintro w' ⟨s0, s1, s2⟩
      go_simp
      rfl
    simp only [Act.put, List.setIfInBounds_toArray, List.set_cons_zero, List.set_cons_succ]
    refine anyM_take 5 (v := ?_) [1, 2, 3, 4, 5, 6, 7, 8, 9] rfl (by decide) (by kernel_rfl) (by kernel_rfl) (by kernel_rfl) (by kernel_rfl) (fun _ _ _ h => h) (Or.inl ⟨by rfl, ?_⟩) ⟨g0, g1, g2⟩ ?_
    rotate_left
    · rintro w' ⟨s0, s1, s2⟩
      go_simp
      rfl
    simp only [Act.put, List.setIfInBounds_toArray, List.set_cons_zero, List.set_cons_succ]
    refine anyM_take 6 (v := ?_) [1, 2, 3, 4, 5, 6, 7, 8, 9] rfl (by decide) (by kernel_rfl) (by kernel_rfl) (by kernel_rfl) (by kernel_rfl) (fun _ _ _ h => h) (Or.inl ⟨by rfl, ?_⟩) ⟨g0, g1, g2⟩ ?_
    rotate_left
    · rintro w' ⟨s0, s1, s2⟩
      go_simp
      rfl
    simp only [Act.put, List.setIfInBounds_toArray, List.set_cons_zero, List.set_cons_succ]
    refine anyM_take 7 (v := ?_) [1, 2, 3, 4, 5, 6, 7, 8, 9] rfl (by decide) (by kernel_rfl) (by kernel_rfl) (by kernel_rfl) (by kernel_rfl) (fun _ _ _ h => h) (Or.inl ⟨by rfl, ?_⟩) ⟨g0, g1, g2⟩ ?_
    rotate_left
    · rintro w' ⟨s0, s1, s2⟩
      go_simp
      rfl
    simp only [Act.put, List.setIfInBounds_toArray, List.set_cons_zero, List.set_cons_succ]
    refine anyM_take 8 (v := ?_) [1, 2, 3, 4, 5, 6, 7, 8, 9] rfl (by decide) (by kernel_rfl) (by kernel_rfl) (by kernel_rfl) (by kernel_rfl) (fun _ _ _ h => h) (Or.inl ⟨by rfl, ?_⟩) ⟨g0, g1, g2⟩ ?_
    rotate_left
    · rintro w' ⟨s0, s1, s2⟩
      go_simp
      rfl
    simp only [Act.put, List.setIfInBounds_toArray, List.set_cons_zero, List.set_cons_succ]
    refine anyM_take 9 (v := ?_) [1, 2, 3, 4, 5, 6, 7, 8, 9] rfl (by decide) (by kernel_rfl) (by kernel_rfl) (by kernel_rfl) (by kernel_rfl) (fun _ _ _ h => h) (Or.inl ⟨by rfl, ?_⟩) ⟨g0, g1, g2⟩ ?_
    rotate_left
    · rintro w' ⟨s0, s1, s2⟩
      go_simp
      rfl
    simp only [Act.put, List.setIfInBounds_toArray, List.set_cons_zero, List.set_cons_succ]
    refine anyM_all (rs := [0, 10]) (by kernel_rfl) (by decide) ?_
    intro i hi
    simp only [List.mem_cons, List.not_mem_nil, or_false] at hi
    rcases hi with rfl | rfl
    · refine wpOp_of_after rfl ?_
      go_wp2_with fail
      refine (widths97 _).mono ?_
      rintro e w2 ⟨ad, rfl, hrd, hk2⟩
      have hk2 : Kp w1 w2 := Kp.self.drew.trans hk2
      have hc0 := hk2.cell g0
      have hc1 := hk2.cell g1
      have hc2 := hk2.cell g2
      have HK2 : Hid (Kp w1 (w2.alloc (.cells #[.int .u64 s, .int .u64 l, .int .u64 r] 28))) := hk2.alloc _
      have HRD : Hid (RdI (w2.alloc (.cells #[.int .u64 s, .int .u64 l, .int .u64 r] 28)) .i64 (some ad) 3 [16, 16, 16]) := hrd.kp (Kp.self.alloc _)
      have HRV : Hid (RdI (w2.alloc (.cells #[.int .u64 s, .int .u64 l, .int .u64 r] 28)) .u64 (some ⟨w2.heap.size, 0, none⟩) 3 [s, l, r]) := rd_new (xs := [s, l, r]) Kp.self (by simp)
      clear hk2 hrd
      go_wp2_with fail
      refine ⟨fun _ => ⟨hc0, hc1, hc2⟩, ?_⟩
      refine anyM_step 10 (by kernel_rfl) rfl ?_
      go_wp2_with fail
      generalize w2.alloc (.cells #[.int .u64 s, .int .u64 l, .int .u64 r] 28) = w3 at *
      generalize (⟨w2.heap.size, 0, none⟩ : Addr) = ad2 at *
      have s0' : w3.cell? ⟨w.heap.size, 0, none⟩ = some (.int .i64 s) := Kp.cell HK2.out g0
      have s1' : w3.cell? ⟨w.heap.size, 1, none⟩ = some (.int .i64 l) := Kp.cell HK2.out g1
      have s2' : w3.cell? ⟨w.heap.size, 2, none⟩ = some (.int .i64 r) := Kp.cell HK2.out g2
      clear hc0 hc1 hc2
      refine ⟨fun _ => ⟨s0', s1', s2'⟩, ?_⟩
      refine anyM_step 11 (by kernel_rfl) rfl ?_
      go_wp2_with fail
      refine (pjoin_any _ _ _ _ _ _ _ _ (by omega) HRD.out HRV.out f16 (fv s l r hm)).mono ?_
      rintro e w4 ⟨rfl, hk4⟩
      have HK4 : Hid (Kp w1 w4) := Kp.trans HK2.out hk4
      have t0 := hk4.cell s0'
      have t1 := hk4.cell s1'
      have t2 := hk4.cell s2'
      clear hk4 s0' s1' s2' HRD HRV HK2
      rw [join3]
      go_wp2_with fail
      refine ⟨fun _ => ⟨t0, t1, t2⟩, ?_⟩
      refine anyM_take 12 (v := ?_) [12, 13, 14, 15, 16] rfl (by decide) (by kernel_rfl) (by kernel_rfl) (by kernel_rfl) (by kernel_rfl) (fun _ _ _ h => h) (Or.inl ⟨by rfl, ?_⟩) ⟨t0, t1, t2⟩ ?_
      rotate_left
      · rintro w' ⟨s0, s1, s2⟩
        go_simp
        rfl
      simp only [Act.put, List.setIfInBounds_toArray, List.set_cons_zero, List.set_cons_succ]
      refine anyM_take 13 (v := ?_) [12, 13, 14, 15, 16] rfl (by decide) (by kernel_rfl) (by kernel_rfl) (by kernel_rfl) (by kernel_rfl) (fun _ _ _ h => h) (Or.inl ⟨by rfl, ?_⟩) ⟨t0, t1, t2⟩ ?_
      rotate_left
      · rintro w' ⟨s0, s1, s2⟩
        go_simp
        rfl
      simp only [Act.put, List.setIfInBounds_toArray, List.set_cons_zero, List.set_cons_succ]
      refine anyM_take 14 (v := ?_) [12, 13, 14, 15, 16] rfl (by decide) (by kernel_rfl) (by kernel_rfl) (by kernel_rfl) (by kernel_rfl) (fun _ _ _ h => h) (Or.inl ⟨by rfl, ?_⟩) ⟨t0, t1, t2⟩ ?_
      rotate_left
      · rintro w' ⟨s0, s1, s2⟩
        go_simp
        rfl
      simp only [Act.put, List.setIfInBounds_toArray, List.set_cons_zero, List.set_cons_succ]
      refine anyM_take 15 (v := ?_) [12, 13, 14, 15, 16] rfl (by decide) (by kernel_rfl) (by kernel_rfl) (by kernel_rfl) (by kernel_rfl) (fun _ _ _ h => h) (Or.inl ⟨by rfl, ?_⟩) ⟨t0, t1, t2⟩ ?_
      rotate_left
      · rintro w' ⟨s0, s1, s2⟩
        go_simp
        rfl
      simp only [Act.put, List.setIfInBounds_toArray, List.set_cons_zero, List.set_cons_succ]
      refine anyM_take 16 (v := ?_) [12, 13, 14, 15, 16] rfl (by decide) (by kernel_rfl) (by kernel_rfl) (by kernel_rfl) (by kernel_rfl) (fun _ _ _ h => h) (Or.inl ⟨by rfl, ?_⟩) ⟨t0, t1, t2⟩ ?_
      rotate_left
      · rintro w' ⟨s0, s1, s2⟩
        go_simp
        rfl
      simp only [Act.put, List.setIfInBounds_toArray, List.set_cons_zero, List.set_cons_succ]
      refine ⟨by kernel_rfl, ?_⟩
      go_wp2_with fail
      refine (total_any _ _ _ _).mono ?_
      rw [hg, if_pos rfl]
      rintro e w5 ⟨rfl, hk5⟩
      have HK5 : Hid (Kp w w5) := Kp.trans HK1.out (Kp.trans HK4.out hk5)
      clear hk5 t0 t1 t2 HK4 HK1
      have ht : 0 ≤ total s l ∧ total s l < 100000 := by unfold total; omega
      have HI := Lib.hid (superL_rng hg)
      have HRD : Hid (RdI (w5.alloc (.cells #[.int .u64 8390880580533249394, .int .u64 3, .int .u64 (s + 65536 * l + 4294967296 * r), .int .u64 (total s l), .int .u64 0, .int .u64 0, .int .u64 0] 28)) .u64 (some ⟨w5.heap.size, 0, none⟩) 7 (superL s l r)) := rd_new (xs := superL s l r) Kp.self (by simp [superL])
      have HO : Hid (OwnI (w5.alloc (.cells #[.int .u64 8390880580533249394, .int .u64 3, .int .u64 (s + 65536 * l + 4294967296 * r), .int .u64 (total s l), .int .u64 0, .int .u64 0, .int .u64 0] 28)) w.heap.size 28 .u64 (.slice (some ⟨w5.heap.size, 0, none⟩) 7 7) (superL s l r)) := rd_own (xs := superL s l r) HK5.out.size (by simp [superL])
      have HK6 : Hid (Kp w (w5.alloc (.cells #[.int .u64 8390880580533249394, .int .u64 3, .int .u64 (s + 65536 * l + 4294967296 * r), .int .u64 (total s l), .int .u64 0, .int .u64 0, .int .u64 0] 28))) := HK5.out.alloc _
      go_wp2_with fail
      generalize w5.alloc (.cells #[.int .u64 8390880580533249394, .int .u64 3, .int .u64 (s + 65536 * l + 4294967296 * r), .int .u64 (total s l), .int .u64 0, .int .u64 0, .int .u64 0] 28) = w6 at *
      refine (sealed_any _ _ _ _ _ HRD.out HI.out (by omega)).mono ?_
      rintro e w7 ⟨rfl, rfl⟩
      go_wp2_with (at_builtin; refine app_num (w0 := w) w.heap.size rfl (.tmp 29) (.tmp 32) 27 28 .u64 8 rfl Try.underlying27 info28 (by decide) _ _ _ rfl rfl HO.out HK6.out HK6.out.size ?c1 ?_)
      case c1 => simp [superL]
      intro v1 w8 hown hkp _ _
      obtain ⟨A1, c1, rfl⟩ := own_slice hown
      have HO8 := Lib.hid hown
      have HK8 := Lib.hid hkp
      clear hown hkp
      go_wp2
      go_ret
      exact ⟨_, rfl, by unfold superW; rw [hg, if_pos rfl]; exact HO8.out, HK8.out⟩
    · refine wpOp_of_after rfl ?_
      go_wp2_with fail
      have HRV0 : Hid (RdI (w1.alloc (.cells #[.int .u64 s, .int .u64 l, .int .u64 r] 28)) .u64 (some ⟨w1.heap.size, 0, none⟩) 3 [s, l, r]) := rd_new (xs := [s, l, r]) Kp.self (by simp)
      have HKA : Hid (Kp w1 (w1.alloc (.cells #[.int .u64 s, .int .u64 l, .int .u64 r] 28))) := Kp.self.alloc _
      generalize w1.alloc (.cells #[.int .u64 s, .int .u64 l, .int .u64 r] 28) = wa at *
      generalize (⟨w1.heap.size, 0, none⟩ : Addr) = ad2 at *
      refine ⟨fun _ => ⟨Kp.cell HKA.out g0, Kp.cell HKA.out g1, Kp.cell HKA.out g2⟩, ?_⟩
      refine anyM_step 0 (by kernel_rfl) rfl ?_
      go_wp2_with fail
      refine (widths97 _).mono ?_
      rintro e w3 ⟨ad, rfl, hrd, hk2⟩
      have hk2 : Kp wa w3 := Kp.self.drew.trans hk2
      have HK2 : Hid (Kp w1 w3) := Kp.trans HKA.out hk2
      have HRD : Hid (RdI w3 .i64 (some ad) 3 [16, 16, 16]) := hrd
      have HRV : Hid (RdI w3 .u64 (some ad2) 3 [s, l, r]) := HRV0.out.kp hk2
      clear hk2 hrd HRV0
      have s0' : w3.cell? ⟨w.heap.size, 0, none⟩ = some (.int .i64 s) := Kp.cell HK2.out g0
      have s1' : w3.cell? ⟨w.heap.size, 1, none⟩ = some (.int .i64 l) := Kp.cell HK2.out g1
      have s2' : w3.cell? ⟨w.heap.size, 2, none⟩ = some (.int .i64 r) := Kp.cell HK2.out g2
      go_wp2_with fail
      refine ⟨fun _ => ⟨s0', s1', s2'⟩, ?_⟩
      refine anyM_step 11 (by kernel_rfl) rfl ?_
      go_wp2_with fail
      refine (pjoin_any _ _ _ _ _ _ _ _ (by omega) HRD.out HRV.out f16 (fv s l r hm)).mono ?_
      rintro e w4 ⟨rfl, hk4⟩
      have HK4 : Hid (Kp w1 w4) := Kp.trans HK2.out hk4
      have t0 := hk4.cell s0'
      have t1 := hk4.cell s1'
      have t2 := hk4.cell s2'
      clear hk4 s0' s1' s2' HRD HRV HK2
      rw [join3]
      go_wp2_with fail
      refine ⟨fun _ => ⟨t0, t1, t2⟩, ?_⟩
      refine anyM_take 12 (v := ?_) [12, 13, 14, 15, 16] rfl (by decide) (by kernel_rfl) (by kernel_rfl) (by kernel_rfl) (by kernel_rfl) (fun _ _ _ h => h) (Or.inl ⟨by rfl, ?_⟩) ⟨t0, t1, t2⟩ ?_
      rotate_left
      · rintro w' ⟨s0, s1, s2⟩
        go_simp
        rfl
      simp only [Act.put, List.setIfInBounds_toArray, List.set_cons_zero, List.set_cons_succ]
      refine anyM_take 13 (v := ?_) [12, 13, 14, 15, 16] rfl (by decide) (by kernel_rfl) (by kernel_rfl) (by kernel_rfl) (by kernel_rfl) (fun _ _ _ h => h) (Or.inl ⟨by rfl, ?_⟩) ⟨t0, t1, t2⟩ ?_
      rotate_left
      · rintro w' ⟨s0, s1, s2⟩
        go_simp
        rfl
      simp only [Act.put, List.setIfInBounds_toArray, List.set_cons_zero, List.set_cons_succ]
      refine anyM_take 14 (v := ?_) [12, 13, 14, 15, 16] rfl (by decide) (by kernel_rfl) (by kernel_rfl) (by kernel_rfl) (by kernel_rfl) (fun _ _ _ h => h) (Or.inl ⟨by rfl, ?_⟩) ⟨t0, t1, t2⟩ ?_
      rotate_left
      · rintro w' ⟨s0, s1, s2⟩
        go_simp
        rfl
      simp only [Act.put, List.setIfInBounds_toArray, List.set_cons_zero, List.set_cons_succ]
      refine anyM_take 15 (v := ?_) [12, 13, 14, 15, 16] rfl (by decide) (by kernel_rfl) (by kernel_rfl) (by kernel_rfl) (by kernel_rfl) (fun _ _ _ h => h) (Or.inl ⟨by rfl, ?_⟩) ⟨t0, t1, t2⟩ ?_
      rotate_left
      · rintro w' ⟨s0, s1, s2⟩
        go_simp
        rfl
      simp only [Act.put, List.setIfInBounds_toArray, List.set_cons_zero, List.set_cons_succ]
      refine anyM_take 16 (v := ?_) [12, 13, 14, 15, 16] rfl (by decide) (by kernel_rfl) (by kernel_rfl) (by kernel_rfl) (by kernel_rfl) (fun _ _ _ h => h) (Or.inl ⟨by rfl, ?_⟩) ⟨t0, t1, t2⟩ ?_
      rotate_left
      · rintro w' ⟨s0, s1, s2⟩
        go_simp
        rfl
      simp only [Act.put, List.setIfInBounds_toArray, List.set_cons_zero, List.set_cons_succ]
      refine ⟨by kernel_rfl, ?_⟩
      go_wp2_with fail
      refine (total_any _ _ _ _).mono ?_
      rw [hg, if_pos rfl]
      rintro e w5 ⟨rfl, hk5⟩
      have HK5 : Hid (Kp w w5) := Kp.trans HK1.out (Kp.trans HK4.out hk5)
      clear hk5 t0 t1 t2 HK4 HK1
      have ht : 0 ≤ total s l ∧ total s l < 100000 := by unfold total; omega
      have HI := Lib.hid (superL_rng hg)
      have HRD : Hid (RdI (w5.alloc (.cells #[.int .u64 8390880580533249394, .int .u64 3, .int .u64 (s + 65536 * l + 4294967296 * r), .int .u64 (total s l), .int .u64 0, .int .u64 0, .int .u64 0] 28)) .u64 (some ⟨w5.heap.size, 0, none⟩) 7 (superL s l r)) := rd_new (xs := superL s l r) Kp.self (by simp [superL])
      have HO : Hid (OwnI (w5.alloc (.cells #[.int .u64 8390880580533249394, .int .u64 3, .int .u64 (s + 65536 * l + 4294967296 * r), .int .u64 (total s l), .int .u64 0, .int .u64 0, .int .u64 0] 28)) w.heap.size 28 .u64 (.slice (some ⟨w5.heap.size, 0, none⟩) 7 7) (superL s l r)) := rd_own (xs := superL s l r) HK5.out.size (by simp [superL])
      have HK6 : Hid (Kp w (w5.alloc (.cells #[.int .u64 8390880580533249394, .int .u64 3, .int .u64 (s + 65536 * l + 4294967296 * r), .int .u64 (total s l), .int .u64 0, .int .u64 0, .int .u64 0] 28))) := HK5.out.alloc _
      go_wp2_with fail
      generalize w5.alloc (.cells #[.int .u64 8390880580533249394, .int .u64 3, .int .u64 (s + 65536 * l + 4294967296 * r), .int .u64 (total s l), .int .u64 0, .int .u64 0, .int .u64 0] 28) = w6 at *
      refine (sealed_any _ _ _ _ _ HRD.out HI.out (by omega)).mono ?_
      rintro e w7 ⟨rfl, rfl⟩
      go_wp2_with (at_builtin; refine app_num (w0 := w) w.heap.size rfl (.tmp 29) (.tmp 32) 27 28 .u64 8 rfl Try.underlying27 info28 (by decide) _ _ _ rfl rfl HO.out HK6.out HK6.out.size ?c1 ?_)
      case c1 => simp [superL]
      intro v1 w8 hown hkp _ _
      obtain ⟨A1, c1, rfl⟩ := own_slice hown
      have HO8 := Lib.hid hown
      have HK8 := Lib.hid hkp
      clear hown hkp
      go_wp2
      go_ret
      exact ⟨_, rfl, by unfold superW; rw [hg, if_pos rfl]; exact HO8.out, HK8.out⟩
end Go.Proofs.Ytpmbjlmplfejgaa
