/- The second question of super.Read; super.Read. -/
import Derived.Test.YtpmbjlmplfejgaaSupD
namespace Go.Proofs.Ytpmbjlmplfejgaa
open Go.RowKit
set_option linter.unusedVariables false
set_option linter.unusedSimpArgs false

/-- A struct of three whole numbers in a block, which may be written. -/
structure Box (w : World) (b : Nat) (s l r : Int) : Prop where
  c0 : w.cell? ⟨b, 0, none⟩ = some (.int .i64 s)
  c1 : w.cell? ⟨b, 1, none⟩ = some (.int .i64 l)
  c2 : w.cell? ⟨b, 2, none⟩ = some (.int .i64 r)
  f0 : w.frozen? ⟨b, 0, none⟩ = false
  f1 : w.frozen? ⟨b, 1, none⟩ = false
  f2 : w.frozen? ⟨b, 2, none⟩ = false
theorem Box.kp {w w' : World} {b : Nat} {s l r : Int} (h : Box w b s l r) (hk : Kp w w') : Box w' b s l r :=
  ⟨hk.cell h.c0, hk.cell h.c1, hk.cell h.c2, hk.frozen_ h.c0 h.f0, hk.frozen_ h.c1 h.f1, hk.frozen_ h.c2 h.f2⟩
theorem Box.set {w : World} {b : Nat} {s l r : Int} (h : Box w b s l r) (s' l' r' : Int) :
    Box (((w.setCell ⟨b, 0, none⟩ (.int .i64 s')).setCell ⟨b, 1, none⟩ (.int .i64 l')).setCell ⟨b, 2, none⟩ (.int .i64 r')) b s' l' r' := by
  refine ⟨?_, ?_, ?_, ?_, ?_, ?_⟩
  · rw [World.cell?_setCell_other _ _ _ _ (by simp), World.cell?_setCell_other _ _ _ _ (by simp)]
    exact cell_set_same h.c0
  · rw [World.cell?_setCell_other _ _ _ _ (by simp)]
    exact cell_set_same (by rw [World.cell?_setCell_other _ _ _ _ (by simp)]; exact h.c1)
  · exact cell_set_same (by rw [World.cell?_setCell_other _ _ _ _ (by simp), World.cell?_setCell_other _ _ _ _ (by simp)]; exact h.c2)
  · rw [frozen_set_same, frozen_set_same, frozen_set_same]; exact h.f0
  · rw [frozen_set_same, frozen_set_same, frozen_set_same]; exact h.f1
  · rw [frozen_set_same, frozen_set_same, frozen_set_same]; exact h.f2
theorem Box.s0 {w : World} {b : Nat} {s l r : Int} (h : Box w b s l r) (x : Int) : Box (w.setCell ⟨b, 0, none⟩ (.int .i64 x)) b x l r :=
  ⟨cell_set_same h.c0, by rw [World.cell?_setCell_other _ _ _ _ (by simp)]; exact h.c1, by rw [World.cell?_setCell_other _ _ _ _ (by simp)]; exact h.c2, by rw [frozen_set_same]; exact h.f0, by rw [frozen_set_same]; exact h.f1, by rw [frozen_set_same]; exact h.f2⟩
theorem Box.s1 {w : World} {b : Nat} {s l r : Int} (h : Box w b s l r) (x : Int) : Box (w.setCell ⟨b, 1, none⟩ (.int .i64 x)) b s x r :=
  ⟨by rw [World.cell?_setCell_other _ _ _ _ (by simp)]; exact h.c0, cell_set_same h.c1, by rw [World.cell?_setCell_other _ _ _ _ (by simp)]; exact h.c2, by rw [frozen_set_same]; exact h.f0, by rw [frozen_set_same]; exact h.f1, by rw [frozen_set_same]; exact h.f2⟩
theorem Box.s2 {w : World} {b : Nat} {s l r : Int} (h : Box w b s l r) (x : Int) : Box (w.setCell ⟨b, 2, none⟩ (.int .i64 x)) b s l x :=
  ⟨by rw [World.cell?_setCell_other _ _ _ _ (by simp)]; exact h.c0, by rw [World.cell?_setCell_other _ _ _ _ (by simp)]; exact h.c1, cell_set_same h.c2, by rw [frozen_set_same]; exact h.f0, by rw [frozen_set_same]; exact h.f1, by rw [frozen_set_same]; exact h.f2⟩
theorem split3x16 (y : Int) : splitTo [16, 16, 16] y 3 = [y % 65536, y / 65536 % 65536, y / 4294967296 % 65536] := by
  simp [splitTo, sumTo, List.range_succ]

def Ask2 (bg : Nat) (n : Nat) (xs : List Int) (w : World) (e : Ending) (w' : World) : Prop :=
  (e = .returned (.bool true) ∧ Upd (fun b => b = bg) w w' ∧ ∃ s l r, gMay s l r = true ∧ xs[2]?.getD 0 = s + 65536 * l + 4294967296 * r ∧ Box w' bg s l r) ∨
  (e = .returned (.bool false) ∧ Upd (fun b => b = bg) w w' ∧ ∀ s l r, ¬ Valid xs n s l r)

set_option maxHeartbeats 1000000 in
set_option maxRecDepth 100000 in
theorem ask110 (bw bg : Nat) (A : Option Addr) (n c : Nat) (xs : List Int) (s l r : Int) (w : World) (hW : w.cell? ⟨bw, 0, none⟩ = some (.slice A n c)) (hr : RdI w .u64 A n xs) (hn : 8 ≤ n) (hx : InR 18446744073709551616 xs) (hB : Box w bg s l r) :
    Calls Try.prog 110 #[.pointer (some ⟨bw, 0, none⟩), .pointer (some ⟨bg, 0, none⟩)] w (Ask2 bg n xs w) := by
  obtain ⟨ad, rfl, hc0⟩ := hr.at_ 2 (by omega)
  have hc0 : w.cell? ⟨ad.block, ad.off + 2, none⟩ = some (.int .u64 (xs[2]?.getD 0)) := by simpa [Addr.add] using hc0
  have hx2 := hx.getD (by decide) 2
  have HBX := Lib.hid hB
  have HVW : Hid (∀ s l r, Valid xs n s l r → xs[2]?.getD 0 = s + 65536 * l + 4294967296 * r ∧ gMay s l r = true) := fun s l r h => ⟨h.word2, h.1⟩
  have b1 : (2 : Int) < n := by omega
  clear hr hn hx hB
  generalize hxe : xs[2]?.getD 0 = x at *
  have HXE := Lib.hid hxe
  clear hxe
  go_enter Try.func110, Try.ntmps110
  go_wp2
  refine wp_region_M [] (fun w' => w'.cell? ⟨bw, 0, none⟩ = some (.slice (some ad) n c) ∧ w'.cell? ⟨ad.block, ad.off + 2, none⟩ = some (.int .u64 x)) (by kernel_rfl) ?_
  refine anyM_take 1 (v := ?_) [1, 2, 3] rfl (by decide) (by kernel_rfl) (by kernel_rfl) (by kernel_rfl) (by kernel_rfl) (fun _ _ _ h => h) (Or.inl ⟨by rfl, ?_⟩) ⟨hW, hc0⟩ ?_
  rotate_left
  · rintro w' ⟨s0, s1⟩
    go_simp
    rfl
  simp only [Act.put, List.setIfInBounds_toArray, List.set_cons_zero, List.set_cons_succ]
  refine anyM_take 2 (v := ?_) [1, 2, 3] rfl (by decide) (by kernel_rfl) (by kernel_rfl) (by kernel_rfl) (by kernel_rfl) (fun _ _ _ h => h) (Or.inl ⟨by rfl, ?_⟩) ⟨hW, hc0⟩ ?_
  rotate_left
  · rintro w' ⟨s0, s1⟩
    go_simp
    rfl
  simp only [Act.put, List.setIfInBounds_toArray, List.set_cons_zero, List.set_cons_succ]
  refine anyM_take 3 (v := ?_) [1, 2, 3] rfl (by decide) (by kernel_rfl) (by kernel_rfl) (by kernel_rfl) (by kernel_rfl) (fun _ _ _ h => h) (Or.inl ⟨by rfl, ?_⟩) ⟨hW, hc0⟩ ?_
  rotate_left
  · rintro w' ⟨s0, s1⟩
    go_simp
    rfl
  simp only [Act.put, List.setIfInBounds_toArray, List.set_cons_zero, List.set_cons_succ]
  refine anyM_step 0 (by kernel_rfl) rfl ?_
  go_wp2_with fail
  refine (widths97 _).mono ?_
  rintro e w1 ⟨ad1, rfl, hrd, hk1⟩
  have hk1 : Kp w w1 := Kp.self.drew.trans hk1
  have HK1 := Lib.hid hk1
  have HRD := Lib.hid hrd
  have g0 := hk1.cell hW
  have g1 := hk1.cell hc0
  clear hk1 hrd
  go_wp2_with fail
  refine ⟨fun _ => ⟨g0, g1⟩, ?_⟩
  refine anyM_step 4 (by kernel_rfl) rfl ?_
  go_wp2_with fail
  refine (psplit_any _ _ _ _ _ _ (by decide) HRD.out f16 (by decide) (by decide) hx2.1 hx2.2).mono ?_
  rintro e w3 ⟨hp0, hp1, hk3⟩
  have hs : x / 2 ^ (sumTo [16, 16, 16] 3).toNat = x / 281474976710656 := by rw [show (sumTo [16, 16, 16] 3).toNat = 48 by decide]; simp
  rw [hs] at hp0 hp1
  have t0 := hk3.cell g0
  have t1 := hk3.cell g1
  have HK3 := Lib.hid (HK1.out.trans hk3)
  clear hk3 hs g0 g1
  by_cases hyz : x / 281474976710656 = 0
  · obtain ⟨v, rfl, hown⟩ := hp0 hyz
    clear hp1 hp0
    rw [split3x16] at hown
    have hown : w3.ownsRow w1.heap.size 28 1 v 3 (nums .u64 [x % 65536, x / 65536 % 65536, x / 4294967296 % 65536]) := hown
    obtain ⟨g, cap, rfl, hb, hg⟩ := hown.form (by decide)
    have h0 : w3.cell? ⟨g, 0, none⟩ = some (.int .u64 (x % 65536)) := own_get hown 0 (by decide)
    have h1 : w3.cell? ⟨g, 1, none⟩ = some (.int .u64 (x / 65536 % 65536)) := own_get hown 1 (by decide)
    have h2 : w3.cell? ⟨g, 2, none⟩ = some (.int .u64 (x / 4294967296 % 65536)) := own_get hown 2 (by decide)
    have b0 : 0 ≤ x % 65536 ∧ x % 65536 < 65536 := by omega
    have b1 : 0 ≤ x / 65536 % 65536 ∧ x / 65536 % 65536 < 65536 := by omega
    have b2 : 0 ≤ x / 4294967296 % 65536 ∧ x / 4294967296 % 65536 < 65536 := by omega
    have hjoin : x = x % 65536 + 65536 * (x / 65536 % 65536) + 4294967296 * (x / 4294967296 % 65536) := by omega
    have HJ := Lib.hid hjoin
    have HN : Hid (gMay (x % 65536) (x / 65536 % 65536) (x / 4294967296 % 65536) = false → ∀ s l r, ¬ Valid xs n s l r) := fun hm s l r hv => by
      obtain ⟨e1, e2⟩ := HVW.out s l r hv
      have := may_bd e2
      have q0 : x % 65536 = s := by omega
      have q1 : x / 65536 % 65536 = l := by omega
      have q2 : x / 4294967296 % 65536 = r := by omega
      rw [q0, q1, q2, e2] at hm
      cases hm
    generalize x % 65536 = s' at *
    generalize x / 65536 % 65536 = l' at *
    generalize x / 4294967296 % 65536 = r' at *
    clear hown hjoin
    go_wp2_with fail
    refine ⟨fun _ => ⟨t0, t1⟩, ?_⟩
    refine anyM_take 5 (v := ?_) [5, 6, 7, 8, 9] rfl (by decide) (by kernel_rfl) (by kernel_rfl) (by kernel_rfl) (by kernel_rfl) (fun _ _ _ h => h) (Or.inl ⟨by rfl, ?_⟩) ⟨t0, t1⟩ ?_
    rotate_left
    · rintro w' ⟨s0, s1⟩
      go_simp
      rfl
    simp only [Act.put, List.setIfInBounds_toArray, List.set_cons_zero, List.set_cons_succ]
    refine anyM_take 6 (v := ?_) [5, 6, 7, 8, 9] rfl (by decide) (by kernel_rfl) (by kernel_rfl) (by kernel_rfl) (by kernel_rfl) (fun _ _ _ h => h) (Or.inl ⟨by rfl, ?_⟩) ⟨t0, t1⟩ ?_
    rotate_left
    · rintro w' ⟨s0, s1⟩
      go_simp
      rfl
    simp only [Act.put, List.setIfInBounds_toArray, List.set_cons_zero, List.set_cons_succ]
    refine anyM_take 7 (v := ?_) [5, 6, 7, 8, 9] rfl (by decide) (by kernel_rfl) (by kernel_rfl) (by kernel_rfl) (by kernel_rfl) (fun _ _ _ h => h) (Or.inl ⟨by rfl, ?_⟩) ⟨t0, t1⟩ ?_
    rotate_left
    · rintro w' ⟨s0, s1⟩
      go_simp
      rfl
    simp only [Act.put, List.setIfInBounds_toArray, List.set_cons_zero, List.set_cons_succ]
    refine anyM_take 8 (v := ?_) [5, 6, 7, 8, 9] rfl (by decide) (by kernel_rfl) (by kernel_rfl) (by kernel_rfl) (by kernel_rfl) (fun _ _ _ h => h) (Or.inl ⟨by rfl, ?_⟩) ⟨t0, t1⟩ ?_
    rotate_left
    · rintro w' ⟨s0, s1⟩
      go_simp
      rfl
    simp only [Act.put, List.setIfInBounds_toArray, List.set_cons_zero, List.set_cons_succ]
    refine anyM_take 9 (v := ?_) [5, 6, 7, 8, 9] rfl (by decide) (by kernel_rfl) (by kernel_rfl) (by kernel_rfl) (by kernel_rfl) (fun _ _ _ h => h) (Or.inl ⟨by rfl, ?_⟩) ⟨t0, t1⟩ ?_
    rotate_left
    · rintro w' ⟨s0, s1⟩
      go_simp
      rfl
    simp only [Act.put, List.setIfInBounds_toArray, List.set_cons_zero, List.set_cons_succ]
    refine ⟨by kernel_rfl, ?_⟩
    clear t0 t1
    have HBD : Hid (Box w3.drew bg s l r) := HBX.out.kp HK3.out.drew
    have hne : g ≠ bg := by
      have := World.block_lt_of_cell? _ _ (HK1.out.cell HBX.out.c0)
      simp only at this
      omega
    have hs0 : w3.drew.cell? ⟨g, 0, none⟩ = some (.int .u64 s') := h0
    have hs1 : w3.drew.cell? ⟨g, 1, none⟩ = some (.int .u64 l') := h1
    have hs2 : w3.drew.cell? ⟨g, 2, none⟩ = some (.int .u64 r') := h2
    have HUD : Hid (Upd (fun b => b = bg) w w3.drew) := HK3.out.drew.upd _
    go_wp2
    refine wp_region_Md [] (fun w' => w'.cell? ⟨g, 0, none⟩ = some (.int .u64 s') ∧ w'.cell? ⟨g, 1, none⟩ = some (.int .u64 l') ∧ w'.cell? ⟨g, 2, none⟩ = some (.int .u64 r')) (by kernel_rfl) ?_
    clear h0 h1 h2
    generalize w3.drew = w4 at *
    have far : ∀ (W : World) (x i : Nat) (v : Value), (W.setCell ⟨bg, x, none⟩ v).cell? ⟨g, i, none⟩ = W.cell? ⟨g, i, none⟩ := fun W x i v => cell_set_ne _ _ _ _ (by simpa using hne)
    have q0 := HBD.out.c0
    have q1 := HBD.out.c1
    have q2 := HBD.out.c2
    have f0 := HBD.out.f0
    have f1 := HBD.out.f1
    have f2 := HBD.out.f2
    refine anyM_take 0 (v := ?_) [0, 1, 2, 3, 4, 5, 6, 7, 8, 9, 10, 11] rfl (by decide) (by kernel_rfl) (by kernel_rfl) (by kernel_rfl) (by kernel_rfl) (fun _ _ _ h => h) (Or.inl ⟨by rfl, ?_⟩) ⟨hs0, hs1, hs2⟩ ?_
    rotate_left
    · rintro w' ⟨s0, s1, s2⟩
      go_simp
      rfl
    simp only [Act.put, List.setIfInBounds_toArray, List.set_cons_zero, List.set_cons_succ]
    refine anyM_take 1 (v := ?_) [0, 1, 2, 3, 4, 5, 6, 7, 8, 9, 10, 11] rfl (by decide) (by kernel_rfl) (by kernel_rfl) (by kernel_rfl) (by kernel_rfl) (fun _ _ _ h => h) (Or.inl ⟨by rfl, ?_⟩) ⟨hs0, hs1, hs2⟩ ?_
    rotate_left
    · rintro w' ⟨s0, s1, s2⟩
      go_simp
      rfl
    simp only [Act.put, List.setIfInBounds_toArray, List.set_cons_zero, List.set_cons_succ]
    refine anyM_take 2 (v := ?_) [0, 1, 2, 3, 4, 5, 6, 7, 8, 9, 10, 11] rfl (by decide) (by kernel_rfl) (by kernel_rfl) (by kernel_rfl) (by kernel_rfl) (fun _ _ _ h => h) (Or.inl ⟨by rfl, ?_⟩) ⟨hs0, hs1, hs2⟩ ?_
    rotate_left
    · rintro w' ⟨s0, s1, s2⟩
      go_simp
      rfl
    simp only [Act.put, List.setIfInBounds_toArray, List.set_cons_zero, List.set_cons_succ]
    refine anyM_take 3 (v := ?_) [0, 1, 2, 3, 4, 5, 6, 7, 8, 9, 10, 11] rfl (by decide) (by kernel_rfl) (by kernel_rfl) (by kernel_rfl) (by kernel_rfl) (fun _ _ _ h => h) (Or.inl ⟨by rfl, ?_⟩) ⟨hs0, hs1, hs2⟩ ?_
    rotate_left
    · rintro w' ⟨s0, s1, s2⟩
      go_simp
      rfl
    simp only [Act.put, List.setIfInBounds_toArray, List.set_cons_zero, List.set_cons_succ]
    refine anyM_take 4 (v := ?_) [0, 1, 2, 3, 4, 5, 6, 7, 8, 9, 10, 11] rfl (by decide) (by kernel_rfl) (by kernel_rfl) (by kernel_rfl) (by kernel_rfl) (fun _ _ _ h => h) (Or.inl ⟨by rfl, ?_⟩) ⟨hs0, hs1, hs2⟩ ?_
    rotate_left
    · rintro w' ⟨s0, s1, s2⟩
      go_simp
      rfl
    simp only [Act.put, List.setIfInBounds_toArray, List.set_cons_zero, List.set_cons_succ]
    refine anyM_take 5 (v := ?_) [0, 1, 2, 3, 4, 5, 6, 7, 8, 9, 10, 11] rfl (by decide) (by kernel_rfl) (by kernel_rfl) (by kernel_rfl) (by kernel_rfl) (fun _ _ _ h => h) (Or.inl ⟨by rfl, ?_⟩) ⟨hs0, hs1, hs2⟩ ?_
    rotate_left
    · rintro w' ⟨s0, s1, s2⟩
      go_simp
      rfl
    simp only [Act.put, List.setIfInBounds_toArray, List.set_cons_zero, List.set_cons_succ]
    refine anyM_take 6 (v := ?_) [0, 1, 2, 3, 4, 5, 6, 7, 8, 9, 10, 11] rfl (by decide) (by kernel_rfl) (by kernel_rfl) (by kernel_rfl) (by kernel_rfl) (fun _ _ _ h => h) (Or.inl ⟨by rfl, ?_⟩) ⟨hs0, hs1, hs2⟩ ?_
    rotate_left
    · rintro w' ⟨s0, s1, s2⟩
      go_simp
      rfl
    simp only [Act.put, List.setIfInBounds_toArray, List.set_cons_zero, List.set_cons_succ]
    refine anyM_take 7 (v := ?_) [0, 1, 2, 3, 4, 5, 6, 7, 8, 9, 10, 11] rfl (by decide) (by kernel_rfl) (by kernel_rfl) (by kernel_rfl) (by kernel_rfl) (fun _ _ _ h => h) (Or.inl ⟨by rfl, ?_⟩) ⟨hs0, hs1, hs2⟩ ?_
    rotate_left
    · rintro w' ⟨s0, s1, s2⟩
      go_simp
      rfl
    simp only [Act.put, List.setIfInBounds_toArray, List.set_cons_zero, List.set_cons_succ]
    refine anyM_take 8 (v := ?_) [0, 1, 2, 3, 4, 5, 6, 7, 8, 9, 10, 11] rfl (by decide) (by kernel_rfl) (by kernel_rfl) (by kernel_rfl) (by kernel_rfl) (fun _ _ _ h => h) (Or.inl ⟨by rfl, ?_⟩) ⟨hs0, hs1, hs2⟩ ?_
    rotate_left
    · rintro w' ⟨s0, s1, s2⟩
      go_simp
      rfl
    simp only [Act.put, List.setIfInBounds_toArray, List.set_cons_zero, List.set_cons_succ]
    refine anyM_take 9 (v := ?_) [0, 1, 2, 3, 4, 5, 6, 7, 8, 9, 10, 11] rfl (by decide) (by kernel_rfl) (by kernel_rfl) (by kernel_rfl) (by kernel_rfl) (fun _ _ _ h => h) (Or.inl ⟨by rfl, ?_⟩) ⟨hs0, hs1, hs2⟩ ?_
    rotate_left
    · rintro w' ⟨s0, s1, s2⟩
      go_simp
      rfl
    simp only [Act.put, List.setIfInBounds_toArray, List.set_cons_zero, List.set_cons_succ]
    refine anyM_take 10 (v := ?_) [0, 1, 2, 3, 4, 5, 6, 7, 8, 9, 10, 11] rfl (by decide) (by kernel_rfl) (by kernel_rfl) (by kernel_rfl) (by kernel_rfl) (fun _ _ _ h => h) (Or.inl ⟨by rfl, ?_⟩) ⟨hs0, hs1, hs2⟩ ?_
    rotate_left
    · rintro w' ⟨s0, s1, s2⟩
      go_simp
      rfl
    simp only [Act.put, List.setIfInBounds_toArray, List.set_cons_zero, List.set_cons_succ]
    refine anyM_take 11 (v := ?_) [0, 1, 2, 3, 4, 5, 6, 7, 8, 9, 10, 11] rfl (by decide) (by kernel_rfl) (by kernel_rfl) (by kernel_rfl) (by kernel_rfl) (fun _ _ _ h => h) (Or.inl ⟨by rfl, ?_⟩) ⟨hs0, hs1, hs2⟩ ?_
    rotate_left
    · rintro w' ⟨s0, s1, s2⟩
      go_simp
      rfl
    simp only [Act.put, List.setIfInBounds_toArray, List.set_cons_zero, List.set_cons_succ]
    refine anyM_step 12 (by kernel_rfl) rfl ?_
    go_wp2_with fail
    clear q0 q1 q2 f0 f1 f2
    have HBw5 := Lib.hid (HBD.out.set 0 0 0)
    have HUw5 := Lib.hid (((HUD.out.set ⟨bg, 0, none⟩ (fun _ => rfl) (.int .i64 0)).set ⟨bg, 1, none⟩ (fun _ => rfl) (.int .i64 0)).set ⟨bg, 2, none⟩ (fun _ => rfl) (.int .i64 0))
    have j0 : (((w4.setCell ⟨bg, 0, none⟩ (.int .i64 0)).setCell ⟨bg, 1, none⟩ (.int .i64 0)).setCell ⟨bg, 2, none⟩ (.int .i64 0)).cell? ⟨g, 0, none⟩ = some (.int .u64 s') := by rw [far, far, far]; exact hs0
    have j1 : (((w4.setCell ⟨bg, 0, none⟩ (.int .i64 0)).setCell ⟨bg, 1, none⟩ (.int .i64 0)).setCell ⟨bg, 2, none⟩ (.int .i64 0)).cell? ⟨g, 1, none⟩ = some (.int .u64 l') := by rw [far, far, far]; exact hs1
    have j2 : (((w4.setCell ⟨bg, 0, none⟩ (.int .i64 0)).setCell ⟨bg, 1, none⟩ (.int .i64 0)).setCell ⟨bg, 2, none⟩ (.int .i64 0)).cell? ⟨g, 2, none⟩ = some (.int .u64 r') := by rw [far, far, far]; exact hs2
    generalize ((w4.setCell ⟨bg, 0, none⟩ (.int .i64 0)).setCell ⟨bg, 1, none⟩ (.int .i64 0)).setCell ⟨bg, 2, none⟩ (.int .i64 0) = w5 at *
    refine ⟨fun _ => ⟨j0, j1, j2⟩, ?_⟩
    have q0 := HBw5.out.c0
    have q1 := HBw5.out.c1
    have q2 := HBw5.out.c2
    have f0 := HBw5.out.f0
    have f1 := HBw5.out.f1
    have f2 := HBw5.out.f2
    refine anyM_take 13 (v := ?_) [13] rfl (by decide) (by kernel_rfl) (by kernel_rfl) (by kernel_rfl) (by kernel_rfl) (fun _ _ _ h => h) (Or.inl ⟨by rfl, ?_⟩) ⟨j0, j1, j2⟩ ?_
    rotate_left
    · rintro w' ⟨s0, s1, s2⟩
      go_simp
      rfl
    simp only [Act.put, List.setIfInBounds_toArray, List.set_cons_zero, List.set_cons_succ]
    refine anyM_step 14 (by kernel_rfl) rfl ?_
    go_wp2_with fail
    clear q0 q1 q2 f0 f1 f2
    have HBw6 := Lib.hid (HBw5.out.s0 s')
    have HUw6 := Lib.hid (HUw5.out.set ⟨bg, 0, none⟩ (fun _ => rfl) (.int .i64 s'))
    have k0 : (w5.setCell ⟨bg, 0, none⟩ (.int .i64 s')).cell? ⟨g, 0, none⟩ = some (.int .u64 s') := by rw [far]; exact j0
    have k1 : (w5.setCell ⟨bg, 0, none⟩ (.int .i64 s')).cell? ⟨g, 1, none⟩ = some (.int .u64 l') := by rw [far]; exact j1
    have k2 : (w5.setCell ⟨bg, 0, none⟩ (.int .i64 s')).cell? ⟨g, 2, none⟩ = some (.int .u64 r') := by rw [far]; exact j2
    generalize w5.setCell ⟨bg, 0, none⟩ (.int .i64 s') = w6 at *
    refine ⟨fun _ => ⟨k0, k1, k2⟩, ?_⟩
    have q0 := HBw6.out.c0
    have q1 := HBw6.out.c1
    have q2 := HBw6.out.c2
    have f0 := HBw6.out.f0
    have f1 := HBw6.out.f1
    have f2 := HBw6.out.f2
    refine anyM_take 15 (v := ?_) [15] rfl (by decide) (by kernel_rfl) (by kernel_rfl) (by kernel_rfl) (by kernel_rfl) (fun _ _ _ h => h) (Or.inl ⟨by rfl, ?_⟩) ⟨k0, k1, k2⟩ ?_
    rotate_left
    · rintro w' ⟨s0, s1, s2⟩
      go_simp
      rfl
    simp only [Act.put, List.setIfInBounds_toArray, List.set_cons_zero, List.set_cons_succ]
    refine anyM_step 16 (by kernel_rfl) rfl ?_
    go_wp2_with fail
    clear q0 q1 q2 f0 f1 f2
    have HBw7 := Lib.hid (HBw6.out.s1 l')
    have HUw7 := Lib.hid (HUw6.out.set ⟨bg, 1, none⟩ (fun _ => rfl) (.int .i64 l'))
    have m0 : (w6.setCell ⟨bg, 1, none⟩ (.int .i64 l')).cell? ⟨g, 0, none⟩ = some (.int .u64 s') := by rw [far]; exact k0
    have m1 : (w6.setCell ⟨bg, 1, none⟩ (.int .i64 l')).cell? ⟨g, 1, none⟩ = some (.int .u64 l') := by rw [far]; exact k1
    have m2 : (w6.setCell ⟨bg, 1, none⟩ (.int .i64 l')).cell? ⟨g, 2, none⟩ = some (.int .u64 r') := by rw [far]; exact k2
    generalize w6.setCell ⟨bg, 1, none⟩ (.int .i64 l') = w7 at *
    refine ⟨fun _ => ⟨m0, m1, m2⟩, ?_⟩
    have q0 := HBw7.out.c0
    have q1 := HBw7.out.c1
    have q2 := HBw7.out.c2
    have f0 := HBw7.out.f0
    have f1 := HBw7.out.f1
    have f2 := HBw7.out.f2
    refine anyM_take 17 (v := ?_) [17] rfl (by decide) (by kernel_rfl) (by kernel_rfl) (by kernel_rfl) (by kernel_rfl) (fun _ _ _ h => h) (Or.inl ⟨by rfl, ?_⟩) ⟨m0, m1, m2⟩ ?_
    rotate_left
    · rintro w' ⟨s0, s1, s2⟩
      go_simp
      rfl
    simp only [Act.put, List.setIfInBounds_toArray, List.set_cons_zero, List.set_cons_succ]
    refine anyM_step 18 (by kernel_rfl) rfl ?_
    go_wp2_with fail
    clear q0 q1 q2 f0 f1 f2
    have HBw8 := Lib.hid (HBw7.out.s2 r')
    have HUw8 := Lib.hid (HUw7.out.set ⟨bg, 2, none⟩ (fun _ => rfl) (.int .i64 r'))
    have p0 : (w7.setCell ⟨bg, 2, none⟩ (.int .i64 r')).cell? ⟨g, 0, none⟩ = some (.int .u64 s') := by rw [far]; exact m0
    have p1 : (w7.setCell ⟨bg, 2, none⟩ (.int .i64 r')).cell? ⟨g, 1, none⟩ = some (.int .u64 l') := by rw [far]; exact m1
    have p2 : (w7.setCell ⟨bg, 2, none⟩ (.int .i64 r')).cell? ⟨g, 2, none⟩ = some (.int .u64 r') := by rw [far]; exact m2
    generalize w7.setCell ⟨bg, 2, none⟩ (.int .i64 r') = w8 at *
    refine ⟨fun _ => ⟨p0, p1, p2⟩, ?_⟩
    have q0 := HBw8.out.c0
    have q1 := HBw8.out.c1
    have q2 := HBw8.out.c2
    have f0 := HBw8.out.f0
    have f1 := HBw8.out.f1
    have f2 := HBw8.out.f2
    refine ⟨by kernel_rfl, ?_⟩
    clear j0 j1 j2 k0 k1 k2 m0 m1 m2 p0 p1 p2 hs0 hs1 hs2
    go_wp2_with fail
    refine (may_any s' l' r' _).mono ?_
    rintro e w9 ⟨rfl, hk9⟩
    have HB9 := Lib.hid (HBw8.out.kp hk9)
    have HU9 := Lib.hid (HUw8.out.kp hk9)
    clear hk9 q0 q1 q2 f0 f1 f2
    cases hm : gMay s' l' r'
    · go_wp2
      go_ret
      exact .inr ⟨rfl, HU9.out, HN.out hm⟩
    · go_wp2
      go_ret
      exact .inl ⟨rfl, HU9.out, s', l', r', hm, HXE.out.trans HJ.out, HB9.out⟩
  · have he := hp1 hyz
    subst he
    clear hp0 hp1
    have HN : Hid (∀ s l r, ¬ Valid xs n s l r) := by
      intro s l r hv
      obtain ⟨e1, e2⟩ := HVW.out s l r hv
      have := may_bd e2
      omega
    go_wp2_with fail
    refine ⟨fun _ => ⟨t0, t1⟩, ?_⟩
    refine anyM_take 5 (v := ?_) [5, 6, 7, 8, 9] rfl (by decide) (by kernel_rfl) (by kernel_rfl) (by kernel_rfl) (by kernel_rfl) (fun _ _ _ h => h) (Or.inl ⟨by rfl, ?_⟩) ⟨t0, t1⟩ ?_
    rotate_left
    · rintro w' ⟨s0, s1⟩
      go_simp
      rfl
    simp only [Act.put, List.setIfInBounds_toArray, List.set_cons_zero, List.set_cons_succ]
    refine anyM_take 6 (v := ?_) [5, 6, 7, 8, 9] rfl (by decide) (by kernel_rfl) (by kernel_rfl) (by kernel_rfl) (by kernel_rfl) (fun _ _ _ h => h) (Or.inl ⟨by rfl, ?_⟩) ⟨t0, t1⟩ ?_
    rotate_left
    · rintro w' ⟨s0, s1⟩
      go_simp
      rfl
    simp only [Act.put, List.setIfInBounds_toArray, List.set_cons_zero, List.set_cons_succ]
    refine anyM_take 7 (v := ?_) [5, 6, 7, 8, 9] rfl (by decide) (by kernel_rfl) (by kernel_rfl) (by kernel_rfl) (by kernel_rfl) (fun _ _ _ h => h) (Or.inl ⟨by rfl, ?_⟩) ⟨t0, t1⟩ ?_
    rotate_left
    · rintro w' ⟨s0, s1⟩
      go_simp
      rfl
    simp only [Act.put, List.setIfInBounds_toArray, List.set_cons_zero, List.set_cons_succ]
    refine anyM_take 8 (v := ?_) [5, 6, 7, 8, 9] rfl (by decide) (by kernel_rfl) (by kernel_rfl) (by kernel_rfl) (by kernel_rfl) (fun _ _ _ h => h) (Or.inl ⟨by rfl, ?_⟩) ⟨t0, t1⟩ ?_
    rotate_left
    · rintro w' ⟨s0, s1⟩
      go_simp
      rfl
    simp only [Act.put, List.setIfInBounds_toArray, List.set_cons_zero, List.set_cons_succ]
    refine anyM_take 9 (v := ?_) [5, 6, 7, 8, 9] rfl (by decide) (by kernel_rfl) (by kernel_rfl) (by kernel_rfl) (by kernel_rfl) (fun _ _ _ h => h) (Or.inl ⟨by rfl, ?_⟩) ⟨t0, t1⟩ ?_
    rotate_left
    · rintro w' ⟨s0, s1⟩
      go_simp
      rfl
    simp only [Act.put, List.setIfInBounds_toArray, List.set_cons_zero, List.set_cons_succ]
    refine ⟨by kernel_rfl, ?_⟩
    go_wp2
    go_ret
    exact .inr ⟨rfl, HK3.out.upd _, HN.out⟩

def sfid (j : Nat) : FuncId := 109 + j
def scaps (b1 bg : Nat) (j : Nat) : Array Value := if j = 0 then #[.pointer (some ⟨b1, 0, none⟩)] else #[.pointer (some ⟨b1, 0, none⟩), .pointer (some ⟨bg, 0, none⟩)]
def SI (bg n : Nat) (xs : List Int) (W : World) (k : Nat) (w' : World) : Prop :=
  Upd (fun b => b = bg) W w' ∧ (1 ≤ k → 8 ≤ n) ∧ ∃ s l r, Box w' bg s l r ∧ (2 ≤ k → gMay s l r = true ∧ xs[2]?.getD 0 = s + 65536 * l + 4294967296 * r) ∧ (3 ≤ k → xs.take 8 = superW s l r) ∧ (4 ≤ k → (n : Int) = total s l)
def SF (bg n : Nat) (xs : List Int) (W w' : World) : Prop := Upd (fun b => b = bg) W w' ∧ ∀ s l r, ¬ Valid xs n s l r

theorem asks_any (b1 bg : Nat) (A : Option Addr) (n c : Nat) (xs : List Int) (w0 W : World) (hW : W.cell? ⟨b1, 0, none⟩ = some (.slice A n c)) (hne : b1 ≠ bg) (hr : RdI w0 .u64 A n xs) (hx : InR 18446744073709551616 xs) (hc : n ≤ c) (hcm : c ≤ maxLen)
    (hk0 : Kp w0 W) (hbg : w0.heap.size ≤ bg) (j : Nat) (hj : j < 4) (w' : World) (hI : SI bg n xs W j w') :
    Calls Try.prog (sfid j) (scaps b1 bg j) w' fun e w'' => (e = .returned (.bool true) ∧ SI bg n xs W (j + 1) w'') ∨ (e = .returned (.bool false) ∧ SF bg n xs W w'') := by
  obtain ⟨hU, h8, s, l, r, hB, h2, h3, h4⟩ := hI
  have hW' : w'.cell? ⟨b1, 0, none⟩ = some (.slice A n c) := hU.cell (by simpa using hne) hW
  have hr' : RdI w' .u64 A n xs := hr.kp (((hk0.upd (fun b => b = bg)).trans hU (fun _ _ h => h)).kpOf (by omega))
  match j, hj with
  | 0, _ =>
    refine (ask109 b1 A n c w' hW').mono ?_
    rintro e w1 ⟨rfl, rfl⟩
    by_cases h : 8 ≤ n
    · exact .inl ⟨by simp [h], hU, fun _ => h, s, l, r, hB, fun hh => absurd hh (by omega), fun hh => absurd hh (by omega), fun hh => absurd hh (by omega)⟩
    · exact .inr ⟨by simp [h], hU, fun s l r hv => h hv.2.1⟩
  | 1, _ =>
    refine (ask110 b1 bg A n c xs s l r w' hW' hr' (h8 (by omega)) hx hB).mono ?_
    rintro e w1 (⟨rfl, hU1, s', l', r', a1, a2, a3⟩ | ⟨rfl, hU1, a1⟩)
    · exact .inl ⟨rfl, hU.trans hU1 (fun _ _ h => h), fun _ => h8 (by omega), s', l', r', a3, fun _ => ⟨a1, a2⟩, fun hh => absurd hh (by omega), fun hh => absurd hh (by omega)⟩
    · exact .inr ⟨rfl, hU.trans hU1 (fun _ _ h => h), a1⟩
  | 2, _ =>
    obtain ⟨g1, g2⟩ := h2 (by omega)
    refine (ask111 b1 bg A n c xs s l r w' hW' hr' (h8 (by omega)) hc hcm hB.c0 hB.c1 hB.c2).mono ?_
    rintro e w1 ⟨rfl, hk⟩
    by_cases h : xs.take 8 = superW s l r
    · exact .inl ⟨by simp [h], hU.kp hk, fun _ => h8 (by omega), s, l, r, hB.kp hk, fun _ => ⟨g1, g2⟩, fun _ => h, fun hh => absurd hh (by omega)⟩
    · refine .inr ⟨by simp [h], hU.kp hk, fun s' l' r' hv => ?_⟩
      have e2 := hv.word2
      have := may_bd g1
      have := may_bd hv.1
      obtain ⟨rfl, rfl, rfl⟩ : s' = s ∧ l' = l ∧ r' = r := by omega
      exact h hv.2.2.1
  | 3, _ =>
    obtain ⟨g1, g2⟩ := h2 (by omega)
    refine (ask112 b1 bg A n c s l r w' hW' g1 hB.c0 hB.c1 hB.c2).mono ?_
    rintro e w1 ⟨rfl, hk⟩
    by_cases h : (n : Int) = total s l
    · exact .inl ⟨by simp [h], hU.kp hk, fun _ => h8 (by omega), s, l, r, hB.kp hk, fun _ => ⟨g1, g2⟩, fun _ => h3 (by omega), fun _ => h⟩
    · refine .inr ⟨by simp [h], hU.kp hk, fun s' l' r' hv => ?_⟩
      have e2 := hv.word2
      have := may_bd g1
      have := may_bd hv.1
      obtain ⟨rfl, rfl, rfl⟩ : s' = s ∧ l' = l ∧ r' = r := by omega
      exact h hv.2.2.2
end Go.Proofs.Ytpmbjlmplfejgaa
