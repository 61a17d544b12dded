/- pack.Split: the fields of a word, gathered by a closure that appends. -/
import Derived.Test.YtpmbjlmplfejgaaPack
namespace Go.Proofs.Ytpmbjlmplfejgaa
open Go.RowKit
set_option linter.unusedVariables false
set_option linter.unusedSimpArgs false
theorem info28 : (Try.prog.info? 28).map (fun i => (i.zero, i.size, i.bytes)) = some (some (.int .u64 0), 1, 8) := by kernel_rfl

set_option maxHeartbeats 1000000 in
set_option maxRecDepth 100000 in
theorem split1_any (bo bx base j : Nat) (at_ n x : Int) (v0 : Value) (xs : List Int) (w : World)
    (hO : w.cell? ⟨bo, 0, none⟩ = some v0) (hX : w.cell? ⟨bx, 0, none⟩ = some (.int .u64 x)) (hOf : w.frozen? ⟨bo, 0, none⟩ = false)
    (hown : OwnI w base 28 .u64 v0 xs) (hbo : bo < base) (hbx : bx < base) (hbw : base ≤ w.heap.size) (hlen : xs.length ≤ 1000)
    (hat0 : 0 ≤ at_) (hn0 : 1 ≤ n) (han : at_ ≤ 64 - n) (hx0 : 0 ≤ x) (hx1 : x < 18446744073709551616) :
    Calls Try.prog 154 #[.int .i64 j, .int .i64 at_, .int .i64 n, .pointer (some ⟨bo, 0, none⟩), .pointer (some ⟨bx, 0, none⟩)] w fun e w' =>
      e = .returned (.tuple #[]) ∧ ∃ v1, Upd (fun b => b = bo ∨ base ≤ b) w w' ∧ w'.cell? ⟨bo, 0, none⟩ = some v1 ∧ w'.frozen? ⟨bo, 0, none⟩ = false ∧
        OwnI w' base 28 .u64 v1 (xs ++ [x / 2 ^ at_.toNat % 2 ^ n.toNat]) := by
  obtain ⟨A, c, rfl⟩ := own_slice hown
  have HOWN := Lib.hid hown
  clear hown
  go_enter Try.func154, Try.ntmps154
  go_wp2
  refine wp_region_M [7] (fun w' => w'.cell? ⟨bo, 0, none⟩ = some (.slice A xs.length c) ∧ w'.cell? ⟨bx, 0, none⟩ = some (.int .u64 x)) (by kernel_rfl) ?_
  refine anyM_take 0 (v := ?_) [0, 1, 2, 3] rfl (by decide) (by kernel_rfl) (by kernel_rfl) (by kernel_rfl) (by kernel_rfl) (fun _ _ _ h => h) (Or.inl ⟨by rfl, ?_⟩) ⟨hO, hX⟩ ?_
  rotate_left
  · rintro w' ⟨hS1, hS2⟩
    go_simp
    rfl
  simp only [Act.put, List.setIfInBounds_toArray, List.set_cons_zero, List.set_cons_succ]
  refine anyM_take 1 (v := ?_) [0, 1, 2, 3] rfl (by decide) (by kernel_rfl) (by kernel_rfl) (by kernel_rfl) (by kernel_rfl) (fun _ _ _ h => h) (Or.inl ⟨by rfl, ?_⟩) ⟨hO, hX⟩ ?_
  rotate_left
  · rintro w' ⟨hS1, hS2⟩
    go_simp
    rfl
  simp only [Act.put, List.setIfInBounds_toArray, List.set_cons_zero, List.set_cons_succ]
  refine anyM_take 2 (v := ?_) [0, 1, 2, 3] rfl (by decide) (by kernel_rfl) (by kernel_rfl) (by kernel_rfl) (by kernel_rfl) (fun _ _ _ h => h) (Or.inl ⟨by rfl, ?_⟩) ⟨hO, hX⟩ ?_
  rotate_left
  · rintro w' ⟨hS1, hS2⟩
    go_simp
    rfl
  simp only [Act.put, List.setIfInBounds_toArray, List.set_cons_zero, List.set_cons_succ]
  refine anyM_take 3 (v := ?_) [0, 1, 2, 3] rfl (by decide) (by kernel_rfl) (by kernel_rfl) (by kernel_rfl) (by kernel_rfl) (fun _ _ _ h => h) (Or.inl ⟨by rfl, ?_⟩) ⟨hO, hX⟩ ?_
  rotate_left
  · rintro w' ⟨hS1, hS2⟩
    go_simp
    rfl
  simp only [Act.put, List.setIfInBounds_toArray, List.set_cons_zero, List.set_cons_succ]
  refine anyM_step 4 (by kernel_rfl) rfl ?_
  go_wp2_with fail
  refine (get_any _ _ _ _ hx0 hx1 hat0 hn0 han).mono ?_
  rintro e w1 ⟨rfl, hk1⟩
  have HK1 : Hid (Kp w w1) := Kp.self.drew.trans hk1
  clear hk1
  go_wp2_with fail
  refine ⟨fun _ => ⟨Kp.cell HK1.out hO, Kp.cell HK1.out hX⟩, ?_⟩
  refine anyM_step 5 (by kernel_rfl) rfl ?_
  go_wp2_with fail
  have HK2 : Hid (Kp w (w1.alloc (.cells #[.int .u64 (x / 2 ^ at_.toNat % 2 ^ n.toNat)] 28))) := Kp.alloc HK1.out _
  refine ⟨fun _ => ⟨Kp.cell HK2.out hO, Kp.cell HK2.out hX⟩, ?_⟩
  refine anyM_step 6 (by kernel_rfl) rfl ?_
  refine app_num (w0 := w) base rfl (.tmp 8) (.tmp 13) 27 28 .u64 8 rfl Try.underlying27 info28 (by decide) (.slice A xs.length c) xs _ rfl rfl (own_kp HOWN.out HK1.out) (HK1.out.mono hbw) (Nat.le_trans hbw HK1.out.size) (by omega) ?_
  intro v1 w2 hown2 hb2 _ _
  obtain ⟨A1, c1, rfl⟩ := own_slice hown2
  have hO2 : w2.cell? ⟨bo, 0, none⟩ = some (.slice A xs.length c) := (hb2.cell hbo).trans hO
  have hX2 : w2.cell? ⟨bx, 0, none⟩ = some (.int .u64 x) := (hb2.cell hbx).trans hX
  have hOf2 : w2.frozen? ⟨bo, 0, none⟩ = false := (hb2.frozen hbo).trans hOf
  have HOWN2 := Lib.hid hown2
  have HB2 := Lib.hid hb2
  clear hown2 hb2 hX
  go_wp2_with fail
  refine ⟨fun _ => ⟨hO2, hX2⟩, ?_⟩
  refine anyM_step 7 (by kernel_rfl) rfl ?_
  go_wp2_with fail
  refine ⟨fun h => absurd h (by decide), ?_⟩
  refine ⟨by kernel_rfl, ?_⟩
  go_wp2
  go_end0
  refine ⟨rfl, _, ?_, cell_set_same hO2, frozen_set_same.trans hOf2, by have h := ownsRow_setCell_below HOWN2.out (a := ⟨bo, 0, none⟩) hbo (.slice A1 (xs.length + 1) c1); simpa [OwnI] using h⟩
  refine Upd.set (S := fun b => b = bo ∨ base ≤ b) ?_ _ (fun _ => .inl rfl) _
  exact ⟨HB2.out.os, HB2.out.tape, HB2.out.output, HB2.out.size, fun k _ hk => HB2.out.block k (by omega)⟩

def splitTo (ns : List Int) (x : Int) (j : Nat) : List Int := (List.range j).map fun i => x / 2 ^ (sumTo ns i).toNat % 2 ^ (ns[i]?.getD 0).toNat
theorem splitTo_succ (ns : List Int) (x : Int) (j : Nat) : splitTo ns x (j + 1) = splitTo ns x j ++ [x / 2 ^ (sumTo ns j).toNat % 2 ^ (ns[j]?.getD 0).toNat] := by
  unfold splitTo
  rw [List.range_succ]
  simp
theorem splitTo_len (ns : List Int) (x : Int) (j : Nat) : (splitTo ns x j).length = j := by simp [splitTo]
theorem call154 (args : Array Value) (w : World) : (callFunc 154 args).run Try.prog w = .ok (.enter 154 args) w := by kernel_rfl

/-- What pack.Split comes to, whether the word has more than its fields or not. -/
def SplitPost (ns : List Int) (x : Int) (n : Nat) (w : World) (e : Ending) (w' : World) : Prop :=
  (x / 2 ^ (sumTo ns n).toNat = 0 → ∃ v, e = .returned (.tuple #[v, .bool true]) ∧ OwnI w' w.heap.size 28 .u64 v (splitTo ns x n)) ∧
  (x / 2 ^ (sumTo ns n).toNat ≠ 0 → e = .returned (.tuple #[.slice none 0 0, .bool false])) ∧ Kp w w'

set_option maxHeartbeats 1000000 in
set_option maxRecDepth 100000 in
theorem psplit_any (A : Option Addr) (n c : Nat) (ns : List Int) (x : Int) (w : World)
    (hn : n ≤ 10) (hr : RdI w .i64 A n ns)
    (hf : ∀ j, j < n → 0 ≤ sumTo ns j ∧ 1 ≤ ns[j]?.getD 0 ∧ sumTo ns j + ns[j]?.getD 0 ≤ 64) (hs0 : 0 ≤ sumTo ns n) (hs : sumTo ns n < 64) (hx0 : 0 ≤ x) (hx1 : x < 18446744073709551616) :
    Calls Try.prog 102 #[.slice A n c, .int .u64 x] w (SplitPost ns x n w) := by
  have HR := Lib.hid hr
  have HF := Lib.hid hf
  clear hr hf
  go_enter Try.func102, Try.ntmps102
  go_wp2_with fail
  generalize hW : (w.alloc (.cells #[.int .u64 x] 28)).alloc (.cells #[.slice none 0 0] 27) = W0
  have hk0 : Kp w W0 := by rw [← hW]; exact (Kp.self.alloc _).alloc _
  have hsz : W0.heap.size = w.heap.size + 2 := by rw [← hW]; simp
  have c0 : W0.cell? ⟨w.heap.size, 0, none⟩ = some (.int .u64 x) := by
    rw [← hW, World.cell?_alloc_past _ _ _ (by simp), World.cell?_alloc_at _ _ _ _ rfl]; rfl
  have c1 : W0.cell? ⟨w.heap.size + 1, 0, none⟩ = some (.slice none 0 0) := by
    rw [← hW, World.cell?_alloc_at _ _ _ _ (by simp)]; rfl
  have f1 : W0.frozen? ⟨w.heap.size + 1, 0, none⟩ = false := by
    rw [← hW, World.frozen?_alloc_at _ _ _ _ (by simp)]
  clear hW
  have up : ∀ w', Upd (fun b => b = w.heap.size + 1 ∨ w.heap.size + 2 ≤ b) W0 w' → Kp w w' := fun w' hU =>
    ((hk0.upd _).trans hU (fun i hi h => by rcases h with h | h <;> omega)).kpOf (S := fun k => w.heap.size ≤ k) (by omega)
  have H := walk_any A n c ns 154 #[.pointer (some ⟨w.heap.size + 1, 0, none⟩), .pointer (some ⟨w.heap.size, 0, none⟩)]
    (fun j w' => Upd (fun b => b = w.heap.size + 1 ∨ w.heap.size + 2 ≤ b) W0 w' ∧ ∃ v, w'.cell? ⟨w.heap.size + 1, 0, none⟩ = some v ∧ w'.frozen? ⟨w.heap.size + 1, 0, none⟩ = false ∧
      OwnI w' (w.heap.size + 2) 28 .u64 v (splitTo ns x j))
    W0 call154 hn HR.out.1 ?_ HF.out ⟨Upd.self, _, c1, f1, World.ownsRow_nil _ _ _ _⟩ ?_
  rotate_left
  · rintro j w' ⟨hU, _⟩
    exact HR.out.kp (up w' hU)
  · rintro j w' hj ⟨hU, v, d1, e1, o1⟩
    obtain ⟨q0, q1, q2⟩ := HF.out j hj
    have m4 : ¬ (w.heap.size = w.heap.size + 1 ∨ w.heap.size + 2 ≤ w.heap.size) := by omega
    have hsw := hU.size
    refine (split1_any (w.heap.size + 1) w.heap.size (w.heap.size + 2) j _ _ x v _ w' d1 (hU.cell m4 c0) e1 o1 (by omega) (by omega) (by omega) (by rw [splitTo_len]; omega) q0 q1 (by omega) hx0 hx1).mono ?_
    rintro e w'' ⟨rfl, v1, hU2, y1, y2, y3⟩
    refine ⟨rfl, hU.trans hU2 (fun i _ h => h), v1, y1, y2, ?_⟩
    rw [splitTo_succ]; exact y3
  refine H.mono ?_
  rintro e w3 ⟨rfl, hU, v, d1, e1, o1⟩
  have hkw := up w3 hU
  have m4 : ¬ (w.heap.size = w.heap.size + 1 ∨ w.heap.size + 2 ≤ w.heap.size) := by omega
  have cx := hU.cell m4 c0
  obtain ⟨A1, c2, rfl⟩ := own_slice o1
  have HO := Lib.hid (own_lower o1 (show w.heap.size ≤ w.heap.size + 2 by omega))
  have HK := Lib.hid hkw
  clear hU c0 c1 f1 hsz hk0 H up o1 hkw m4
  obtain ⟨s, hse⟩ := Int.eq_ofNat_of_zero_le hs0
  have HSE := Lib.hid hse
  rw [hse]
  rw [hse] at hs
  clear hse hs0
  by_cases hz : x / 2 ^ s = 0
  · have hb : (x / 2 ^ s != 0) = false := by simp [hz]
    have HZ := Lib.hid hz
    clear hz
    go_wp2
    go_ret2
    have hq : (sumTo ns n).toNat = s := by rw [HSE.out]; rfl
    exact ⟨fun _ => ⟨_, rfl, HO.out⟩, fun h => absurd (hq ▸ HZ.out) h, HK.out⟩
  · have hb : (x / 2 ^ s != 0) = true := by simp [hz]
    have HZ := Lib.hid hz
    clear hz
    go_wp2
    go_ret2
    have hq : (sumTo ns n).toNat = s := by rw [HSE.out]; rfl
    exact ⟨fun h => absurd (hq ▸ h) HZ.out, fun _ => rfl, HK.out⟩
end Go.Proofs.Ytpmbjlmplfejgaa
