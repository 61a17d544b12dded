/- Fields of words: pack.walk over any closure, pack.Join, pack.Split. -/
import Derived.Test.YtpmbjlmplfejgaaGeoA
namespace Go.Proofs.Ytpmbjlmplfejgaa
open Go.RowKit
set_option linter.unusedVariables false

def sumTo (ns : List Int) (j : Nat) : Int := (ns.take j).sum
theorem sumTo_succ (ns : List Int) (j : Nat) (h : j < ns.length) : sumTo ns (j + 1) = sumTo ns j + ns[j]?.getD 0 := by
  unfold sumTo
  rw [List.take_succ_eq_append_getElem h, List.getElem?_eq_getElem h, List.sum_append]
  simp

set_option maxHeartbeats 400000 in
set_option maxRecDepth 100000 in
theorem walk_any (A : Option Addr) (n c : Nat) (ns : List Int) (fid : FuncId) (caps : Array Value) (I : Nat → World → Prop) (w : World)
    (hcall : ∀ (args : Array Value) (w : World), (callFunc fid args).run Try.prog w = .ok (.enter fid args) w)
    (hn : n ≤ 10) (hl : ns.length = n) (hr : ∀ j w', I j w' → RdI w' .i64 A n ns) (hf : ∀ j, j < n → 0 ≤ sumTo ns j ∧ 1 ≤ ns[j]?.getD 0 ∧ sumTo ns j + ns[j]?.getD 0 ≤ 64) (h0 : I 0 w)
    (hI : ∀ j w', j < n → I j w' → Calls Try.prog fid (#[.int .i64 j, .int .i64 (sumTo ns j), .int .i64 (ns[j]?.getD 0)] ++ caps) w' fun e w'' => e = .returned (.tuple #[]) ∧ I (j + 1) w'') :
    Calls Try.prog 148 #[.slice A n c, .func (.func fid) #[] caps] w fun e w' => e = .returned (.tuple #[.int .i64 (sumTo ns n), .bool true]) ∧ I n w' := by
  have HR := Lib.hid hr
  have HF := Lib.hid hf
  have H0 := Lib.hid h0
  have HI := Lib.hid hI
  have HL := Lib.hid hl
  clear hr hf h0 hI hl
  go_enter Try.func148, Try.ntmps148
  go_wp2
  go_loopw [6, 7, 8, 11] (fun a _ _ i wr => ∃ k : Nat, k ≤ n ∧ i = .int .i64 k ∧ a = .int .i64 (sumTo ns k) ∧ Hid (I k wr)) (fun _ _ _ i _ => n - (intOf i).toNat)
  case atStart => exact ⟨0, by omega, rfl, rfl, H0⟩
  case round =>
    obtain ⟨k, hk, rfl, rfl, HK⟩ := hrel
    by_cases hlt : k < n
    · obtain ⟨ad, rfl, hc⟩ := (HR.out k _ HK.out).at_ k hlt
      obtain ⟨f0, f1, f2⟩ := HF.out k hlt
      have hfl : fldB (sumTo ns k) (ns[k]?.getD 0) = true := by simp [fldB]; omega
      go_wp2_with (go_at_call 155; refine (field_any _ _ _ (by omega) (by omega)).mono ?_; rintro e w' ⟨rfl, rfl⟩)
      refine (HI.out k wr hlt HK.out).mono ?_
      rintro e w1 ⟨rfl, hI1⟩
      have HK1 := Lib.hid hI1
      clear hI1
      have hs := sumTo_succ ns k (by rw [HL.out]; exact hlt)
      have HS := Lib.hid hs
      clear hs
      go_wp2
      go_roundw
      case rel => exact ⟨k + 1, by omega, by go_num, by rw [HS.out], HK1⟩
      case measure => simp [intOf]; omega
    · obtain rfl : k = n := by omega
      go_wp2
      go_ret2
      exact ⟨rfl, HK.out⟩
theorem call149 (args : Array Value) (w : World) : (callFunc 149 args).run Try.prog w = .ok (.enter 149 args) w := by kernel_rfl

set_option maxHeartbeats 400000 in
set_option maxRecDepth 100000 in
theorem join1_any (bf bv bx : Nat) (va : Addr) (vn vc j : Nat) (at_ n x v : Int) (w : World)
    (hF : w.cell? ⟨bf, 0, none⟩ = some (.bool true)) (hV : w.cell? ⟨bv, 0, none⟩ = some (.slice (some va) vn vc)) (hX : w.cell? ⟨bx, 0, none⟩ = some (.int .u64 x)) (hv : w.cell? (va.add j) = some (.int .u64 v))
    (hFf : w.frozen? ⟨bf, 0, none⟩ = false) (hXf : w.frozen? ⟨bx, 0, none⟩ = false) (hj : j < vn) (hvn : vn ≤ 1000) (n1 : bx ≠ bf) (n2 : bv ≠ bf) (n3 : (va.add j).block ≠ bf)
    (hat0 : 0 ≤ at_) (hn0 : 1 ≤ n) (han : at_ ≤ 64 - n) (hx0 : 0 ≤ x) (hx1 : x < 2 ^ at_.toNat) (hv0 : 0 ≤ v) (hvm : v ≤ 2 ^ n.toNat - 1) (hv1 : v < 18446744073709551616) :
    Calls Try.prog 149 #[.int .i64 j, .int .i64 at_, .int .i64 n, .pointer (some ⟨bf, 0, none⟩), .pointer (some ⟨bv, 0, none⟩), .pointer (some ⟨bx, 0, none⟩)] w fun e w' =>
      e = .returned (.tuple #[]) ∧ Upd (fun b => b = bf ∨ b = bx) w w' ∧ w'.cell? ⟨bf, 0, none⟩ = some (.bool true) ∧ w'.frozen? ⟨bf, 0, none⟩ = false ∧
        w'.cell? ⟨bx, 0, none⟩ = some (.int .u64 (x + v * 2 ^ at_.toNat)) ∧ w'.frozen? ⟨bx, 0, none⟩ = false := by
  have hd : decide (v ≤ 2 ^ n.toNat - 1) = true := decide_eq_true hvm
  have LF := fun W : KW w => W.cell hF
  have LV := fun W : KW w => W.cell hV
  have Lv := fun W : KW w => W.cell hv
  have HX := Lib.hid hx1
  have hj' : (j : Int) < vn := by omega
  clear hx1 hvm
  go_enter Try.func149, Try.ntmps149
  go_wp2
  refine wp_region_kw_tail 10 w Kp.self (by kernel_rfl) (by kernel_rfl) ?_
  simp only [List.take_succ_cons, List.take_zero, List.drop_succ_cons, List.drop_zero]
  repeat (any_goals (first | go_big_quiet_step ((go_at_call 150; exact kw_same (mask_any _ _ (by omega) (by omega)))) | quiet_step ((go_at_call 150; exact kw_same (mask_any _ _ (by omega) (by omega))))))
  refine wpQuiet_nil ?_
  rintro w1 ⟨W, e⟩
  have hk1 : Kp w w1 := e ▸ W.2
  clear e W LF LV Lv
  have hF1 := hk1.cell hF
  have hFf1 := hk1.frozen_ hF hFf
  go_wp2
  have hU1 : Upd (fun b => b = bf ∨ b = bx) w (w1.setCell ⟨bf, 0, none⟩ (.bool true)) := (hk1.upd _).set _ (fun _ => .inl rfl) _
  have hF2 := cell_set_same (u := .bool true) hF1
  have hFf2 : (w1.setCell ⟨bf, 0, none⟩ (.bool true)).frozen? ⟨bf, 0, none⟩ = false := frozen_set_same.trans hFf1
  generalize hw3 : w1.setCell ⟨bf, 0, none⟩ (.bool true) = w3
  rw [hw3] at hU1 hF2 hFf2
  have hX3 : w3.cell? ⟨bx, 0, none⟩ = some (.int .u64 x) := by rw [← hw3, cell_set_ne _ _ _ _ n1]; exact hk1.cell hX
  have hXf3 : w3.frozen? ⟨bx, 0, none⟩ = false := by rw [← hw3, frozen_set_ne _ _ _ _ n1]; exact hk1.frozen_ hX hXf
  have hV3 : w3.cell? ⟨bv, 0, none⟩ = some (.slice (some va) vn vc) := by rw [← hw3, cell_set_ne _ _ _ _ n2]; exact hk1.cell hV
  have hv3 : w3.cell? (va.add j) = some (.int .u64 v) := by rw [← hw3, cell_set_ne _ _ _ _ n3]; exact hk1.cell hv
  have HW3 := Lib.hid hw3
  have HK1 := Lib.hid hk1
  have HU := Lib.hid hU1
  have HF2 := Lib.hid hF2
  have HFf2 := Lib.hid hFf2
  clear hw3 hk1 hF1 hFf1 hF hV hX hv hFf hXf hU1 hF2 hFf2
  have LX := fun W : KW w3 => W.cell hX3
  have LV := fun W : KW w3 => W.cell hV3
  have Lv := fun W : KW w3 => W.cell hv3
  refine wp_region_kw_tail 8 w3 Kp.self (by kernel_rfl) (by kernel_rfl) ?_
  simp only [List.take_succ_cons, List.take_zero, List.drop_succ_cons, List.drop_zero]
  repeat (any_goals (first | go_big_quiet_step ((go_at_call 151; exact kw_call (put_any _ _ _ _ _ (by omega) (by omega) (by omega) (by omega) HX.out (by omega) (by omega)))) | quiet_step ((go_at_call 151; exact kw_call (put_any _ _ _ _ _ (by omega) (by omega) (by omega) (by omega) HX.out (by omega) (by omega))))))
  refine wpQuiet_nil ?_
  rintro w4 ⟨W, e⟩
  have hk4 : Kp w3 w4 := e ▸ W.2
  clear e W LX LV Lv
  have hX4 := hk4.cell hX3
  have hXf4 := hk4.frozen_ hX3 hXf3
  go_wp2
  have hvv : v % 2 ^ n.toNat = v := Int.emod_eq_of_lt hv0 (by have := of_decide_eq_true hd; omega)
  have HV := Lib.hid hvv
  clear hvv
  go_end0
  rw [HV.out]
  have hb : bf ≠ bx := fun e => n1 e.symm
  refine ⟨rfl, (HU.out.kp hk4).set _ (fun _ => .inr rfl) _, ?_, ?_, cell_set_same hX4, frozen_set_same.trans hXf4⟩
  · rw [cell_set_ne _ _ _ _ hb]; exact hk4.cell HF2.out
  · exact frozen_set_same.trans (hk4.frozen_ HF2.out HFf2.out)

def joinTo (ns vs : List Int) : Nat → Int
  | 0 => 0
  | j + 1 => joinTo ns vs j + vs[j]?.getD 0 * 2 ^ (sumTo ns j).toNat
theorem joinTo_rng (ns vs : List Int) (n : Nat) (hl : ns.length = n) (hf : ∀ j, j < n → 0 ≤ sumTo ns j ∧ 1 ≤ ns[j]?.getD 0 ∧ sumTo ns j + ns[j]?.getD 0 ≤ 64)
    (hv : ∀ j, j < n → 0 ≤ vs[j]?.getD 0 ∧ vs[j]?.getD 0 ≤ 2 ^ (ns[j]?.getD 0).toNat - 1) : ∀ j, j ≤ n → 0 ≤ joinTo ns vs j ∧ joinTo ns vs j < 2 ^ (sumTo ns j).toNat := by
  intro j
  induction j with
  | zero => intro _; exact ⟨Int.le_refl _, by simp [joinTo, sumTo]⟩
  | succ j ih =>
    intro hj
    obtain ⟨h0, h1⟩ := ih (by omega)
    obtain ⟨f0, f1, f2⟩ := hf j (by omega)
    obtain ⟨v0, v1⟩ := hv j (by omega)
    have hp : (0 : Int) < 2 ^ (sumTo ns j).toNat := Int.pow_pos (by decide)
    rw [sumTo_succ ns j (by omega), joinTo]
    refine ⟨by have := Int.mul_nonneg v0 (Int.le_of_lt hp); omega, ?_⟩
    rw [Int.toNat_add f0 (by omega), Int.pow_add]
    have h2 : vs[j]?.getD 0 * 2 ^ (sumTo ns j).toNat ≤ (2 ^ (ns[j]?.getD 0).toNat - 1) * 2 ^ (sumTo ns j).toNat := Int.mul_le_mul_of_nonneg_right v1 (Int.le_of_lt hp)
    rw [Int.sub_mul, Int.one_mul, Int.mul_comm (2 ^ (ns[j]?.getD 0).toNat)] at h2
    omega

set_option maxHeartbeats 400000 in
set_option maxRecDepth 100000 in
theorem pjoin_any (A : Option Addr) (n c : Nat) (ns : List Int) (va : Addr) (vc : Nat) (vs : List Int) (w : World)
    (hn : n ≤ 10) (hr : RdI w .i64 A n ns) (hv : RdI w .u64 (some va) n vs)
    (hf : ∀ j, j < n → 0 ≤ sumTo ns j ∧ 1 ≤ ns[j]?.getD 0 ∧ sumTo ns j + ns[j]?.getD 0 ≤ 64)
    (hvs : ∀ j, j < n → 0 ≤ vs[j]?.getD 0 ∧ vs[j]?.getD 0 ≤ 2 ^ (ns[j]?.getD 0).toNat - 1) :
    Calls Try.prog 96 #[.slice A n c, .slice (some va) n vc] w fun e w' => e = .returned (.tuple #[.int .u64 (joinTo ns vs n), .bool true]) ∧ Kp w w' := by
  have HR := Lib.hid hr
  have HV := Lib.hid hv
  have HF := Lib.hid hf
  have HVS := Lib.hid hvs
  clear hr hv hf hvs
  have HB := Lib.hid (joinTo_rng ns vs n HR.out.1 HF.out HVS.out)
  go_enter Try.func96, Try.ntmps96
  go_wp2_with fail
  generalize hW : ((w.alloc (.cells #[.slice (some va) n vc] 27)).alloc (.cells #[.int .u64 0] 28)).alloc (.cells #[.bool true] 4) = W0
  have hk0 : Kp w W0 := by rw [← hW]; exact ((Kp.self.alloc _).alloc _).alloc _
  have hsz : W0.heap.size = w.heap.size + 3 := by rw [← hW]; simp
  have c0 : W0.cell? ⟨w.heap.size, 0, none⟩ = some (.slice (some va) n vc) := by
    rw [← hW, World.cell?_alloc_past _ _ _ (by simp; omega), World.cell?_alloc_past _ _ _ (by simp), World.cell?_alloc_at _ _ _ _ rfl]; rfl
  have c1 : W0.cell? ⟨w.heap.size + 1, 0, none⟩ = some (.int .u64 0) := by
    rw [← hW, World.cell?_alloc_past _ _ _ (by simp), World.cell?_alloc_at _ _ _ _ (by simp)]; rfl
  have c2 : W0.cell? ⟨w.heap.size + 1 + 1, 0, none⟩ = some (.bool true) := by
    rw [← hW, World.cell?_alloc_at _ _ _ _ (by simp)]; rfl
  have f1 : W0.frozen? ⟨w.heap.size + 1, 0, none⟩ = false := by
    rw [← hW, World.frozen?_alloc_past _ _ _ (by simp), World.frozen?_alloc_at _ _ _ _ (by simp)]
  have f2 : W0.frozen? ⟨w.heap.size + 1 + 1, 0, none⟩ = false := by
    rw [← hW, World.frozen?_alloc_at _ _ _ _ (by simp)]
  clear hW
  have H := walk_any A n c ns 149 #[.pointer (some ⟨w.heap.size + 1 + 1, 0, none⟩), .pointer (some ⟨w.heap.size, 0, none⟩), .pointer (some ⟨w.heap.size + 1, 0, none⟩)]
    (fun j w' => Upd (fun k => k = w.heap.size + 1 + 1 ∨ k = w.heap.size + 1) W0 w' ∧ w'.cell? ⟨w.heap.size + 1 + 1, 0, none⟩ = some (.bool true) ∧ w'.frozen? ⟨w.heap.size + 1 + 1, 0, none⟩ = false ∧
      w'.cell? ⟨w.heap.size + 1, 0, none⟩ = some (.int .u64 (joinTo ns vs j)) ∧ w'.frozen? ⟨w.heap.size + 1, 0, none⟩ = false)
    W0 call149 hn HR.out.1 ?_ HF.out ⟨Upd.self, c2, f2, c1, f1⟩ ?_
  rotate_left
  · rintro j w' ⟨hU, _⟩
    exact HR.out.kp ((hk0.upd _).trans hU (fun i hi h => by rcases h with h | h <;> omega) |>.kpOf (S := fun k => w.heap.size ≤ k) (by omega))
  · rintro j w' hj ⟨hU, d2, e2, d1, e1⟩
    have hkw : Kp w w' := ((hk0.upd _).trans hU (fun i hi h => by rcases h with h | h <;> omega)).kpOf (S := fun k => w.heap.size ≤ k) (by omega)
    obtain ⟨va', e', hvc⟩ := HV.out.at_ j hj
    injection e' with e'
    subst e'
    obtain ⟨q0, q1, q2⟩ := HF.out j hj
    obtain ⟨r0, r1⟩ := HB.out j (by omega)
    obtain ⟨s0, s1⟩ := HVS.out j hj
    have hlt := World.block_lt_of_cell? w _ hvc
    have m1 : w.heap.size + 1 ≠ w.heap.size + 1 + 1 := by omega
    have m2 : w.heap.size ≠ w.heap.size + 1 + 1 := by omega
    have m3 : (va.add j).block ≠ w.heap.size + 1 + 1 := by omega
    have m4 : ¬ ((w.heap.size = w.heap.size + 1 + 1) ∨ w.heap.size = w.heap.size + 1) := by omega
    refine (join1_any _ _ _ va n vc j _ _ _ _ w' d2 (hU.cell m4 c0) d1 (hkw.cell hvc) e2 e1 hj (by omega) m1 m2 m3 q0 q1 (by omega) r0 r1 s0 s1 ?_).mono ?_
    · have hp : (2 : Int) ^ (ns[j]?.getD 0).toNat ≤ 2 ^ 64 := by
        have := Nat.pow_le_pow_right (n := 2) (by decide) (show (ns[j]?.getD 0).toNat ≤ 64 by omega)
        exact_mod_cast this
      omega
    · rintro e w'' ⟨rfl, hU2, x1, x2, x3, x4⟩
      exact ⟨rfl, hU.trans hU2 (fun i _ h => h), x1, x2, x3, x4⟩
  refine H.mono ?_
  rintro e w3 ⟨rfl, hU, d2, e2, d1, e1⟩
  have hkw : Kp w w3 := ((hk0.upd _).trans hU (fun i hi h => by rcases h with h | h <;> omega)).kpOf (S := fun k => w.heap.size ≤ k) (by omega)
  clear hU c0 c1 c2 f1 f2 hsz hk0 H
  go_wp2
  go_ret2
  exact ⟨rfl, hkw⟩
end Go.Proofs.Ytpmbjlmplfejgaa
