/- image.lanes: the iterator over the lanes' logs. -/
import Derived.Test.YtpmbjlmplfejgaaImaL
import Derived.Test.YtpmbjlmplfejgaaEntD
namespace Go.Proofs.Ytpmbjlmplfejgaa
open Go.RowKit Go.Shelf
set_option linter.unusedVariables false
set_option linter.unusedSimpArgs false
attribute [local go_sem] Oper.semAt_some

/-- lane, the slice, its entries -/
abbrev Ln := Nat × Value × List Ent
def GoodL (xs : List Int) (n₀ : Nat) (pre : List Ln) (x : Ln) (W : World) : Prop := x.1 = pre.length ∧ laneLog xs pre.length = x.2.2 ∧ OwnE W n₀ x.2.1 x.2.2 ∧ InE x.2.2

set_option maxRecDepth 100000 in
set_option maxHeartbeats 2000000 in
theorem lanes1_in (nn : Nat) (hnn : 1 ≤ nn) (ly bw bg n₀ : Nat) (R : World → World → Prop) (s r : Int) (L : Nat) (A : Option Addr) (n c : Nat) (xs : List Int) (J Jx : List Ln → World → Prop)
    (hg : gMay s L r = true) (hn : (n : Int) = total s L) (hx : InR 18446744073709551616 xs) (hc : n ≤ c) (hcm : c ≤ maxLen)
    (hRr : ∀ A, R A A) (hRt : ∀ A B C, R A B → R B C → R A C) (hRk : ∀ A B, Kp A B → R A B)
    (hJ : ∀ p A B, J p A → Kp A B → J p B)
    (hY : ∀ pre x W, J pre W → GoodL xs n₀ pre x W → pre.length < L → YieldAt Fence.wide (nn - 1) Try.prog ly #[.int .i64 x.1, x.2.1] W fun e W' =>
      (e = .returned (.bool true) ∧ J (pre ++ [x]) W' ∧ R W W') ∨ (e = .returned (.bool false) ∧ Jx (pre ++ [x]) W'))
    (W : World)
    (hH : ∀ W', R W W' → W'.cell? ⟨bw, 0, none⟩ = some (.slice A n c) ∧ RdI W' .u64 A n xs ∧ GBox W' bg s L r ∧ n₀ ≤ W'.heap.size)
    (h0 : J [] W) :
    CallsIn Fence.wide nn Try.prog 165 #[.func (.yield ly) #[] #[], .pointer (some ⟨bg, 0, none⟩), .pointer (some ⟨bw, 0, none⟩)] W fun e W' => (∃ v, e = .returned v) ∧
      ((∃ ys : List Ln, ys.length = L ∧ J ys W') ∨ (∃ pre : List Ln, pre.length ≤ L ∧ Jx pre W')) := by
  have hm := may_bd hg
  have hcc : c ≤ 9223372036854775807 := by have := hcm; simp only [maxLen] at this; omega
  have hL4 : L ≤ 4 := by omega
  have HG := Lib.hid hg
  have HN := Lib.hid hn
  have HH := Lib.hid hH
  have HJ := Lib.hid hJ
  have HY := Lib.hid hY
  have HX := Lib.hid hx
  have HRT := Lib.hid hRt
  have HRK := Lib.hid hRk
  have HC := Lib.hid hcm
  have HLN : Hid (∀ t : Nat, t < L → laneAt t + 40 ≤ n) := fun t ht => by unfold laneAt; unfold total at hn; omega
  obtain ⟨g0, g1, g2⟩ := (hH W (hRr _)).2.2.1
  have HR0 := Lib.hid (hRr W)
  clear hH hJ hY hRt hRk hRr hg hn hx hm hcm
  refine callsIn_of_wp Try.func165 rfl trivial ?_ rfl
  simp only [Try.ntmps165, List.size_toArray, List.length_cons, List.length_nil, Nat.reduceAdd, Nat.reduceSub, Array.replicate_succ, Array.replicate_zero, List.push_toArray, List.append_toArray, List.nil_append, List.cons_append]
  gi_wp2
  clear g0 g1 g2
  gi_loopw [10] (fun i wr => ∃ k : Nat, k ≤ L ∧ i = .int .i64 k ∧ Hid (∃ pre : List Ln, pre.length = k ∧ J pre wr) ∧ Hid (R W wr)) (fun i _ => L - (intOf i).toNat)
  case atStart => exact ⟨0, Nat.zero_le _, rfl, ⟨[], rfl, h0⟩, HR0⟩
  case round =>
    obtain ⟨k, hk, rfl, HJK, HB⟩ := hrel
    by_cases hlt : k < L
    · obtain ⟨q0, hR, ⟨g0, g1, g2⟩, hn0⟩ := HH.out _ HB.out
      have b1 : (0 : Int) ≤ k := by omega
      have b2 : (k : Int) < L := by omega
      have hp := HLN.out k hlt
      have hlv : laneV s L r k = laneAt k := by unfold laneV laneAt; rw [if_pos ⟨HG.out, by omega, b2⟩]; omega
      have HEV := fun W => Lib.hid (entry_any s L r k W)
      have HLV := fun W => Lib.hid (laneV_any s L r k W)
      have hev : entryV s L r k = laneAt k + 8 := by unfold entryV; rw [hlv, if_neg (by omega)]
      rw [hev] at HEV
      rw [hlv] at HLV
      obtain ⟨ad, rfl, hc0⟩ := hR.at_ (laneAt k) (by omega)
      have hb := HX.out.getD (by decide) (laneAt k)
      have HS := fun W h => Lib.hid (eread_any (xs[laneAt k]?.getD 0) (some (ad.add (laneAt k + 8))) 32 (c - (laneAt k + 8)) ((xs.drop (laneAt k + 8)).take 32) W hb.1 hb.2 h ((HX.out.drop _).take _) (by omega) (by have := HC.out; omega))
      have HSUB : Hid (RdI wr .u64 (some (ad.add (laneAt k + 8))) 32 ((xs.drop (laneAt k + 8)).take 32)) := hR.sub _ _ (by omega)
      have HLG : Hid (laneLog xs k = lgOf (xs[laneAt k]?.getD 0) ((xs.drop (laneAt k + 8)).take 32)) := rfl
      generalize xs[laneAt k]?.getD 0 = x0 at *
      generalize (xs.drop (laneAt k + 8)).take 32 = ws at *
      generalize laneAt k = p at *
      have eA : ad.add (p + 8) = ⟨ad.block, ad.off + (p + 7 + 1), none⟩ := by rw [show p + 8 = p + 7 + 1 by omega, Addr.add_succ']
      rw [eA] at HS HSUB
      have HN0 := Lib.hid hn0
      clear hR hlv hev hb hn0
      gi_wp2_with fail
      refine ⟨trivial, (callsIn_wide.2 (HEV _).out).mono ?_⟩
      rintro e w2 ⟨rfl, hk2⟩
      have g0 := hk2.cell g0
      have g1 := hk2.cell g1
      have g2 := hk2.cell g2
      have q0 := hk2.cell q0
      have c0 := hk2.cell hc0
      have HK2 := Lib.hid hk2
      clear hk2 hc0 HEV
      have b3 : (p : Int) < n := by omega
      have b0 : (0 : Int) ≤ p := by omega
      have e1 := IntWalk.i64_in ((p : Int) + 8 + 32) ⟨by omega, by omega⟩
      have b4 : (0 : Int) ≤ (p : Int) + 8 := by omega
      have b5 : (p : Int) + 8 ≤ (p : Int) + 8 + 32 := by omega
      have b6 : (p : Int) + 8 + 32 ≤ c := by omega
      have b7 : ((p : Int) + 8).toNat = p + 8 := by omega
      have b8 : ((p : Int) + 8 + 32).toNat = p + 40 := by omega
      have b9 : ¬ p + 8 = c := by omega
      have b10 : p + 40 - (p + 8) = 32 := by omega
      gi_wp2_with fail
      refine wpIn_wide.2 ?_
      refine wp_region_Md [] (fun w' => Kp w2 w') (by kernel_rfl) ?_
      refine anyM_takes (fuel := 9) [0, 1, 2, 6, 7, 8, 9, 10] (by kernel_rfl) (by kernel_rfl) (by kernel_rfl) (fun d _ _ _ _ h => by cases d <;> exact h) Kp.self.drew ?_
      iterate 8
        refine takes_pos (v := ?_) rfl (by rfl) ?_ ?_
        rotate_left
        · intro w' hS
          have s0 := Kp.cell hS g0
          have s1 := Kp.cell hS g1
          have s2 := Kp.cell hS g2
          have s3 := Kp.cell hS q0
          go_simp
          rfl
        simp only [List.getElem_toArray, List.getElem_cons_succ, List.getElem_cons_zero, Act.put, List.setIfInBounds_toArray, List.set_cons_zero, List.set_cons_succ]
      refine takes_nil ?_
      refine anyM_step 3 (by kernel_rfl) rfl ?_
      go_wp2_with fail
      refine (HLV _).out.mono ?_
      rintro e w3 ⟨rfl, hk3⟩
      have hk3 : Kp w2 w3 := Kp.self.drew.trans hk3
      go_wp2_with fail
      refine ⟨fun _ => hk3, ?_⟩
      refine anyM_takes (fuel := 6) [4, 5] (by kernel_rfl) (by kernel_rfl) (by kernel_rfl) (fun d _ _ _ _ h => by cases d <;> exact h) hk3 ?_
      iterate 2
        refine takes_pos (v := ?_) rfl (by rfl) ?_ ?_
        rotate_left
        · intro w' hS
          have s0 := Kp.cell hS c0
          go_simp
          rfl
        simp only [List.getElem_toArray, List.getElem_cons_succ, List.getElem_cons_zero, Act.put, List.setIfInBounds_toArray, List.set_cons_zero, List.set_cons_succ]
      refine takes_nil ?_
      refine anyM_step 11 (by kernel_rfl) rfl ?_
      go_wp2_with fail
      refine (HS _ (HSUB.out.kp (HK2.out.trans hk3))).out.mono ?_
      rintro e w5 ⟨es, ok, v, rfl, hrd, hown, hin, hk5⟩
      have hk25 : Kp w2 w5 := hk3.trans hk5
      have HK5 : Hid (Kp wr w5) := HK2.out.trans hk25
      have HL : Hid (laneLog xs k = es) := HLG.out.trans (lgOf_eq hrd)
      have HO : Hid (OwnE w5 n₀ v es) := own_lower hown (Nat.le_trans HN0.out (HK2.out.trans hk3).size)
      have HIN := Lib.hid hin
      clear hk5 hrd hown hin HS HSUB HK2
      generalize (if ok = true then 0 else 11 : Int) = er at *
      go_wp2_with fail
      refine ⟨fun _ => hk25, ?_⟩
      refine anyM_takes (fuel := 0) [12, 13, 14, 15, 16] (by kernel_rfl) (by kernel_rfl) (by kernel_rfl) (fun d _ _ _ _ h => by cases d <;> exact h) hk25 ?_
      iterate 5
        refine takes_pos (v := ?_) rfl (by rfl) ?_ ?_
        rotate_left
        · intro w' hS
          go_simp
          rfl
        simp only [List.getElem_toArray, List.getElem_cons_succ, List.getElem_cons_zero, Act.put, List.setIfInBounds_toArray, List.set_cons_zero, List.set_cons_succ]
      refine takes_nil ?_
      refine ⟨by kernel_rfl, ?_⟩
      clear g0 g1 g2 q0 c0 hk3 hk25 HLV
      obtain ⟨pre, hpl, hj⟩ := HJK.out
      have HJ5 : Hid (J pre w5) := HJ.out _ _ _ hj HK5.out
      have HB5 : Hid (R W w5) := HRT.out _ _ _ HB.out (HRK.out _ _ HK5.out)
      have HPL := Lib.hid hpl
      obtain ⟨fn, tmps, assign, body, hy, hR⟩ := HY.out pre (k, v, es) w5 HJ5.out ⟨HPL.out.symm, by rw [HPL.out]; exact HL.out, HO.out, HIN.out⟩ (by rw [HPL.out]; exact hlt)
      dsimp only at hy
      clear hj hpl
      gi_wp2
      refine hR.mono ?_
      rintro e W3 (⟨rfl, hJ3, hk3⟩ | ⟨rfl, hJx3⟩)
      · gi_wp2
        go_roundw
        case rel => exact ⟨k + 1, by omega, by go_num, ⟨_, by rw [List.length_append, HPL.out]; rfl, hJ3⟩, HRT.out _ _ _ HB5.out hk3⟩
        case measure => simp [intOf]; omega
      · gi_wp2
        refine bodyPost_ret (results_none rfl _ _ _) rfl ?_
        exact ⟨⟨_, rfl⟩, .inr ⟨_, by rw [List.length_append, HPL.out]; simp; omega, hJx3⟩⟩
    · obtain rfl : k = L := by omega
      gi_wp2
      go_end0
      obtain ⟨pre, hpl, hj⟩ := HJK.out
      exact ⟨⟨_, rfl⟩, .inl ⟨pre, hpl, hj⟩⟩
/-- What a round of a loop over lanes keeps: what lay below n₀; boxes of geometries and of words. -/
def KL (n₀ : Nat) (A B : World) : Prop := n₀ ≤ A.heap.size → Below n₀ A B ∧ ∀ (b : Nat) (cs : Array Value) (t : TypeId), (t = 38 ∨ t = 27) → A.heap[b]? = some (.cells cs t (0, 0)) → B.heap[b]? = some (.cells cs t (0, 0))
theorem KL.refl (n₀ : Nat) (A : World) : KL n₀ A A := fun _ => ⟨Below.refl _ _, fun _ _ _ _ h => h⟩
theorem KL.trans {n₀ : Nat} {A B C : World} (h : KL n₀ A B) (k : KL n₀ B C) : KL n₀ A C := fun hn => by
  obtain ⟨h1, h2⟩ := h hn
  obtain ⟨k1, k2⟩ := k (Nat.le_trans hn h1.size)
  exact ⟨h1.trans k1, fun b cs t ht hb => k2 b cs t ht (h2 b cs t ht hb)⟩
theorem KL.kp {n₀ : Nat} {A B : World} (h : Kp A B) : KL n₀ A B := fun hn =>
  ⟨h.mono hn, fun b cs t _ hb => (h.block b (Array.getElem?_eq_some_iff.1 hb).1).trans hb⟩
theorem KL.putObj {n₀ : Nat} {w : World} (hn : n₀ ≤ w.heap.size) (W : World) (l : Nat) (o o' : Obj) (hl : w.heap.size ≤ l) (h : W.heap[l]? = some o) (hc : o.isCells = false) (hw : o.isWalk = false) : KL n₀ W (W.putObj l o') := fun _ =>
  ⟨belowK_b hn W l o o' hl h hc hw, fun b cs t _ hb => by
    have hne : b ≠ l := fun e => by
      subst e
      rw [h] at hb
      cases hb
      cases hc
    exact ((grownBy_putObj' W l o').block b (Array.getElem?_eq_some_iff.1 hb).1 (fun e => hne (by cases e; rfl))).trans hb⟩
theorem cellAt {W : World} {b i : Nat} {cs : Array Value} {t : TypeId} {v : Value} (h : W.heap[b]? = some (.cells cs t (0, 0))) (hv : cs[i]? = some v) : W.cell? ⟨b, i, none⟩ = some v := by
  unfold World.cell?
  simp [h, hv]
theorem lanesI_any (s l r : Int) (A : Option Addr) (n c : Nat) (w : World) :
    Calls Try.prog 123 #[geo s l r, .slice A n c] w fun e w' => e = .returned (.func (.func 165) #[] #[.pointer (some ⟨w.heap.size, 0, none⟩), .pointer (some ⟨w.heap.size + 1, 0, none⟩)]) ∧
      w' = (w.alloc (.cells #[.int .i64 s, .int .i64 l, .int .i64 r] 38)).alloc (.cells #[.slice A n c] 27) := by
  go_enter Try.func123, Try.ntmps123
  go_wp2
  go_ret
  exact ⟨rfl, rfl⟩
theorem lanes_stops (nn : Nat) (hnn : 1 ≤ nn) (s r : Int) (L : Nat) (A : Option Addr) (n c : Nat) (xs : List Int) (w W : World) (hr : RdI w .u64 A n xs) (hg : gMay s L r = true) (hn : (n : Int) = total s L) (hx : InR 18446744073709551616 xs) (hc : n ≤ c) (hcm : c ≤ maxLen) (hwW : Kp w W) (bw bg : Nat)
    (h1 : W.heap[bw]? = some (.cells #[.slice A n c] 27 (0, 0))) (h2 : W.heap[bg]? = some (.cells #[.int .i64 s, .int .i64 L, .int .i64 r] 38 (0, 0))) :
    Hands Fence.wide nn Try.prog 165 #[.pointer (some ⟨bg, 0, none⟩), .pointer (some ⟨bw, 0, none⟩)] (fun x : Ln => #[Value.int .i64 x.1, x.2.1]) (KL w.heap.size) (GoodL xs w.heap.size) (fun ys => ys.length = L) (fun pre => pre.length ≤ L) L W := by
  intro ly J Jx W1 hW1 hJ hJx hY h0
  refine lanes1_in nn hnn ly bw bg w.heap.size (KL w.heap.size) s r L A n c xs J Jx hg hn hx hc hcm (KL.refl _) (fun _ _ _ => KL.trans) (fun _ _ => KL.kp) (fun p X Y hp hk => hJ p X Y none hp (hk.to none) (fun r e => by cases e)) hY W1 ?_ h0
  intro W' hK
  have hsz : w.heap.size ≤ W1.heap.size := Nat.le_trans hwW.size hW1.size
  obtain ⟨k1, k2⟩ := hK hsz
  have b1 : W1.heap[bw]? = some (.cells #[.slice A n c] 27 (0, 0)) := (hW1.block bw (Array.getElem?_eq_some_iff.1 h1).1).trans h1
  have b2 : W1.heap[bg]? = some (.cells #[.int .i64 s, .int .i64 L, .int .i64 r] 38 (0, 0)) := (hW1.block bg (Array.getElem?_eq_some_iff.1 h2).1).trans h2
  have c1 := k2 bw _ _ (.inr rfl) b1
  have c2 := k2 bg _ _ (.inl rfl) b2
  have hkp : Kp w W' := Below.trans (Kp.trans hwW hW1) k1
  exact ⟨cellAt c1 rfl, hr.kp hkp, ⟨cellAt c2 rfl, cellAt c2 rfl, cellAt c2 rfl⟩, hkp.size⟩
end Go.Proofs.Ytpmbjlmplfejgaa
