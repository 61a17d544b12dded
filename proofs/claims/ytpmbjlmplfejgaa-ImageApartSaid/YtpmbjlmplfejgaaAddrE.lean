/- The reference's list of all blocks, and Find. -/
import Derived.Test.YtpmbjlmplfejgaaAddrD
namespace Go.Proofs.Ytpmbjlmplfejgaa
open Go.RowKit
set_option linter.unusedVariables false
set_option linter.unusedSimpArgs false

abbrev Blk := Int × Int × Int × Int
def blkAt (bs : List Blk) (j : Nat) : Blk := bs[j]?.getD (0, 0, 0, 0)
def blkC (bs : List Blk) : List Value := bs.flatMap fun b => [.int .i64 b.1, .int .i64 b.2.1, .int .i64 b.2.2.1, .int .i64 b.2.2.2]
theorem blkC_len (bs : List Blk) : (blkC bs).length = bs.length * 4 := by
  induction bs with
  | nil => rfl
  | cons e es ih => simp only [blkC, List.flatMap_cons, List.length_append, List.length_cons, List.length_nil] at *; omega
theorem blkC_app (a b : List Blk) : blkC (a ++ b) = blkC a ++ blkC b := by simp [blkC]
theorem blkC_get (bs : List Blk) : ∀ j, j < bs.length → (blkC bs)[j * 4]? = some (.int .i64 (blkAt bs j).1) ∧ (blkC bs)[j * 4 + 1]? = some (.int .i64 (blkAt bs j).2.1) ∧ (blkC bs)[j * 4 + 2]? = some (.int .i64 (blkAt bs j).2.2.1) ∧ (blkC bs)[j * 4 + 3]? = some (.int .i64 (blkAt bs j).2.2.2) := by
  induction bs with
  | nil => intro j hj; simp at hj
  | cons e es ih =>
    intro j hj
    cases j with
    | zero => simp [blkC, blkAt]
    | succ j =>
      have h := ih j (by simpa using hj)
      have e1 : blkC (e :: es) = [.int .i64 e.1, .int .i64 e.2.1, .int .i64 e.2.2.1, .int .i64 e.2.2.2] ++ blkC es := rfl
      have e2 : blkAt (e :: es) (j + 1) = blkAt es j := by simp [blkAt]
      rw [e1, e2, List.getElem?_append_right (by simp; omega), List.getElem?_append_right (by simp; omega), List.getElem?_append_right (by simp; omega), List.getElem?_append_right (by simp; omega)]
      have l4 : [Value.int .i64 e.1, .int .i64 e.2.1, .int .i64 e.2.2.1, .int .i64 e.2.2.2].length = 4 := rfl
      rw [l4, show (j + 1) * 4 - 4 = j * 4 by omega, show (j + 1) * 4 + 1 - 4 = j * 4 + 1 by omega, show (j + 1) * 4 + 2 - 4 = j * 4 + 2 by omega, show (j + 1) * 4 + 3 - 4 = j * 4 + 3 by omega]
      exact h
/-- A slice of blocks that is read. -/
def RdB (w : World) (A : Option Addr) (n : Nat) (bs : List Blk) : Prop :=
  bs.length = n ∧ n ≤ 9223372036854775807 ∧ (0 < n → ∃ g, A = some ⟨g, 0, none⟩ ∧ ∀ j, j < n → w.cell? ⟨g, j * 4, none⟩ = some (.int .i64 (blkAt bs j).1) ∧
    w.cell? ⟨g, j * 4 + 1, none⟩ = some (.int .i64 (blkAt bs j).2.1) ∧ w.cell? ⟨g, j * 4 + 2, none⟩ = some (.int .i64 (blkAt bs j).2.2.1) ∧ w.cell? ⟨g, j * 4 + 3, none⟩ = some (.int .i64 (blkAt bs j).2.2.2))
theorem RdB.kp {w w' : World} {A : Option Addr} {n : Nat} {bs : List Blk} (h : RdB w A n bs) (hk : Kp w w') : RdB w' A n bs :=
  ⟨h.1, h.2.1, fun hn => by obtain ⟨ad, e, hc⟩ := h.2.2 hn; exact ⟨ad, e, fun j hj => ⟨hk.cell (hc j hj).1, hk.cell (hc j hj).2.1, hk.cell (hc j hj).2.2.1, hk.cell (hc j hj).2.2.2⟩⟩⟩
theorem RdB.at_ {w : World} {A : Option Addr} {n : Nat} {bs : List Blk} (h : RdB w A n bs) (j : Nat) (hj : j < n) :
    ∃ g, A = some ⟨g, 0, none⟩ ∧ w.cell? ⟨g, j * 4, none⟩ = some (.int .i64 (blkAt bs j).1) ∧
    w.cell? ⟨g, j * 4 + 1, none⟩ = some (.int .i64 (blkAt bs j).2.1) ∧ w.cell? ⟨g, j * 4 + 2, none⟩ = some (.int .i64 (blkAt bs j).2.2.1) ∧ w.cell? ⟨g, j * 4 + 3, none⟩ = some (.int .i64 (blkAt bs j).2.2.2) := by
  obtain ⟨ad, e, hc⟩ := h.2.2 (by omega)
  exact ⟨ad, e, hc j hj⟩
abbrev OwnB (w : World) (base : Nat) (v : Value) (bs : List Blk) : Prop := w.ownsRow base 84 4 v bs.length (blkC bs)
theorem own_rdB {w : World} {base n : Nat} {v : Value} {bs : List Blk} (h : w.ownsRow base 84 4 v n (blkC bs)) : ∃ A c, v = .slice A n c ∧ RdB w A n bs := by
  have hl : bs.length = n := by have := h.1; rw [blkC_len] at this; omega
  rcases Nat.eq_zero_or_pos n with h0 | h0
  · obtain ⟨A, c, rfl⟩ := own_slice h
    exact ⟨A, c, rfl, hl, by omega, fun hp => absurd hp (by omega)⟩
  · rcases h.2 with ⟨_, h1⟩ | ⟨g', cap', cur, rfl, hb, hh, h1, h2, h3, h4⟩
    · omega
    · refine ⟨_, _, rfl, hl, ?_, fun _ => ⟨_, rfl, fun j hj => ?_⟩⟩
      · simp only [maxLen] at h2; omega
      · have e := blkC_get bs j (by omega)
        have c1 := h.cells (g := g') rfl (j * 4) _ e.1
        have c2 := h.cells (g := g') rfl (j * 4 + 1) _ e.2.1
        have c3 := h.cells (g := g') rfl (j * 4 + 2) _ e.2.2.1
        have c4 := h.cells (g := g') rfl (j * 4 + 3) _ e.2.2.2
        rw [add0] at c1 c2 c3 c4
        exact ⟨c1, c2, c3, c4⟩
theorem info84 : (Try.prog.info? 84).map (fun i => (i.zero, i.size, i.bytes)) = some (some (.agg #[.int .i64 0, .int .i64 0, .int .i64 0, .int .i64 0]), 4, 32) := by kernel_rfl

/-- The first so many blocks of a span. -/
def spanBTo (s l r : Int) (hs : List Hd) (i k : Nat) : List Blk := (List.range k).map fun (x : Nat) => (spanV s l r i + (x : Int) * (shapeV (hdAt hs i)).2, (i : Int), (x : Int), (shapeV (hdAt hs i)).2)
theorem spanBTo_succ (s l r : Int) (hs : List Hd) (i k : Nat) : spanBTo s l r hs i (k + 1) = spanBTo s l r hs i k ++ [(spanV s l r i + (k : Int) * (shapeV (hdAt hs i)).2, (i : Int), (k : Int), (shapeV (hdAt hs i)).2)] := by
  unfold spanBTo
  rw [List.range_succ]
  simp
theorem spanBTo_len (s l r : Int) (hs : List Hd) (i k : Nat) : (spanBTo s l r hs i k).length = k := by simp [spanBTo]
def spanB (s l r : Int) (hs : List Hd) (i : Nat) : List Blk := if wholeV s l r hs i then spanBTo s l r hs i (shapeV (hdAt hs i)).1.toNat else []
def allTo (s l r : Int) (hs : List Hd) (j : Nat) : List Blk := (List.range j).flatMap (spanB s l r hs)
theorem allTo_succ (s l r : Int) (hs : List Hd) (j : Nat) : allTo s l r hs (j + 1) = allTo s l r hs j ++ spanB s l r hs j := by
  unfold allTo
  rw [List.range_succ]
  simp
theorem shape_le {s l r : Int} {hs : List Hd} {i : Int} (h : wholeV s l r hs i = true) : (shapeV (hdAt hs i.toNat)).1.toNat ≤ 32 := by
  obtain ⟨many, size, hsh, hm0, hz0, hcase⟩ := shape_of h
  rw [hsh]
  rcases hcase with ⟨_, h, h'⟩ | ⟨h, _, _, h', _⟩
  · have : many * 2 ≤ many * size := Nat.mul_le_mul_left _ hz0
    simp only [Int.toNat_natCast]
    omega
  · simp only [Int.toNat_natCast]
    omega
theorem allTo_len (s l r : Int) (hs : List Hd) (j : Nat) : (allTo s l r hs j).length ≤ 32 * j := by
  induction j with
  | zero => simp [allTo]
  | succ j ih =>
    rw [allTo_succ, List.length_append]
    have : (spanB s l r hs j).length ≤ 32 := by
      unfold spanB
      split
      · rename_i h
        have := shape_le h
        rw [Int.toNat_natCast] at this
        rw [spanBTo_len]
        exact this
      · simp
    omega

set_option maxHeartbeats 4000000 in
set_option maxRecDepth 100000 in
theorem rall_any (s l r : Int) (A : Option Addr) (n c : Nat) (hs : List Hd) (w : World) (hr : RdH w A n hs) (hn : n ≤ 40) :
    Calls Try.prog 55 #[geo s l r, .slice A n c] w fun e w' => ∃ v, e = .returned v ∧ OwnB w' w.heap.size v (allTo s l r hs n) ∧ Kp w w' := by
  have HR := Lib.hid hr
  have HL : Hid (hs.length = n) := hr.1
  have HW := fun i W => Lib.hid (fun h => rwhole_any s l r A n c hs i W h)
  have HSP := fun i W => Lib.hid (rspanV_any s l r i W)
  have HSZ := fun c W => Lib.hid (rsize_any c W)
  clear hr
  go_enter Try.func55, Try.ntmps55
  go_wp2_with fail
  obtain ⟨g0, g1, g2⟩ := box3 (Kp.self (w := w.alloc (.cells #[.int .i64 s, .int .i64 l, .int .i64 r] 38)))
  have HKB : Hid (Kp w (w.alloc (.cells #[.int .i64 s, .int .i64 l, .int .i64 r] 38))) := Kp.self.alloc _
  generalize w.alloc (.cells #[.int .i64 s, .int .i64 l, .int .i64 r] 38) = wb at *
  generalize hgb : w.heap.size = gb at *
  have HGB := Lib.hid hgb
  clear hgb
  go_loopw [5, 6] (fun v i wr => ∃ k : Nat, k ≤ n ∧ i = .int .i64 k ∧ OwnB wr wb.heap.size v (allTo s l r hs k) ∧ Kp wb wr) (fun _ i _ => n - (intOf i).toNat)
  case atStart => exact ⟨0, by omega, rfl, World.ownsRow_nil _ _ _ _, Kp.self⟩
  case round =>
    obtain ⟨k, hk, rfl, hown, hkp⟩ := hrel
    by_cases hlt : k < n
    · obtain ⟨ad, rfl, hc1, hc2, hc3⟩ := (HR.out.kp (Kp.trans HKB.out hkp)).at_ k hlt
      have b1 : (0 : Int) ≤ k := by omega
      have b2 : (k : Int) < n := by omega
      have e0 := hkp.cell g0
      have e1 := hkp.cell g1
      have e2 := hkp.cell g2
      obtain ⟨A', c', rfl⟩ := own_slice hown
      have HO := Lib.hid hown
      have HK := Lib.hid hkp
      clear hown hkp
      go_wp2_with fail
      refine ((HW _ _).out (HR.out.kp (Kp.trans HKB.out HK.out))).mono ?_
      rintro e w2 ⟨rfl, hk2⟩
      have d1 := hk2.cell hc1
      have d2 := hk2.cell hc2
      have d3 := hk2.cell hc3
      have HK2 : Hid (Kp wb w2) := Kp.trans HK.out hk2
      have HO2 : Hid (OwnB w2 wb.heap.size (.slice A' (allTo s l r hs k).length c') (allTo s l r hs k)) := own_kp HO.out hk2
      clear hk2 e0 e1 e2 hc1 hc2 hc3 HK HO
      have hlen := allTo_len s l r hs k
      cases hw : wholeV s l r hs k
      · have HS : Hid (allTo s l r hs (k + 1) = allTo s l r hs k) := by unfold Hid; rw [allTo_succ]; unfold spanB; rw [hw]; simp
        clear hw
        go_wp2
        go_roundw
        case rel => exact ⟨k + 1, by omega, by go_num, by rw [HS.out]; exact HO2.out, HK2.out⟩
        case measure => simp [intOf]; omega
      · obtain ⟨many, size, hsh, hm0, hz0, hcase⟩ := shape_of hw
        obtain ⟨q1, q2, q3, q4, q5, q6⟩ := whole_parts hw
        have hm32 := shape_le hw
        rw [Int.toNat_natCast] at hsh q4 q6 hcase hm32
        rw [hsh] at hm32
        have HS : Hid (allTo s l r hs (k + 1) = allTo s l r hs k ++ spanBTo s l r hs k many) := by unfold Hid; rw [allTo_succ]; unfold spanB; rw [hw, if_pos rfl, hsh]; simp
        have HT : Hid (∀ x, spanBTo s l r hs k (x + 1) = spanBTo s l r hs k x ++ [(spanV s l r k + (x : Int) * size, (k : Int), (x : Int), (size : Int))]) := fun x => by rw [spanBTo_succ, hsh]
        have hmay := may_bd (right_all q1).1
        have hsv : spanV s l r k = 16 + 40 * l + 8 * s + 64 * k := by unfold spanV; rw [if_pos ⟨(right_all q1).1, by omega, q3⟩]
        have hsv2 := fun W => HSP k W
        rw [hsv] at hsv2 HT
        -- in both kinds: words 'size', end 'many * size'
        have hend : (many * size : Nat) ≤ 256 := by
          rcases hcase with ⟨_, h, _⟩ | ⟨h, _, _, h', _⟩
          · omega
          · rw [h]; omega
        have hsz : size ≤ 256 := Nat.le_trans (Nat.le_mul_of_pos_left _ hm0) hend
        simp only [Int.toNat_natCast] at hm32
        by_cases hk2 : (hdAt hs k).1 = 2
        · have hsz2 : 64 * (hdAt hs k).2.2 = size ∧ many = 1 := by
            have := hsh
            unfold shapeV at this
            rw [if_pos hk2] at this
            simp only [Prod.mk.injEq] at this
            omega
          have ek : ((hdAt hs k).1 == 2) = true := by simp [hk2]
          have hE : (64 * (hdAt hs k).2.2 : Int) = ((many * size : Nat) : Int) := by rw [hsz2.2, Nat.one_mul]; exact hsz2.1
          generalize (hdAt hs k).1 = kd at *
          generalize (hdAt hs k).2.1 = cl at *
          rw [show (hdAt hs k).2.2 = (hdAt hs k).2.2 from rfl] at *
          go_wp2_with fail
          refine (HSZ _ _).out.mono ?_
          rintro e w3 ⟨rfl, hk3⟩
          have d1 := hk3.cell d1
          have d2 := hk3.cell d2
          have d3 := hk3.cell d3
          have HK2 : Hid (Kp wb w3) := Kp.trans HK2.out hk3
          have HO2 : Hid (OwnB w3 wb.heap.size (.slice A' (allTo s l r hs k).length c') (allTo s l r hs k)) := own_kp HO2.out hk3
          clear hk3 HSZ
          have b5 : 64 * (hdAt hs k).2.2 = size := hsz2.1
          go_wp2_with fail
          have b3 : (0 : Int) < size := by omega
          go_loopw [5, 9] (fun v i wr => ∃ x q : Nat, q = x * size ∧ x ≤ many ∧ i = .int .i64 q ∧ OwnB wr wb.heap.size v (allTo s l r hs k ++ spanBTo s l r hs k x) ∧ Kp wb wr) (fun _ i _ => 300 - (intOf i).toNat)
          case atStart => exact ⟨0, 0, by omega, by omega, rfl, by simpa [spanBTo] using HO2.out, HK2.out⟩
          case round =>
            obtain ⟨x, q, hq, hx, hi9, hown, hkp⟩ := hrel
            subst hi9
            generalize u5 = v at *
            by_cases hxm : x < many
            · have hqm : q + size ≤ many * size := by
                rw [hq]
                have : (x + 1) * size ≤ many * size := Nat.mul_le_mul_right _ (by omega)
                rw [Nat.add_mul, Nat.one_mul] at this
                exact this
              have hqe : (q : Int) < size := by omega
              have b4 : (0 : Int) ≤ q := by omega
              have hdiv : (q : Int) / (size : Int) = x := by
                rw [hq]
                exact_mod_cast Nat.mul_div_cancel x (by omega)
              obtain ⟨N, hN⟩ : ∃ N, N = (allTo s l r hs k ++ spanBTo s l r hs k x).length := ⟨_, rfl⟩
              have hown : wr.ownsRow wb.heap.size 84 4 v N (blkC (allTo s l r hs k ++ spanBTo s l r hs k x)) := by rw [hN]; exact hown
              have hN2 : N ≤ 40 * 32 := by rw [hN, List.length_append, spanBTo_len]; omega
              have HN := Lib.hid hN
              clear hN
              obtain ⟨A'', c'', rfl⟩ := own_slice hown
              have HO3 := Lib.hid hown
              have HK3 := Lib.hid hkp
              clear hown hkp
              have w1 : IntKind.i64.wrap (16 + 40 * l + 8 * s + 64 * (k : Int) + q) = 16 + 40 * l + 8 * s + 64 * (k : Int) + q := by rw [IntKind.wrap_i64]; omega
              have w2 : IntKind.i64.wrap (x : Int) = x := by rw [IntKind.wrap_i64]; omega
              have b6 : ¬ size = 0 := by omega
              have hnx : q + size = (x + 1) * size := by rw [hq, Nat.add_mul, Nat.one_mul]
              have HNX := Lib.hid hnx
              have HQ := Lib.hid hq
              clear hq hnx
              go_wp2_with fail
              refine wp_region_Md [] (fun w' => Kp wb w') (by kernel_rfl) ?_
              refine anyM_takes (fuel := 6) [0, 1, 2, 4, 6, 7, 8, 9, 10, 11] (by kernel_rfl) (by kernel_rfl) (by kernel_rfl) (fun d _ _ _ _ h => by cases d <;> exact h) HK3.out.drew ?_
              iterate 10
                refine takes_pos (v := ?_) rfl (by rfl) ?_ ?_
                rotate_left
                · intro w' hS
                  have s0 := Kp.cell hS g0
                  have s1 := Kp.cell hS g1
                  have s2 := Kp.cell hS g2
                  go_simp
                  rfl
                simp only [List.getElem_toArray, List.getElem_cons_succ, List.getElem_cons_zero, Act.put, List.setIfInBounds_toArray, List.set_cons_zero, List.set_cons_succ, w2]
              refine takes_nil ?_
              refine anyM_step 3 (by kernel_rfl) rfl ?_
              go_wp2_with fail
              refine (hsv2 _).out.mono ?_
              rintro e w5 ⟨rfl, hk5⟩
              have hk5 : Kp wr w5 := Kp.self.drew.trans hk5
              have HK5 : Hid (Kp wb w5) := Kp.trans HK3.out hk5
              have HO5 : Hid (w5.ownsRow wb.heap.size 84 4 (.slice A'' N c'') N (blkC (allTo s l r hs k ++ spanBTo s l r hs k x))) := own_kp HO3.out hk5
              clear hk5 HO3 HK3
              go_wp2_with fail
              refine ⟨fun _ => HK5.out, ?_⟩
              refine anyM_takes (fuel := 3) [5, 12] (by kernel_rfl) (by kernel_rfl) (by kernel_rfl) (fun d _ _ _ _ h => by cases d <;> exact h) HK5.out ?_
              iterate 2
                refine takes_pos (v := ?_) rfl (by rfl) ?_ ?_
                rotate_left
                · intro w' hS
                  go_simp
                  rfl
                simp only [List.getElem_toArray, List.getElem_cons_succ, List.getElem_cons_zero, Act.put, List.setIfInBounds_toArray, List.set_cons_zero, List.set_cons_succ, w1]
              refine takes_nil ?_
              refine anyM_step 13 (by kernel_rfl) rfl ?_
              go_wp2_with fail
              refine ⟨fun _ => HK5.out.alloc _, ?_⟩
              refine anyM_step 14 (by kernel_rfl) rfl ?_
              refine app_cells (w0 := wb) wb.heap.size rfl (.tmp 46) (.tmp 59) 75 84 (.agg #[.int .i64 0, .int .i64 0, .int .i64 0, .int .i64 0]) 4 32 rfl Try.underlying75 info84 rfl (by omega) (by omega) _ _ (blkC (allTo s l r hs k ++ spanBTo s l r hs k x)) [.int .i64 (16 + 40 * l + 8 * s + 64 * (k : Int) + q), .int .i64 k, .int .i64 x, .int .i64 size] rfl rfl rfl (by simp [Value.oneCell']) HO5.out HK5.out HK5.out.size (by omega) ?_
              intro v1 w6 hown hk6 _ _
              have HO6 : Hid (OwnB w6 wb.heap.size v1 (allTo s l r hs k ++ spanBTo s l r hs k (x + 1))) := by
                unfold Hid
                rw [HT, ← List.append_assoc]
                unfold OwnB
                rw [List.length_append, ← HN.out, blkC_app, show ((x : Int) * size) = (q : Int) by rw [HQ.out]; simp]
                exact hown
              have HK6 : Hid (Kp wb w6) := hk6
              clear hown hk6 HO5 HK5
              go_wp2_with fail
              refine ⟨fun _ => HK6.out, ?_⟩
              refine anyM_step 15 (by kernel_rfl) rfl ?_
              go_wp2_with fail
              refine ⟨fun _ => HK6.out, ?_⟩
              refine ⟨by kernel_rfl, ?_⟩
              go_wp2
              go_roundw
              case rel => exact ⟨x + 1, q + size, HNX.out, by omega, by go_num, HO6.out, HK6.out⟩
              case measure => simp [intOf]; omega
            · obtain rfl : x = many := by omega
              have hqe : ¬ (q : Int) < size := by omega
              have HO3 := Lib.hid hown
              have HK3 := Lib.hid hkp
              clear hown hkp
              go_wp2
              go_roundw
              case rel => exact ⟨k + 1, by omega, by go_num, by rw [HS.out]; exact HO3.out, HK3.out⟩
              case measure => simp [intOf]; omega
        · have hk1 : (hdAt hs k).1 = 1 := by rcases q6 with h | h <;> omega
          have hsz2 : sizeV (hdAt hs k).2.1 = size ∧ many * size = 64 := by
            have := hsh
            unfold shapeV at this
            rw [if_neg hk2] at this
            simp only [Prod.mk.injEq] at this
            refine ⟨this.2, ?_⟩
            rcases hcase with ⟨_, h, _⟩ | ⟨_, h, _⟩
            · exact h
            · exact absurd h hk2
          have ek : ((hdAt hs k).1 == 2) = false := by simp [hk2]
          have HSZ2 := fun W => HSZ (hdAt hs k).2.1 W
          rw [hsz2.1] at HSZ2
          generalize (hdAt hs k).1 = kd at *
          generalize (hdAt hs k).2.1 = cl at *
          go_wp2_with fail
          refine (HSZ2 _).out.mono ?_
          rintro e w3 ⟨rfl, hk3⟩
          have d1 := hk3.cell d1
          have d2 := hk3.cell d2
          have d3 := hk3.cell d3
          have HK2 : Hid (Kp wb w3) := Kp.trans HK2.out hk3
          have HO2 : Hid (OwnB w3 wb.heap.size (.slice A' (allTo s l r hs k).length c') (allTo s l r hs k)) := own_kp HO2.out hk3
          clear hk3 HSZ HSZ2
          go_wp2_with fail
          have b3 : (0 : Int) < size := by omega
          go_loopw [5, 9] (fun v i wr => ∃ x q : Nat, q = x * size ∧ x ≤ many ∧ i = .int .i64 q ∧ OwnB wr wb.heap.size v (allTo s l r hs k ++ spanBTo s l r hs k x) ∧ Kp wb wr) (fun _ i _ => 300 - (intOf i).toNat)
          case atStart => exact ⟨0, 0, by omega, by omega, rfl, by simpa [spanBTo] using HO2.out, HK2.out⟩
          case round =>
            obtain ⟨x, q, hq, hx, hi9, hown, hkp⟩ := hrel
            subst hi9
            generalize u5 = v at *
            by_cases hxm : x < many
            · have hqm : q + size ≤ many * size := by
                rw [hq]
                have : (x + 1) * size ≤ many * size := Nat.mul_le_mul_right _ (by omega)
                rw [Nat.add_mul, Nat.one_mul] at this
                exact this
              have hqe : (q : Int) < 64 := by omega
              have b4 : (0 : Int) ≤ q := by omega
              have hdiv : (q : Int) / (size : Int) = x := by
                rw [hq]
                exact_mod_cast Nat.mul_div_cancel x (by omega)
              obtain ⟨N, hN⟩ : ∃ N, N = (allTo s l r hs k ++ spanBTo s l r hs k x).length := ⟨_, rfl⟩
              have hown : wr.ownsRow wb.heap.size 84 4 v N (blkC (allTo s l r hs k ++ spanBTo s l r hs k x)) := by rw [hN]; exact hown
              have hN2 : N ≤ 40 * 32 := by rw [hN, List.length_append, spanBTo_len]; omega
              have HN := Lib.hid hN
              clear hN
              obtain ⟨A'', c'', rfl⟩ := own_slice hown
              have HO3 := Lib.hid hown
              have HK3 := Lib.hid hkp
              clear hown hkp
              have w1 : IntKind.i64.wrap (16 + 40 * l + 8 * s + 64 * (k : Int) + q) = 16 + 40 * l + 8 * s + 64 * (k : Int) + q := by rw [IntKind.wrap_i64]; omega
              have w2 : IntKind.i64.wrap (x : Int) = x := by rw [IntKind.wrap_i64]; omega
              have b6 : ¬ size = 0 := by omega
              have hnx : q + size = (x + 1) * size := by rw [hq, Nat.add_mul, Nat.one_mul]
              have HNX := Lib.hid hnx
              have HQ := Lib.hid hq
              clear hq hnx
              go_wp2_with fail
              refine wp_region_Md [] (fun w' => Kp wb w') (by kernel_rfl) ?_
              refine anyM_takes (fuel := 6) [0, 1, 2, 4, 6, 7, 8, 9, 10, 11] (by kernel_rfl) (by kernel_rfl) (by kernel_rfl) (fun d _ _ _ _ h => by cases d <;> exact h) HK3.out.drew ?_
              iterate 10
                refine takes_pos (v := ?_) rfl (by rfl) ?_ ?_
                rotate_left
                · intro w' hS
                  have s0 := Kp.cell hS g0
                  have s1 := Kp.cell hS g1
                  have s2 := Kp.cell hS g2
                  go_simp
                  rfl
                simp only [List.getElem_toArray, List.getElem_cons_succ, List.getElem_cons_zero, Act.put, List.setIfInBounds_toArray, List.set_cons_zero, List.set_cons_succ, w2]
              refine takes_nil ?_
              refine anyM_step 3 (by kernel_rfl) rfl ?_
              go_wp2_with fail
              refine (hsv2 _).out.mono ?_
              rintro e w5 ⟨rfl, hk5⟩
              have hk5 : Kp wr w5 := Kp.self.drew.trans hk5
              have HK5 : Hid (Kp wb w5) := Kp.trans HK3.out hk5
              have HO5 : Hid (w5.ownsRow wb.heap.size 84 4 (.slice A'' N c'') N (blkC (allTo s l r hs k ++ spanBTo s l r hs k x))) := own_kp HO3.out hk5
              clear hk5 HO3 HK3
              go_wp2_with fail
              refine ⟨fun _ => HK5.out, ?_⟩
              refine anyM_takes (fuel := 3) [5, 12] (by kernel_rfl) (by kernel_rfl) (by kernel_rfl) (fun d _ _ _ _ h => by cases d <;> exact h) HK5.out ?_
              iterate 2
                refine takes_pos (v := ?_) rfl (by rfl) ?_ ?_
                rotate_left
                · intro w' hS
                  go_simp
                  rfl
                simp only [List.getElem_toArray, List.getElem_cons_succ, List.getElem_cons_zero, Act.put, List.setIfInBounds_toArray, List.set_cons_zero, List.set_cons_succ, w1]
              refine takes_nil ?_
              refine anyM_step 13 (by kernel_rfl) rfl ?_
              go_wp2_with fail
              refine ⟨fun _ => HK5.out.alloc _, ?_⟩
              refine anyM_step 14 (by kernel_rfl) rfl ?_
              refine app_cells (w0 := wb) wb.heap.size rfl (.tmp 46) (.tmp 59) 75 84 (.agg #[.int .i64 0, .int .i64 0, .int .i64 0, .int .i64 0]) 4 32 rfl Try.underlying75 info84 rfl (by omega) (by omega) _ _ (blkC (allTo s l r hs k ++ spanBTo s l r hs k x)) [.int .i64 (16 + 40 * l + 8 * s + 64 * (k : Int) + q), .int .i64 k, .int .i64 x, .int .i64 size] rfl rfl rfl (by simp [Value.oneCell']) HO5.out HK5.out HK5.out.size (by omega) ?_
              intro v1 w6 hown hk6 _ _
              have HO6 : Hid (OwnB w6 wb.heap.size v1 (allTo s l r hs k ++ spanBTo s l r hs k (x + 1))) := by
                unfold Hid
                rw [HT, ← List.append_assoc]
                unfold OwnB
                rw [List.length_append, ← HN.out, blkC_app, show ((x : Int) * size) = (q : Int) by rw [HQ.out]; simp]
                exact hown
              have HK6 : Hid (Kp wb w6) := hk6
              clear hown hk6 HO5 HK5
              go_wp2_with fail
              refine ⟨fun _ => HK6.out, ?_⟩
              refine anyM_step 15 (by kernel_rfl) rfl ?_
              go_wp2_with fail
              refine ⟨fun _ => HK6.out, ?_⟩
              refine ⟨by kernel_rfl, ?_⟩
              go_wp2
              go_roundw
              case rel => exact ⟨x + 1, q + size, HNX.out, by omega, by go_num, HO6.out, HK6.out⟩
              case measure => simp [intOf]; omega
            · obtain rfl : x = many := by omega
              have hqe : ¬ (q : Int) < 64 := by omega
              have HO3 := Lib.hid hown
              have HK3 := Lib.hid hkp
              clear hown hkp
              go_wp2
              go_roundw
              case rel => exact ⟨k + 1, by omega, by go_num, by rw [HS.out]; exact HO3.out, HK3.out⟩
              case measure => simp [intOf]; omega

    · obtain rfl : k = n := by omega
      have HO := Lib.hid (own_lower hown (show gb ≤ wb.heap.size by rw [← HGB.out]; exact HKB.out.size))
      have HK : Hid (Kp w wr) := Kp.trans HKB.out hkp
      clear hown hkp
      obtain ⟨A', c', rfl⟩ := own_slice HO.out
      go_wp2
      go_ret
      exact ⟨_, rfl, by rw [HGB.out]; exact HO.out, HK.out⟩
end Go.Proofs.Ytpmbjlmplfejgaa
