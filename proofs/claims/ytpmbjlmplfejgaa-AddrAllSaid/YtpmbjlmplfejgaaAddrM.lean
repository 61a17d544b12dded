/- The law AddrAll, as a walk. -/
import Derived.Test.YtpmbjlmplfejgaaAddrK
import Derived.Test.YtpmbjlmplfejgaaLibD
namespace Go.Proofs.Ytpmbjlmplfejgaa
open Go.RowKit
set_option linter.unusedVariables false
set_option linter.unusedSimpArgs false

theorem blk_spot {s l r : Int} {hs : List Hd} {n j : Nat} (hj : j < (allTo s l r hs n).length) : spotV s l r hs (blkAt (allTo s l r hs n) j).1 = some (blkAt (allTo s l r hs n) j).2 ∧ addrV s l r hs (blkAt (allTo s l r hs n) j).2.1 (blkAt (allTo s l r hs n) j).2.2.1 = (blkAt (allTo s l r hs n) j).1 := by
  refine ⟨?_, addr_match (blkAt_mem hj) ⟨rfl, rfl⟩⟩
  obtain ⟨i, x, many, size, hi, hb, e⟩ := mem_allTo.1 (blkAt_mem hj)
  rw [e, spot_blk hb]
  rfl
theorem blk_bd {s l r : Int} {hs : List Hd} {n j : Nat} (hj : j < (allTo s l r hs n).length) : 0 ≤ (blkAt (allTo s l r hs n) j).1 ∧ (blkAt (allTo s l r hs n) j).1 ≤ 5000 ∧ 2 ≤ (blkAt (allTo s l r hs n) j).2.2.2 ∧ (blkAt (allTo s l r hs n) j).2.2.2 ≤ 256 := by
  obtain ⟨i, x, many, size, hi, hb, e⟩ := mem_allTo.1 (blkAt_mem hj)
  rw [e]
  obtain ⟨h1, h2, _, _, _, h3, h4, h5, _⟩ := hb.facts
  have hm := may_bd h1
  have e1 : (x : Int) * size = ((x * size : Nat) : Int) := by simp
  unfold blkOf
  simp only
  rw [e1]
  omega
theorem blk_apart {s l r : Int} {hs : List Hd} {n i j : Nat} (hij : i < j) (hj : j < (allTo s l r hs n).length) : (blkAt (allTo s l r hs n) i).1 + (blkAt (allTo s l r hs n) i).2.2.2 ≤ (blkAt (allTo s l r hs n) j).1 := by
  have := (List.pairwise_iff_getElem.1 (allTo_apart s l r hs n)) i j (by omega) hj hij
  rw [blkAt_eq (by omega), blkAt_eq hj]
  exact this
theorem begins_get {s l r : Int} {hs : List Hd} {n j : Nat} (hj : j < (allTo s l r hs n).length) : (begins s l r hs n)[j]?.getD 0 = (blkAt (allTo s l r hs n) j).1 := by
  unfold begins blkAt
  rw [List.getElem?_map, List.getElem?_eq_getElem hj]
  rfl
/-- the block that the loop stands at -/
def Stands (bs : List Blk) (k : Nat) (a : Int) : Prop := (∀ j, j < k → (blkAt bs j).1 + (blkAt bs j).2.2.2 ≤ a)
theorem within_want {s l r : Int} {hs : List Hd} {n k : Nat} {a v : Int} (h : WithinP (yL s l r hs n) a v) (hst : Stands (allTo s l r hs n) k a) (hk : k < (allTo s l r hs n).length → a < (blkAt (allTo s l r hs n) k).1 + (blkAt (allTo s l r hs n) k).2.2.2) :
    (k < (allTo s l r hs n).length → (blkAt (allTo s l r hs n) k).1 ≤ a → v = (blkAt (allTo s l r hs n) k).1) ∧ (¬ (k < (allTo s l r hs n).length ∧ (blkAt (allTo s l r hs n) k).1 ≤ a) → v = -1) := by
  have hit : ∀ x ∈ yL s l r hs n, hitB a x → k < (allTo s l r hs n).length ∧ (blkAt (allTo s l r hs n) k).1 ≤ a ∧ x.1 = (blkAt (allTo s l r hs n) k).1 := by
    intro x hx hh
    obtain ⟨b, hb, rfl⟩ := List.mem_map.1 hx
    obtain ⟨j, hj, rfl⟩ := mem_blkAt hb
    unfold hitB yOf at hh
    simp only at hh
    rcases Nat.lt_trichotomy j k with h1 | h1 | h1
    · have := hst j h1
      omega
    · subst h1
      exact ⟨hj, hh.1, rfl⟩
    · have := blk_apart h1 hj
      have := hk (by omega)
      omega
  rcases h with ⟨rfl, h⟩ | ⟨pre, x, hp, _, hx, rfl⟩
  · refine ⟨fun hk1 hk2 => ?_, fun _ => rfl⟩
    refine absurd ?_ (h (yOf (blkAt (allTo s l r hs n) k)) (List.mem_map.2 ⟨_, blkAt_mem hk1, rfl⟩))
    unfold hitB yOf
    exact ⟨hk2, hk hk1⟩
  · have hm : x ∈ yL s l r hs n := hp.subset (by simp)
    obtain ⟨h1, h2, h3⟩ := hit x hm hx
    exact ⟨fun _ _ => h3, fun hn => absurd ⟨h1, h2⟩ hn⟩
theorem within_neg {s l r : Int} {hs : List Hd} {n : Nat} {v : Int} (h : WithinP (yL s l r hs n) (-1) v) : v = -1 := by
  rcases h with ⟨rfl, _⟩ | ⟨pre, x, hp, _, hx, rfl⟩
  · rfl
  · have hm : x ∈ yL s l r hs n := hp.subset (by simp)
    obtain ⟨b, hb, rfl⟩ := List.mem_map.1 hm
    obtain ⟨j, hj, rfl⟩ := mem_blkAt hb
    have := blk_bd hj
    unfold hitB yOf at hx
    simp only at hx
    omega

set_option maxHeartbeats 4000000 in
set_option maxRecDepth 100000 in
theorem law_AddrAll (s l r : Int) (A : Option Addr) (n c : Nat) (hs : List Hd) (w : World) (hr : RdH w A n hs) (hc : n ≤ c) (hcm : c ≤ maxLen) :
    Calls Try.prog 16 #[geo s l r, .slice A n c] w fun e w' => e = .returned (.bool true) ∧ Kp w w' := by
  have HR := Lib.hid hr
  have HC := Lib.hid hcm
  have HL : Hid (hs.length = n) := hr.1
  clear hr hcm
  go_enter Try.func16, Try.ntmps16
  go_wp2_with fail
  refine (alive11 _).mono ?_
  rintro e w1 ⟨rfl, hk⟩
  obtain ⟨g0, g1, g2⟩ := box3 hk
  have HK1 : Hid (Kp w w1) := (Kp.self.alloc _).trans hk
  clear hk
  by_cases hn : (n : Int) > 40
  · go_wp2
    go_ret
    exact ⟨rfl, HK1.out⟩
  · have hlen := allTo_len s l r hs n
    generalize hN : (allTo s l r hs n).length = N at *
    have HN := Lib.hid hN
    clear hN
    go_wp2_with fail
    refine wp_region_Md [] (fun w' => Kp w1 w') (by kernel_rfl) ?_
    refine anyM_takes (fuel := 4) [0, 1, 3, 4] (by kernel_rfl) (by kernel_rfl) (by kernel_rfl) (fun d _ _ _ _ h => by cases d <;> exact h) Kp.self.drew ?_
    iterate 4
      refine takes_pos (v := ?_) rfl (by rfl) ?_ ?_
      rotate_left
      · intro w' hS
        have s0 := Kp.cell hS g0
        have s1 := Kp.cell hS g1
        have s2 := Kp.cell hS g2
        go_simp
        rfl
      simp only [List.getElem_toArray, List.getElem_cons_succ, List.getElem_cons_zero, Act.put, List.setIfInBounds_toArray, List.set_cons_zero, List.set_cons_succ]
    refine takes_nil ?_
    refine anyM_step 2 (by kernel_rfl) rfl ?_
    go_wp2_with fail
    refine (rall_any s l r A n c hs _ (HR.out.kp (Kp.trans HK1.out Kp.self.drew)) (by omega)).mono ?_
    rintro e w2 ⟨v, rfl, hown, hk2⟩
    have hown : w2.ownsRow w1.heap.size 84 4 v N (blkC (allTo s l r hs n)) := by rw [← HN.out]; exact hown
    obtain ⟨B, d, rfl, hrb⟩ := own_rdB hown
    have hk2 : Kp w1 w2 := Kp.self.drew.trans hk2
    have HK2 : Hid (Kp w w2) := Kp.trans HK1.out hk2
    have HB2 := Lib.hid hrb
    clear hown hrb
    go_wp2_with fail
    refine ⟨fun _ => hk2, ?_⟩
    refine anyM_step 5 (by kernel_rfl) rfl ?_
    go_wp2_with fail
    refine (aall_any s l r A n c hs _ (HR.out.kp HK2.out) hc HC.out (by omega)).mono ?_
    rintro e w3 ⟨v, rfl, hown, hk3⟩
    have hown : w3.ownsRow w2.heap.size 3 1 v N (nums .i64 (begins s l r hs n)) := by
      have e : (begins s l r hs n).length = N := by unfold begins; rw [List.length_map, HN.out]
      rw [← e]; exact hown
    obtain ⟨E, f, rfl, hre⟩ := own_rd hown
    have HK3 : Hid (Kp w w3) := HK2.out.trans hk3
    have HB3 := Lib.hid (HB2.out.kp hk3)
    have HE3 := Lib.hid hre
    have hk13 : Kp w1 w3 := hk2.trans hk3
    clear hown hre hk2 hk3 HB2 HK2
    go_wp2_with fail
    refine ⟨fun _ => hk13, ?_⟩
    refine anyM_takes (fuel := 0) [6, 7] (by kernel_rfl) (by kernel_rfl) (by kernel_rfl) (fun d _ _ _ _ h => by cases d <;> exact h) hk13 ?_
    iterate 2
      refine takes_pos (v := ?_) rfl (by rfl) ?_ ?_
      rotate_left
      · intro w' hS
        go_simp
        rfl
      simp only [List.getElem_toArray, List.getElem_cons_succ, List.getElem_cons_zero, Act.put, List.setIfInBounds_toArray, List.set_cons_zero, List.set_cons_succ]
    refine takes_nil ?_
    refine ⟨by kernel_rfl, ?_⟩
    have g0 := hk13.cell g0
    have g1 := hk13.cell g1
    have g2 := hk13.cell g2
    clear hk13 HK1
    go_wp2
    go_loopw [7] (fun q wr => ∃ k : Nat, k ≤ N ∧ q = .int .i64 k ∧ Hid (Kp w3 wr)) (fun q _ => N - (intOf q).toNat)
    case atStart => exact ⟨0, by omega, rfl, Kp.self⟩
    case round =>
      obtain ⟨k, hk, rfl, HKR⟩ := hrel
      by_cases hlt : k < N
      · have hltB : k < (allTo s l r hs n).length := by rw [HN.out]; exact hlt
        obtain ⟨gb, rfl, x0, x1, x2, x3⟩ := (HB3.out.kp HKR.out).at_ k hlt
        obtain ⟨ae, rfl, y0⟩ := (HE3.out.kp HKR.out).at_ k hlt
        rw [begins_get hltB] at y0
        have hbd := blk_bd hltB
        have HSP := Lib.hid (blk_spot hltB)
        have g0 := Kp.cell HKR.out g0
        have g1 := Kp.cell HKR.out g1
        have g2 := Kp.cell HKR.out g2
        have HKW : Hid (Kp w wr) := Kp.trans HK3.out HKR.out
        have c1 : (0 : Int) ≤ k := by omega
        have c2 : (k : Int) < N := by omega
        have HAP : Hid (0 < k → (blkAt (allTo s l r hs n) (k - 1)).1 + (blkAt (allTo s l r hs n) (k - 1)).2.2.2 ≤ (blkAt (allTo s l r hs n) k).1) := fun h => blk_apart (by omega) hltB
        rcases hbk : blkAt (allTo s l r hs n) k with ⟨t0, t1, t2, t3⟩
        simp only [hbk] at x0 x1 x2 x3 y0 hbd HSP HAP
        have HBK := Lib.hid hbk
        clear hbk
        go_wp2_with fail
        refine wp_region_Md [] (fun w' => Kp wr w') (by kernel_rfl) ?_
        refine anyM_takes (fuel := 7) [0, 1, 2, 3, 4, 5] (by kernel_rfl) (by kernel_rfl) (by kernel_rfl) (fun d _ _ _ _ h => by cases d <;> exact h) Kp.self.drew ?_
        iterate 6
          refine takes_pos (v := ?_) rfl (by rfl) ?_ ?_
          rotate_left
          · intro w' hS
            have s0 := Kp.cell hS g0
            have s1 := Kp.cell hS g1
            have s2 := Kp.cell hS g2
            have s3 := Kp.cell hS y0
            go_simp
            rfl
          simp only [List.getElem_toArray, List.getElem_cons_succ, List.getElem_cons_zero, Act.put, List.setIfInBounds_toArray, List.set_cons_zero, List.set_cons_succ]
        refine takes_nil ?_
        refine anyM_two_takes (w0 := wr) (fuel := 2) 6 10 [7, 8, 9] (A := fun v w' => v = .tuple #[.agg #[.int .i64 t1, .int .i64 t2, .int .i64 t3], .bool true]) (B := fun v w' => ∃ g', v = .pointer (some ⟨g', 0, none⟩) ∧ wr.heap.size ≤ g' ∧ (w'.cell? ⟨g', 0, none⟩ = some (.int .i64 0) ∧ w'.cell? ⟨g', 1, none⟩ = some (.int .i64 0) ∧ w'.cell? ⟨g', 2, none⟩ = some (.int .i64 0)) ∧ w'.frozen? ⟨g', 0, none⟩ = false ∧ w'.frozen? ⟨g', 1, none⟩ = false ∧ w'.frozen? ⟨g', 2, none⟩ = false) rfl rfl (by kernel_rfl) Kp.self.drew (fun _ h => h) (fun d _ _ _ _ h => by cases d <;> exact h)
          (fun v w w' hk h => h) (fun v w w' hk ⟨g', e, hg, ⟨k0, k1, k2⟩, f0, f1, f2⟩ => ⟨g', e, hg, ⟨hk.cell k0, hk.cell k1, hk.cell k2⟩, hk.frozen_ k0 f0, hk.frozen_ k1 f1, hk.frozen_ k2 f2⟩) (makes_of rfl ?_) (makes_of rfl ?_) ?_
        · intro w5 hk5
          go_wp2_with fail
          refine (spot_any s l r A n c hs t0 _ (HR.out.kp (Kp.trans HKW.out hk5)) hc HC.out (by omega)).mono ?_
          rw [HSP.out.1, spotR_some]
          rintro e w6 ⟨rfl, hk6⟩
          go_wp2_with fail
          exact ⟨.tuple #[.agg #[.int .i64 t1, .int .i64 t2, .int .i64 t3], .bool true], rfl, hk6, rfl⟩
        · intro w5 hk5
          go_wp2_with fail
          have hb := box3 (Kp.self (w := w5.alloc (.cells #[.int .i64 0, .int .i64 0, .int .i64 0] 78)))
          have hf := boxf3 (Kp.self (w := w5.alloc (.cells #[.int .i64 0, .int .i64 0, .int .i64 0] 78)))
          exact ⟨.pointer (some ⟨w5.heap.size, 0, none⟩), rfl, Kp.self.alloc _, _, rfl, hk5.size, hb, hf⟩
        rintro v w4 hk4 rfl
        simp only [Act.put, List.setIfInBounds_toArray, List.set_cons_zero, List.set_cons_succ]
        iterate 3
          refine takes_pos (v := ?_) rfl (by rfl) ?_ ?_
          rotate_left
          · intro w' hS
            go_simp
            rfl
          simp only [List.getElem_toArray, List.getElem_cons_succ, List.getElem_cons_zero, Act.put, List.setIfInBounds_toArray, List.set_cons_zero, List.set_cons_succ]
        refine takes_nil ?_
        rintro u w5 hk5 _ ⟨gs, rfl, hgs, ⟨p0, p1, p2⟩, pf0, pf1, pf2⟩
        simp only [Act.put, List.setIfInBounds_toArray, List.set_cons_zero, List.set_cons_succ]
        refine anyM_step 11 (by kernel_rfl) rfl ?_
        go_wp2_with fail
        obtain ⟨k0, k1, k2, hk6⟩ := set3 (.int .i64 t1) (.int .i64 t2) (.int .i64 t3) hk5 hgs p0 p1 p2
        generalize ((w5.setCell ⟨gs, 0, none⟩ (.int .i64 t1)).setCell ⟨gs, 1, none⟩ (.int .i64 t2)).setCell ⟨gs, 2, none⟩ (.int .i64 t3) = w6 at *
        refine ⟨fun _ => hk6, ?_⟩
        refine anyM_step 12 (by kernel_rfl) rfl ?_
        go_wp2_with fail
        refine ⟨fun _ => hk6, ?_⟩
        refine ⟨by kernel_rfl, ?_⟩
        have g0 := hk6.cell g0
        have g1 := hk6.cell g1
        have g2 := hk6.cell g2
        have y0 := hk6.cell y0
        have x0 := hk6.cell x0
        have x1 := hk6.cell x1
        have x2 := hk6.cell x2
        have x3 := hk6.cell x3
        have HKW6 : Hid (Kp w w6) := Kp.trans HKW.out hk6
        have HKR6 : Hid (Kp w3 w6) := Kp.trans HKR.out hk6
        have HAD : Hid (∀ W : KW w6, Calls Try.prog 60 #[geo s l r, .slice A n c, .int .i64 t1, .int .i64 t2] W.1 fun e w' => e = .returned (.int .i64 t0) ∧ Kp W.1 w') := fun W => by
          have h := addr_any s l r A n c hs t1 t2 W.1 (HR.out.kp (Kp.trans HKW6.out W.2)) hc HC.out
          rw [HSP.out.2] at h
          exact h
        clear hk5 hk6 HKW HKR p0 p1 p2 pf0 pf1 pf2 HSP
        go_wp2
        have q0 := fun W : KW w6 => W.cell g0
        have q1 := fun W : KW w6 => W.cell g1
        have q2 := fun W : KW w6 => W.cell g2
        have q3 := fun W : KW w6 => W.cell y0
        have q4 := fun W : KW w6 => W.cell x0
        have q5 := fun W : KW w6 => W.cell k0
        have q6 := fun W : KW w6 => W.cell k1
        have q7 := fun W : KW w6 => W.cell k2
        refine wp_region_kw w6 Kp.self (by kernel_rfl) (by kernel_rfl) ?_
        repeat (any_goals (first | go_big_quiet_step ((go_at_call 60; exact kw_call (HAD.out _))) | quiet_step ((go_at_call 60; exact kw_call (HAD.out _)))))
        refine wpQuiet_nil ?_
        rintro w7 ⟨W, e⟩
        have hk7 : Kp w6 w7 := e ▸ W.2
        have x0 := hk7.cell x0
        have x1 := hk7.cell x1
        have x2 := hk7.cell x2
        have x3 := hk7.cell x3
        have HKW7 : Hid (Kp w w7) := Kp.trans HKW6.out hk7
        have HKR7 : Hid (Kp w3 w7) := Kp.trans HKR6.out hk7
        clear q0 q1 q2 q3 q4 q5 q6 q7 e W hk7 HKW6 HKR6 HAD g0 g1 g2 y0 k0 k1 k2
        by_cases hk0 : 0 < k
        · obtain ⟨gb', hgb, z0, z1, z2, z3⟩ := (HB3.out.kp HKR7.out).at_ (k - 1) (by omega)
          injection hgb with hgb
          injection hgb with hgb
          subst hgb
          have hap := HAP.out hk0
          have hbd1 := blk_bd (show k - 1 < (allTo s l r hs n).length by rw [HN.out]; omega)
          rcases hbk : blkAt (allTo s l r hs n) (k - 1) with ⟨u0, u1, u2, u3⟩
          simp only [hbk] at z0 z1 z2 z3 hap hbd1
          clear hbk HAP
          obtain ⟨k', rfl⟩ : ∃ k', k = k' + 1 := ⟨k - 1, by omega⟩
          rw [show k' + 1 - 1 = k' by omega] at z0 z1 z2 z3
          have c3 : (0 : Int) < ((k' + 1 : Nat) : Int) := by omega
          have c4 : ((k' + 1 : Nat) : Int) - 1 = (k' : Int) := by omega
          have c5 : (0 : Int) ≤ (k' : Int) := by omega
          have c6 : (k' : Int) < N := by omega
          have q0 := fun W : KW w7 => W.cell x0
          have q3 := fun W : KW w7 => W.cell z0
          have q4 := fun W : KW w7 => W.cell z3
          go_wp2
          refine wp_region_kw w7 Kp.self (by kernel_rfl) (by kernel_rfl) ?_
          repeat (any_goals (first | go_big_quiet_step (fail) | quiet_step (fail)))
          refine wpQuiet_nil ?_
          rintro w8 ⟨W, e⟩
          have HKR8 : Hid (Kp w3 w8) := Kp.trans HKR7.out (e ▸ W.2)
          clear q0 q3 q4 e W
          go_wp2
          go_roundw
          case rel => exact ⟨k' + 1 + 1, by omega, by go_num, HKR8⟩
          case measure => simp [intOf]; omega
        · obtain rfl : k = 0 := by omega
          go_wp2
          refine wp_region_kw w7 Kp.self (by kernel_rfl) (by kernel_rfl) ?_
          repeat (any_goals (first | go_big_quiet_step (fail) | quiet_step (fail)))
          refine wpQuiet_nil ?_
          rintro w8 ⟨W, e⟩
          have HKR8 : Hid (Kp w3 w8) := Kp.trans HKR7.out (e ▸ W.2)
          clear e W
          go_wp2
          go_roundw
          case rel => exact ⟨0 + 1, by omega, by go_num, HKR8⟩
          case measure => simp [intOf]; omega
      · obtain rfl : k = N := by omega
        have HTOT := fun W => Lib.hid (rtotal_any s l r W)
        obtain ⟨T, hT, hT2⟩ : ∃ T : Nat, (if gMay s l r then total s l else 0) = (T : Int) ∧ T ≤ 2000 := by
          split
          · rename_i hg
            have := may_bd hg
            refine ⟨(total s l).toNat, ?_, ?_⟩ <;> unfold total <;> omega
          · exact ⟨0, rfl, by omega⟩
        rw [hT] at HTOT
        clear hT
        have g0 := Kp.cell HKR.out g0
        have g1 := Kp.cell HKR.out g1
        have g2 := Kp.cell HKR.out g2
        have HB3 := Lib.hid (HB3.out.kp HKR.out)
        have HK3 : Hid (Kp w wr) := Kp.trans HK3.out HKR.out
        clear HKR HE3
        generalize wr = w3 at *
        generalize k = N at *
        go_wp2
        go_loopw [10, 11] (fun q p wr => ∃ k a : Nat, k ≤ N ∧ a ≤ T ∧ q = .int .i64 k ∧ p = .int .i64 a ∧ Hid (Stands (allTo s l r hs n) k a) ∧ Hid (Kp w3 wr)) (fun _ p _ => 3000 - (intOf p).toNat)
        case atStart => exact ⟨0, 0, by omega, by omega, rfl, rfl, fun j hj => absurd hj (by omega), Kp.self⟩
        case round =>
          obtain ⟨k, a, hk, haT, rfl, rfl, HST, HKR⟩ := hrel
          have g0' := Kp.cell HKR.out g0
          have g1' := Kp.cell HKR.out g1
          have g2' := Kp.cell HKR.out g2
          go_wp2_with fail
          refine (HTOT _).out.mono ?_
          rintro e w4 ⟨rfl, hk4⟩
          have HK4 : Hid (Kp w3 w4) := Kp.trans HKR.out hk4
          clear hk4 g0' g1' g2' HKR
          by_cases haT2 : a < T
          · have c1 : (a : Int) < T := by omega
            go_wp2
            go_loopw [10] (fun q wr => ∃ k : Nat, k ≤ N ∧ q = .int .i64 k ∧ Hid (Stands (allTo s l r hs n) k a) ∧ Hid (Kp w3 wr)) (fun q _ => N - (intOf q).toNat)
            case atStart => exact ⟨k, hk, rfl, HST, HK4⟩
            case round =>
              clear hk HST HK4
              obtain ⟨k, hk, rfl, HST, HKR⟩ := hrel
              have HST2 : Hid (Stands (allTo s l r hs n) k ((a + 1 : Nat) : Int)) := fun j hj => by have := HST.out j hj; omega
              have g0' := Kp.cell HKR.out g0
              have g1' := Kp.cell HKR.out g1
              have g2' := Kp.cell HKR.out g2
              by_cases hlt : k < N
              · have hltB : k < (allTo s l r hs n).length := by rw [HN.out]; exact hlt
                obtain ⟨gb, rfl, x0, x1, x2, x3⟩ := (HB3.out.kp HKR.out).at_ k hlt
                have hbd := blk_bd hltB
                have hww := fun v (h : WithinP (yL s l r hs n) a v) hk => within_want h HST.out hk
                have HST3 : Hid ((blkAt (allTo s l r hs n) k).1 + (blkAt (allTo s l r hs n) k).2.2.2 ≤ a → Stands (allTo s l r hs n) (k + 1) a) := fun h j hj => by
                  by_cases h' : j = k
                  · subst h'; exact h
                  · exact HST.out j (by omega)
                rcases hbk : blkAt (allTo s l r hs n) k with ⟨t0, t1, t2, t3⟩
                simp only [hbk] at x0 x1 x2 x3 hbd hww HST3
                clear hbk
                have d1 : (0 : Int) ≤ k := by omega
                have d2 : (k : Int) < N := by omega
                have q0 := fun W : KW wr => W.cell x0
                have q3 := fun W : KW wr => W.cell x3
                by_cases hge : (a : Int) ≥ t0 + t3
                · have HST4 := Lib.hid (HST3.out hge)
                  clear hww HST3
                  go_wp2
                  refine wp_region_kw wr Kp.self (by kernel_rfl) (by kernel_rfl) ?_
                  repeat (any_goals (first | go_big_quiet_step (fail) | quiet_step (fail)))
                  refine wpQuiet_nil ?_
                  rintro w8 ⟨W, e⟩
                  have HKR8 : Hid (Kp w3 w8) := Kp.trans HKR.out (e ▸ W.2)
                  clear q0 q3 e W
                  go_wp2
                  go_roundw
                  case rel => exact ⟨k + 1, by omega, by go_num, HST4, HKR8⟩
                  case measure => simp [intOf]; omega
                · have HWW := Lib.hid (fun v h => hww v h (fun _ => by omega))
                  clear hww HST3
                  go_wp2
                  refine wp_region_kw wr Kp.self (by kernel_rfl) (by kernel_rfl) ?_
                  repeat (any_goals (first | go_big_quiet_step (fail) | quiet_step (fail)))
                  refine wpQuiet_nil ?_
                  rintro w9 ⟨W, e⟩
                  have hk9 : Kp wr w9 := e ▸ W.2
                  have HKQ : Hid (Kp w3 w9) := Kp.trans HKR.out hk9
                  have x0 := hk9.cell x0
                  have g0' := hk9.cell g0'
                  have g1' := hk9.cell g1'
                  have g2' := hk9.cell g2'
                  clear q0 q3 e W hk9 HKR x1 x2 x3
                  by_cases hle : (a : Int) ≥ t0
                  · have HWT : Hid (∀ v, WithinP (yL s l r hs n) a v → t0 = v) := fun v h => ((HWW.out v h).1 hltB hle).symm
                    by_cases h3 : (a : Int) % 3 = 0
                    · have e3 : ((a : Int) % 3 == 0) = true := by simp [h3]
                      clear h3
                      go_wp2_with fail
                      refine (within_call s l r A n c hs a _ (HR.out.kp (Kp.trans HK3.out HKQ.out)) hc HC.out).mono ?_
                      rintro e w10 ⟨v, rfl, hv, hk10⟩
                      obtain rfl := HWT.out v hv
                      have HKQ2 : Hid (Kp w3 w10) := Kp.trans HKQ.out hk10
                      clear hk10 hv
                      go_wp2
                      go_roundw
                      case rel => exact ⟨k, a + 1, by omega, by omega, by go_num, by go_num, HST2, HKQ2⟩
                      case measure => simp [intOf]; omega
                    · have e3 : ((a : Int) % 3 == 0) = false := by simp [h3]
                      clear h3
                      go_wp2
                      go_roundw
                      case rel => exact ⟨k, a + 1, by omega, by omega, by go_num, by go_num, HST2, HKQ⟩
                      case measure => simp [intOf]; omega
                  · have HWT : Hid (∀ v, WithinP (yL s l r hs n) a v → -1 = v) := fun v h => ((HWW.out v h).2 (fun h' => hle h'.2)).symm
                    by_cases h3 : (a : Int) % 3 = 0
                    · have e3 : ((a : Int) % 3 == 0) = true := by simp [h3]
                      clear h3
                      go_wp2_with fail
                      refine (within_call s l r A n c hs a _ (HR.out.kp (Kp.trans HK3.out HKQ.out)) hc HC.out).mono ?_
                      rintro e w10 ⟨v, rfl, hv, hk10⟩
                      obtain rfl := HWT.out v hv
                      have HKQ2 : Hid (Kp w3 w10) := Kp.trans HKQ.out hk10
                      clear hk10 hv
                      go_wp2
                      go_roundw
                      case rel => exact ⟨k, a + 1, by omega, by omega, by go_num, by go_num, HST2, HKQ2⟩
                      case measure => simp [intOf]; omega
                    · have e3 : ((a : Int) % 3 == 0) = false := by simp [h3]
                      clear h3
                      go_wp2
                      go_roundw
                      case rel => exact ⟨k, a + 1, by omega, by omega, by go_num, by go_num, HST2, HKQ⟩
                      case measure => simp [intOf]; omega
              · obtain rfl : k = N := by omega
                have HWT : Hid (∀ v, WithinP (yL s l r hs n) a v → -1 = v) := fun v h => ((within_want h HST.out (fun h' => absurd h' (by rw [HN.out]; omega))).2 (fun h' => absurd h'.1 (by rw [HN.out]; omega))).symm
                go_wp2
                refine wp_region_kw wr Kp.self (by kernel_rfl) (by kernel_rfl) ?_
                repeat (any_goals (first | go_big_quiet_step (fail) | quiet_step (fail)))
                refine wpQuiet_nil ?_
                rintro w9 ⟨W, e⟩
                have hk9 : Kp wr w9 := e ▸ W.2
                have HKQ : Hid (Kp w3 w9) := Kp.trans HKR.out hk9
                have g0' := hk9.cell g0'
                have g1' := hk9.cell g1'
                have g2' := hk9.cell g2'
                clear e W hk9 HKR
                by_cases h3 : (a : Int) % 3 = 0
                · have e3 : ((a : Int) % 3 == 0) = true := by simp [h3]
                  clear h3
                  go_wp2_with fail
                  refine (within_call s l r A n c hs a _ (HR.out.kp (Kp.trans HK3.out HKQ.out)) hc HC.out).mono ?_
                  rintro e w10 ⟨v, rfl, hv, hk10⟩
                  obtain rfl := HWT.out v hv
                  have HKQ2 : Hid (Kp w3 w10) := Kp.trans HKQ.out hk10
                  clear hk10 hv
                  go_wp2
                  go_roundw
                  case rel => exact ⟨k, a + 1, by omega, by omega, by go_num, by go_num, HST2, HKQ2⟩
                  case measure => simp [intOf]; omega
                · have e3 : ((a : Int) % 3 == 0) = false := by simp [h3]
                  clear h3
                  go_wp2
                  go_roundw
                  case rel => exact ⟨k, a + 1, by omega, by omega, by go_num, by go_num, HST2, HKQ⟩
                  case measure => simp [intOf]; omega
          · have c1 : ¬ (a : Int) < T := by omega
            have g0' := Kp.cell HK4.out g0
            have g1' := Kp.cell HK4.out g1
            have g2' := Kp.cell HK4.out g2
            go_wp2_with fail
            refine (within_call s l r A n c hs (-1) _ (HR.out.kp (Kp.trans HK3.out HK4.out)) hc HC.out).mono ?_
            rintro e w5 ⟨v, rfl, hv, hk5⟩
            obtain rfl := within_neg hv
            go_wp2
            go_ret
            exact ⟨rfl, Kp.trans HK3.out (Kp.trans HK4.out hk5)⟩
end Go.Proofs.Ytpmbjlmplfejgaa
