/- The law AddrSpots, as a walk. -/
import Derived.Test.YtpmbjlmplfejgaaAddrK
namespace Go.Proofs.Ytpmbjlmplfejgaa
open Go.RowKit
set_option linter.unusedVariables false
set_option linter.unusedSimpArgs false

def WantP (bs : List Blk) (i x : Int) (k : Nat) (v : Int) : Prop := (v = -1 ∧ ∀ j, j < k → ¬ MatchB (blkAt bs j) i x) ∨ ∃ j, j < k ∧ MatchB (blkAt bs j) i x ∧ v = (blkAt bs j).1
theorem WantP.addr {s l r : Int} {hs : List Hd} {n k : Nat} {i x v : Int} (hn : hs.length = n) (hk : (allTo s l r hs n).length = k) (h : WantP (allTo s l r hs n) i x k v) : addrV s l r hs i x = v := by
  rcases h with ⟨rfl, h⟩ | ⟨j, hj, hm, rfl⟩
  · refine addr_none hn fun b hb => ?_
    obtain ⟨j, hj, rfl⟩ := mem_blkAt hb
    exact h j (by omega)
  · exact addr_match (blkAt_mem (by omega)) hm

set_option maxHeartbeats 4000000 in
set_option maxRecDepth 100000 in
theorem law_AddrSpots (s l r : Int) (A : Option Addr) (n c : Nat) (hs : List Hd) (a i x : Int) (w : World) (hr : RdH w A n hs) (hc : n ≤ c) (hcm : c ≤ maxLen) (ha : a < 9223372036854775808) :
    Calls Try.prog 15 #[geo s l r, .slice A n c, .int .i64 a, .int .i64 i, .int .i64 x] w fun e w' => e = .returned (.bool true) ∧ Kp w w' := by
  have HR := Lib.hid hr
  have HC := Lib.hid hcm
  have HL : Hid (hs.length = n) := hr.1
  clear hr hcm
  go_enter Try.func15, Try.ntmps15
  go_wp2_with fail
  refine (alive11 _).mono ?_
  rintro e w1 ⟨rfl, hk⟩
  obtain ⟨g0, g1, g2⟩ := box3 hk
  have HK1 : Hid (Kp w w1) := (Kp.self.alloc _).trans hk
  clear hk
  by_cases hn : (n : Int) > 40
  · go_wp2
    go_ret
    exact ⟨rfl, HK1.out⟩
  · go_wp2_with fail
    refine (rall_any s l r A n c hs _ (HR.out.kp HK1.out) (by omega)).mono ?_
    rintro e w2 ⟨v, rfl, hown, hk2⟩
    obtain ⟨B, d, rfl, hrb⟩ := own_rdB hown
    have hlen := allTo_len s l r hs n
    generalize hN : (allTo s l r hs n).length = N at *
    have g0 := hk2.cell g0
    have g1 := hk2.cell g1
    have g2 := hk2.cell g2
    have HK2 : Hid (Kp w w2) := HK1.out.trans hk2
    have HB2 := Lib.hid hrb
    have HN := Lib.hid hN
    clear hk2 hown hrb HK1 hN
    go_wp2_with fail
    refine (spot_any s l r A n c hs a _ (HR.out.kp HK2.out) hc HC.out ha).mono ?_
    cases ho : spotV s l r hs a
    · rw [spotR_none]
      rintro e w3 ⟨rfl, hk3⟩
      dsimp only [spt]
      have HO := Lib.hid ho
      obtain ⟨p0, p1, p2⟩ := box3 (Kp.self (w := w3.alloc (.cells #[.int .i64 0, .int .i64 0, .int .i64 0] 78)))
      have hkb : Kp w2 (w3.alloc (.cells #[.int .i64 0, .int .i64 0, .int .i64 0] 78)) := hk3.alloc _
      have g0 := hkb.cell g0
      have g1 := hkb.cell g1
      have g2 := hkb.cell g2
      have HK3 : Hid (Kp w (w3.alloc (.cells #[.int .i64 0, .int .i64 0, .int .i64 0] 78))) := HK2.out.trans hkb
      have HB3 := Lib.hid (HB2.out.kp hkb)
      clear hkb hk3 HK2 HB2 ho
      go_wp2_with fail
      generalize w3.alloc (.cells #[.int .i64 0, .int .i64 0, .int .i64 0] 78) = w4 at *
      generalize w3.heap.size = gs at *
      refine (find_any B N d _ a _ HB3.out).mono ?_
      rintro e w5 ⟨k, rfl, hf, hk5⟩
      rcases spot_find HL.out hf with ⟨rfl, _⟩ | ⟨j, _, _, h⟩
      rotate_left
      · rw [HO.out] at h
        cases h
      have g0 := hk5.cell g0
      have g1 := hk5.cell g1
      have g2 := hk5.cell g2
      have p0 := hk5.cell p0
      have p1 := hk5.cell p1
      have p2 := hk5.cell p2
      have HK5 : Hid (Kp w w5) := HK3.out.trans hk5
      have HB5 := Lib.hid (HB3.out.kp hk5)
      clear hk5 HK3 HB3 hf HO
      have HW : Hid (∀ W : KW w5, Calls Try.prog 58 #[geo s l r, .slice A n c, .int .i64 i] W.1 fun e w' => e = .returned (.bool (wholeV s l r hs i)) ∧ Kp W.1 w') := fun W => whole_any s l r A n c hs i _ (HR.out.kp (HK5.out.trans W.2)) hc HC.out
      have HW2 : Hid (∀ W : KW w5, Calls Try.prog 59 #[geo s l r, .slice A n c, .int .i64 i] W.1 fun e w' => e = .returned (.bool (wholeV s l r hs i)) ∧ Kp W.1 w') := fun W => rwhole_any s l r A n c hs i _ (HR.out.kp (HK5.out.trans W.2))
      generalize wholeV s l r hs i = wb at *
      go_wp2
      have q0 := fun W : KW w5 => W.cell g0
      have q1 := fun W : KW w5 => W.cell g1
      have q2 := fun W : KW w5 => W.cell g2
      have r0 := fun W : KW w5 => W.cell p0
      have r1 := fun W : KW w5 => W.cell p1
      have r2 := fun W : KW w5 => W.cell p2
      refine wp_region_kw w5 Kp.self (by kernel_rfl) (by kernel_rfl) ?_
      repeat (any_goals (first | go_big_quiet_step ((first | (go_at_call 58; exact kw_call (HW.out _)) | (go_at_call 59; exact kw_call (HW2.out _)))) | quiet_step ((first | (go_at_call 58; exact kw_call (HW.out _)) | (go_at_call 59; exact kw_call (HW2.out _))))))
      refine wpQuiet_nil ?_
      rintro w6 ⟨W, e⟩
      have hk6 : Kp w5 w6 := e ▸ W.2
      have g0 := hk6.cell g0
      have g1 := hk6.cell g1
      have g2 := hk6.cell g2
      have HK6 : Hid (Kp w w6) := HK5.out.trans hk6
      have HB6 := Lib.hid (HB5.out.kp hk6)
      clear q0 q1 q2 r0 r1 r2
      clear e W hk6 HK5 HB5 HW HW2
      go_wp2
      go_loopw [15, 16] (fun v q wr => ∃ (k : Nat) (u : Int), k ≤ N ∧ q = .int .i64 k ∧ v = .int .i64 u ∧ Hid (WantP (allTo s l r hs n) i x k u) ∧ Hid (Kp w6 wr)) (fun _ q _ => N - (intOf q).toNat)
      case atStart => exact ⟨0, -1, by omega, rfl, rfl, .inl ⟨rfl, fun j hj => absurd hj (by omega)⟩, Kp.self⟩
      case round =>
        obtain ⟨k, u', hk, rfl, rfl, HWT, HKR⟩ := hrel
        by_cases hlt : k < N
        · obtain ⟨gb', hgb, x0, x1, x2, x3⟩ := (HB6.out.kp HKR.out).at_ k hlt
          subst hgb
          have c1 : (0 : Int) ≤ k := by omega
          have c2 : (k : Int) < N := by omega
          by_cases m1 : (blkAt (allTo s l r hs n) k).2.1 = i
          · by_cases m2 : (blkAt (allTo s l r hs n) k).2.2.1 = x
            · have e1 : ((blkAt (allTo s l r hs n) k).2.1 == i) = true := by simp [m1]
              have e2 : ((blkAt (allTo s l r hs n) k).2.2.1 == x) = true := by simp [m2]
              have HW3 : Hid (WantP (allTo s l r hs n) i x (k + 1) (blkAt (allTo s l r hs n) k).1) := .inr ⟨k, by omega, ⟨m1, m2⟩, rfl⟩
              generalize (blkAt (allTo s l r hs n) k).1 = t0 at *
              generalize (blkAt (allTo s l r hs n) k).2.1 = t1 at *
              generalize (blkAt (allTo s l r hs n) k).2.2.1 = t2 at *
              clear m1 m2
              go_wp2
              go_roundw
              case rel => exact ⟨k + 1, _, by omega, by go_num, rfl, HW3, HKR⟩
              case measure => simp [intOf]; omega
            · have e1 : ((blkAt (allTo s l r hs n) k).2.1 == i) = true := by simp [m1]
              have e2 : ((blkAt (allTo s l r hs n) k).2.2.1 == x) = false := by simp [m2]
              have HW3 : Hid (WantP (allTo s l r hs n) i x (k + 1) u') := by
                rcases HWT.out with ⟨h1, h2⟩ | ⟨j, h1, h2, h3⟩
                · refine .inl ⟨h1, fun j hj => ?_⟩
                  by_cases h : j = k
                  · subst h; exact fun h => m2 h.2
                  · exact h2 j (by omega)
                · exact .inr ⟨j, by omega, h2, h3⟩
              generalize (blkAt (allTo s l r hs n) k).2.1 = t1 at *
              generalize (blkAt (allTo s l r hs n) k).2.2.1 = t2 at *
              clear m1 m2
              go_wp2
              go_roundw
              case rel => exact ⟨k + 1, u', by omega, by go_num, rfl, HW3, HKR⟩
              case measure => simp [intOf]; omega
          · have e1 : ((blkAt (allTo s l r hs n) k).2.1 == i) = false := by simp [m1]
            have HW3 : Hid (WantP (allTo s l r hs n) i x (k + 1) u') := by
              rcases HWT.out with ⟨h1, h2⟩ | ⟨j, h1, h2, h3⟩
              · refine .inl ⟨h1, fun j hj => ?_⟩
                by_cases h : j = k
                · subst h; exact fun h => m1 h.1
                · exact h2 j (by omega)
              · exact .inr ⟨j, by omega, h2, h3⟩
            generalize (blkAt (allTo s l r hs n) k).2.1 = t1 at *
            clear m1
            go_wp2
            go_roundw
            case rel => exact ⟨k + 1, u', by omega, by go_num, rfl, HW3, HKR⟩
            case measure => simp [intOf]; omega
        · obtain rfl : k = N := by omega
          have HA := Lib.hid (HWT.out.addr HL.out HN.out)
          have g0 := Kp.cell HKR.out g0
          have g1 := Kp.cell HKR.out g1
          have g2 := Kp.cell HKR.out g2
          have HK7 : Hid (Kp w wr) := HK6.out.trans HKR.out
          go_wp2_with fail
          refine (addr_any s l r A n c hs i x _ (HR.out.kp HK7.out) hc HC.out).mono ?_
          rw [HA.out]
          rintro e w8 ⟨rfl, hk8⟩
          go_wp2
          go_ret
          exact ⟨ret_bool (by simp), HK7.out.trans hk8⟩
    · rename_i p
      obtain ⟨u, y, z⟩ := p
      rw [spotR_some]
      rintro e w3 ⟨rfl, hk3⟩
      dsimp only [spt]
      have HO := Lib.hid ho
      obtain ⟨p0, p1, p2⟩ := box3 (Kp.self (w := w3.alloc (.cells #[.int .i64 u, .int .i64 y, .int .i64 z] 78)))
      have hkb : Kp w2 (w3.alloc (.cells #[.int .i64 u, .int .i64 y, .int .i64 z] 78)) := hk3.alloc _
      have g0 := hkb.cell g0
      have g1 := hkb.cell g1
      have g2 := hkb.cell g2
      have HK3 : Hid (Kp w (w3.alloc (.cells #[.int .i64 u, .int .i64 y, .int .i64 z] 78))) := HK2.out.trans hkb
      have HB3 := Lib.hid (HB2.out.kp hkb)
      clear hkb hk3 HK2 HB2 ho
      go_wp2_with fail
      generalize w3.alloc (.cells #[.int .i64 u, .int .i64 y, .int .i64 z] 78) = w4 at *
      generalize w3.heap.size = gs at *
      refine (find_any B N d _ a _ HB3.out).mono ?_
      rintro e w5 ⟨k, rfl, hf, hk5⟩
      rcases spot_find HL.out hf with ⟨_, h⟩ | ⟨j, rfl, hj, h⟩
      · rw [HO.out] at h
        cases h
      have hj : j < N := by rw [← HN.out]; exact hj
      rw [HO.out] at h
      have h : (u, y, z) = (blkAt (allTo s l r hs n) j).2 := by injection h
      have g0 := hk5.cell g0
      have g1 := hk5.cell g1
      have g2 := hk5.cell g2
      have p0 := hk5.cell p0
      have p1 := hk5.cell p1
      have p2 := hk5.cell p2
      have HK5 : Hid (Kp w w5) := HK3.out.trans hk5
      have HB5 := Lib.hid (HB3.out.kp hk5)
      clear hk5 HK3 HB3 hf HO
      have HW : Hid (∀ W : KW w5, Calls Try.prog 58 #[geo s l r, .slice A n c, .int .i64 i] W.1 fun e w' => e = .returned (.bool (wholeV s l r hs i)) ∧ Kp W.1 w') := fun W => whole_any s l r A n c hs i _ (HR.out.kp (HK5.out.trans W.2)) hc HC.out
      have HW2 : Hid (∀ W : KW w5, Calls Try.prog 59 #[geo s l r, .slice A n c, .int .i64 i] W.1 fun e w' => e = .returned (.bool (wholeV s l r hs i)) ∧ Kp W.1 w') := fun W => rwhole_any s l r A n c hs i _ (HR.out.kp (HK5.out.trans W.2))
      generalize wholeV s l r hs i = wb at *
      obtain ⟨gb, rfl, x0, x1, x2, x3⟩ := HB5.out.at_ j hj
      have b1 : (0 : Int) ≤ j := by omega
      have b2 : (j : Int) < N := by omega
      rw [← h] at x1 x2 x3
      go_wp2
      have q0 := fun W : KW w5 => W.cell g0
      have q1 := fun W : KW w5 => W.cell g1
      have q2 := fun W : KW w5 => W.cell g2
      have r0 := fun W : KW w5 => W.cell p0
      have r1 := fun W : KW w5 => W.cell p1
      have r2 := fun W : KW w5 => W.cell p2
      have y1 := fun W : KW w5 => W.cell x1
      have y2 := fun W : KW w5 => W.cell x2
      have y3 := fun W : KW w5 => W.cell x3
      clear x0 x1 x2 x3 h
      refine wp_region_kw w5 Kp.self (by kernel_rfl) (by kernel_rfl) ?_
      repeat (any_goals (first | go_big_quiet_step ((first | (go_at_call 58; exact kw_call (HW.out _)) | (go_at_call 59; exact kw_call (HW2.out _)))) | quiet_step ((first | (go_at_call 58; exact kw_call (HW.out _)) | (go_at_call 59; exact kw_call (HW2.out _))))))
      refine wpQuiet_nil ?_
      rintro w6 ⟨W, e⟩
      have hk6 : Kp w5 w6 := e ▸ W.2
      have g0 := hk6.cell g0
      have g1 := hk6.cell g1
      have g2 := hk6.cell g2
      have HK6 : Hid (Kp w w6) := HK5.out.trans hk6
      have HB6 := Lib.hid (HB5.out.kp hk6)
      clear q0 q1 q2 r0 r1 r2 y1 y2 y3
      clear e W hk6 HK5 HB5 HW HW2
      go_wp2
      go_loopw [15, 16] (fun v q wr => ∃ (k : Nat) (u : Int), k ≤ N ∧ q = .int .i64 k ∧ v = .int .i64 u ∧ Hid (WantP (allTo s l r hs n) i x k u) ∧ Hid (Kp w6 wr)) (fun _ q _ => N - (intOf q).toNat)
      case atStart => exact ⟨0, -1, by omega, rfl, rfl, .inl ⟨rfl, fun j hj => absurd hj (by omega)⟩, Kp.self⟩
      case round =>
        obtain ⟨k, u', hk, rfl, rfl, HWT, HKR⟩ := hrel
        by_cases hlt : k < N
        · obtain ⟨gb', hgb, x0, x1, x2, x3⟩ := (HB6.out.kp HKR.out).at_ k hlt
          injection hgb with hgb
          injection hgb with hgb
          subst hgb
          have c1 : (0 : Int) ≤ k := by omega
          have c2 : (k : Int) < N := by omega
          by_cases m1 : (blkAt (allTo s l r hs n) k).2.1 = i
          · by_cases m2 : (blkAt (allTo s l r hs n) k).2.2.1 = x
            · have e1 : ((blkAt (allTo s l r hs n) k).2.1 == i) = true := by simp [m1]
              have e2 : ((blkAt (allTo s l r hs n) k).2.2.1 == x) = true := by simp [m2]
              have HW3 : Hid (WantP (allTo s l r hs n) i x (k + 1) (blkAt (allTo s l r hs n) k).1) := .inr ⟨k, by omega, ⟨m1, m2⟩, rfl⟩
              generalize (blkAt (allTo s l r hs n) k).1 = t0 at *
              generalize (blkAt (allTo s l r hs n) k).2.1 = t1 at *
              generalize (blkAt (allTo s l r hs n) k).2.2.1 = t2 at *
              clear m1 m2
              go_wp2
              go_roundw
              case rel => exact ⟨k + 1, _, by omega, by go_num, rfl, HW3, HKR⟩
              case measure => simp [intOf]; omega
            · have e1 : ((blkAt (allTo s l r hs n) k).2.1 == i) = true := by simp [m1]
              have e2 : ((blkAt (allTo s l r hs n) k).2.2.1 == x) = false := by simp [m2]
              have HW3 : Hid (WantP (allTo s l r hs n) i x (k + 1) u') := by
                rcases HWT.out with ⟨h1, h2⟩ | ⟨j, h1, h2, h3⟩
                · refine .inl ⟨h1, fun j hj => ?_⟩
                  by_cases h : j = k
                  · subst h; exact fun h => m2 h.2
                  · exact h2 j (by omega)
                · exact .inr ⟨j, by omega, h2, h3⟩
              generalize (blkAt (allTo s l r hs n) k).2.1 = t1 at *
              generalize (blkAt (allTo s l r hs n) k).2.2.1 = t2 at *
              clear m1 m2
              go_wp2
              go_roundw
              case rel => exact ⟨k + 1, u', by omega, by go_num, rfl, HW3, HKR⟩
              case measure => simp [intOf]; omega
          · have e1 : ((blkAt (allTo s l r hs n) k).2.1 == i) = false := by simp [m1]
            have HW3 : Hid (WantP (allTo s l r hs n) i x (k + 1) u') := by
              rcases HWT.out with ⟨h1, h2⟩ | ⟨j, h1, h2, h3⟩
              · refine .inl ⟨h1, fun j hj => ?_⟩
                by_cases h : j = k
                · subst h; exact fun h => m1 h.1
                · exact h2 j (by omega)
              · exact .inr ⟨j, by omega, h2, h3⟩
            generalize (blkAt (allTo s l r hs n) k).2.1 = t1 at *
            clear m1
            go_wp2
            go_roundw
            case rel => exact ⟨k + 1, u', by omega, by go_num, rfl, HW3, HKR⟩
            case measure => simp [intOf]; omega
        · obtain rfl : k = N := by omega
          have HA := Lib.hid (HWT.out.addr HL.out HN.out)
          have g0 := Kp.cell HKR.out g0
          have g1 := Kp.cell HKR.out g1
          have g2 := Kp.cell HKR.out g2
          have HK7 : Hid (Kp w wr) := HK6.out.trans HKR.out
          go_wp2_with fail
          refine (addr_any s l r A n c hs i x _ (HR.out.kp HK7.out) hc HC.out).mono ?_
          rw [HA.out]
          rintro e w8 ⟨rfl, hk8⟩
          go_wp2
          go_ret
          exact ⟨ret_bool (by simp), HK7.out.trans hk8⟩
end Go.Proofs.Ytpmbjlmplfejgaa
