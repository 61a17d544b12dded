/- The reference's superblock of words: all geometries are tried; and the statement SuperReads as a walk. -/
import Derived.Test.YtpmbjlmplfejgaaSupS
namespace Go.Proofs.Ytpmbjlmplfejgaa
open Go.RowKit
set_option linter.unusedVariables false
set_option linter.unusedSimpArgs false

def ltG (k c n k' c' n' : Int) : Prop := k < k' ∨ (k = k' ∧ (c < c' ∨ (c = c' ∧ n < n')))
/-- No geometry before these is the words'. -/
def NoG (xs : List Int) (m : Nat) (k' c' n' : Int) : Prop := ∀ k c n, Valid xs m k c n → ¬ ltG k c n k' c' n'
theorem NoG.start (xs : List Int) (m : Nat) : NoG xs m 1 1 1 := fun k c n h hl => by have := may_bd h.1; unfold ltG at hl; omega
theorem NoG.stepN {xs : List Int} {m : Nat} {k c n : Int} (h : NoG xs m k c n) (h1 : ¬ Valid xs m k c n) : NoG xs m k c (n + 1) := fun k' c' n' hm hl => by
  by_cases he : ltG k' c' n' k c n
  · exact h _ _ _ hm he
  · obtain ⟨rfl, rfl, rfl⟩ : k' = k ∧ c' = c ∧ n' = n := by unfold ltG at *; omega
    exact h1 hm
theorem NoG.stepC {xs : List Int} {m : Nat} {k c : Int} (h : NoG xs m k c 9) : NoG xs m k (c + 1) 1 := fun k' c' n' hm hl => h _ _ _ hm (by have := may_bd hm.1; unfold ltG at *; omega)
theorem NoG.stepK {xs : List Int} {m : Nat} {k : Int} (h : NoG xs m k 5 1) : NoG xs m (k + 1) 1 1 := fun k' c' n' hm hl => h _ _ _ hm (by have := may_bd hm.1; unfold ltG at *; omega)
theorem NoG.all {xs : List Int} {m : Nat} (h : NoG xs m 17 1 1) : ∀ k c n, ¬ Valid xs m k c n := fun k c n hm => h _ _ _ hm (by have := may_bd hm.1; unfold ltG; omega)
def ResBoxG (w wr : World) : Prop := Kp (w.alloc (.cells #[.int .i64 0, .int .i64 0, .int .i64 0] 38)) wr

set_option maxHeartbeats 2000000 in
set_option maxRecDepth 100000 in
theorem rsread_any (A : Option Addr) (m cp : Nat) (xs : List Int) (w : World) (hr : RdI w .u64 A m xs) :
    Calls Try.prog 49 #[.slice A m cp] w fun e w' => (∃ h ok, e = .returned (.tuple #[geov h, .bool ok]) ∧ RdSup xs m h ok) ∧ Kp w w' := by
  have HR := Lib.hid hr
  have hmx := hr.2.1
  clear hr
  go_enter Try.func49, Try.ntmps49
  go_wp2
  go_loopw [4] (fun i wr => ∃ k : Nat, 1 ≤ k ∧ k ≤ 17 ∧ i = .int .i64 k ∧ Hid (NoG xs m k 1 1) ∧ Hid (ResBoxG w wr)) (fun i _ => 17 - (intOf i).toNat)
  case atStart => exact ⟨1, by omega, by omega, rfl, NoG.start xs m, Kp.self⟩
  case round =>
    obtain ⟨k, hk1, hk, rfl, HN, HK⟩ := hrel
    by_cases hlt : k < 17
    · have b1 : (k : Int) ≤ 16 := by omega
      go_wp2
      go_loopw [5] (fun i wr => ∃ c : Nat, 1 ≤ c ∧ c ≤ 5 ∧ i = .int .i64 c ∧ Hid (NoG xs m k c 1) ∧ Hid (ResBoxG w wr)) (fun i _ => 5 - (intOf i).toNat)
      case atStart => exact ⟨1, by omega, by omega, rfl, HN, HK⟩
      case round =>
        clear HN HK
        rename_i wr0
        obtain ⟨c, hc1, hc, rfl, HN, HK⟩ := hrel
        by_cases hlc : c < 5
        · have b2 : (c : Int) ≤ 4 := by omega
          go_wp2
          go_loopw [6] (fun i wr => ∃ n : Nat, 1 ≤ n ∧ n ≤ 9 ∧ i = .int .i64 n ∧ Hid (NoG xs m k c n) ∧ Hid (ResBoxG w wr)) (fun i _ => 9 - (intOf i).toNat)
          case atStart => exact ⟨1, by omega, by omega, rfl, HN, HK⟩
          case round =>
            clear HN HK
            rename_i wr1
            obtain ⟨n, hn1, hn, rfl, HN, HK⟩ := hrel
            by_cases hln : n < 9
            · have b3 : (n : Int) ≤ 8 := by omega
              have hg : gMay k c n = true := by simp [gMay]; omega
              have HG := Lib.hid hg
              clear hg
              go_wp2_with fail
              refine (rtotal_any k c n _).mono ?_
              rw [HG.out, if_pos rfl]
              rintro e w4 ⟨rfl, hk4⟩
              obtain ⟨q0, q1, q2⟩ := box3 hk4
              have HK4 : Hid (ResBoxG w w4) := Kp.trans HK.out (Kp.trans (Kp.self.alloc _) hk4)
              clear hk4
              by_cases ht : (m : Int) = total k c
              · have htb : ((m : Int) == total k c) = true := by simp [ht]
                have HT : Hid ((m : Int) = total k c) := ht
                clear ht
                generalize htt : total k c = tot at *
                go_wp2_with fail
                refine (rwrite_any k c n _).mono ?_
                rintro e w5 ⟨v, rfl, hown, hk5⟩
                obtain ⟨B, d, hve, hrb⟩ := own_rd hown
                have hl8 := superW_len8 HG.out
                rw [hl8] at hve hrb
                subst hve
                have p0 := hk5.cell q0
                have p1 := hk5.cell q1
                have p2 := hk5.cell q2
                have HK5 : Hid (ResBoxG w w5) := Kp.trans HK4.out hk5
                have HRB := Lib.hid hrb
                have HL8 := Lib.hid hl8
                clear hk5 q0 q1 q2 hown hrb hl8
                have hm8 : 8 ≤ m := by have := HT.out; have := may_bd HG.out; unfold total at htt; omega
                have HM : Hid (8 ≤ m) := hm8
                clear hm8
                go_wp2
                go_loopw [9, 10] (fun a i wr => ∃ j : Nat, ∃ b : Bool, j ≤ 8 ∧ i = .int .i64 j ∧ a = .bool b ∧ Hid (b = true ↔ ∀ t, t < j → (superW k c n)[t]?.getD 0 = xs[t]?.getD 0) ∧ Hid (Kp w5 wr)) (fun _ i _ => 8 - (intOf i).toNat)
                case atStart => exact ⟨0, true, by omega, rfl, rfl, ⟨fun _ t ht => absurd ht (by omega), fun _ => rfl⟩, Kp.self⟩
                case round =>
                  rename_i wr2
                  obtain ⟨j, b, hj, rfl, rfl, HE, HK6⟩ := hrel
                  by_cases hlj : j < 8
                  · have c1 : (0 : Int) ≤ j := by omega
                    have c2 : (j : Int) < 8 := by omega
                    cases b
                    · have HE2 : Hid (false = true ↔ ∀ t, t < j + 1 → (superW k c n)[t]?.getD 0 = xs[t]?.getD 0) := ⟨fun h => (by cases h), fun h => HE.out.2 (fun t ht => h t (by omega))⟩
                      go_wp2
                      refine wp_region_kw wr Kp.self (by kernel_rfl) (by kernel_rfl) ?_
                      repeat (any_goals (first | go_big_quiet_step (fail) | quiet_step (fail)))
                      refine wpQuiet_nil ?_
                      rintro w6 ⟨W, e⟩
                      have HK7 : Hid (Kp w5 w6) := Kp.trans HK6.out (e ▸ W.2)
                      clear e W
                      go_wp2
                      go_roundw
                      case rel => exact ⟨j + 1, false, by omega, by go_num, rfl, HE2, HK7⟩
                      case measure => simp [intOf]; omega
                    · obtain ⟨ad, rfl, hc8⟩ := (HRB.out.kp HK6.out).at_ j hlj
                      obtain ⟨ad', rfl, hc8'⟩ := (HR.out.kp (Kp.trans (Kp.self.alloc _) (Kp.trans HK5.out HK6.out))).at_ j (by have := HM.out; omega)
                      have c3 : (j : Int) < m := by have := HM.out; omega
                      have l1 := fun W : KW wr => W.cell hc8
                      have l2 := fun W : KW wr => W.cell hc8'
                      have HE2 : Hid (((superW k c n)[j]?.getD 0 == xs[j]?.getD 0) = true ↔ ∀ t, t < j + 1 → (superW k c n)[t]?.getD 0 = xs[t]?.getD 0) := by
                        constructor
                        · intro h t ht
                          by_cases e : t = j
                          · subst e; simpa using h
                          · exact HE.out.1 rfl t (by omega)
                        · intro h
                          simpa using h j (by omega)
                      generalize (superW k c n)[j]?.getD 0 = y1 at *
                      generalize xs[j]?.getD 0 = x1 at *
                      go_wp2
                      refine wp_region_kw wr Kp.self (by kernel_rfl) (by kernel_rfl) ?_
                      repeat (any_goals (first | go_big_quiet_step (fail) | quiet_step (fail)))
                      refine wpQuiet_nil ?_
                      rintro w6 ⟨W, e⟩
                      have HK7 : Hid (Kp w5 w6) := Kp.trans HK6.out (e ▸ W.2)
                      clear e W l1 l2 hc8 hc8'
                      go_wp2
                      go_roundw
                      case rel => exact ⟨j + 1, _, by omega, by go_num, rfl, HE2, HK7⟩
                      case measure => simp [intOf]; omega
                  · obtain rfl : j = 8 := by omega
                    have HR5 : Hid (ResBoxG w wr) := Kp.trans HK5.out HK6.out
                    cases b
                    · have HV : Hid (¬ Valid xs m k c n) := fun hv => by
                        have := HE.out.2 (fun t ht => by rw [← hv.2.2.1, take_getD _ _ _ ht])
                        cases this
                      go_wp2
                      go_roundw
                      case rel => exact ⟨n + 1, by omega, by omega, by go_num, by have := HN.out.stepN HV.out; exact this, HR5⟩
                      case measure => simp [intOf]; omega
                    · have HV : Hid (Valid xs m k c n) := by
                        refine ⟨HG.out, HM.out, ?_, HT.out.trans htt.symm⟩
                        refine list_eq_upto (k := 0) (n := 8) ?_ HL8.out (fun t ht => ?_)
                        · rw [List.length_take]; have := HR.out.1; have := HM.out; omega
                        · rw [take_getD _ _ _ ht]; exact (HE.out.1 rfl t ht).symm
                      have z0 := Kp.cell HK6.out p0
                      have z1 := Kp.cell HK6.out p1
                      have z2 := Kp.cell HK6.out p2
                      obtain ⟨r0, r1, r2⟩ := box3 HR5.out
                      obtain ⟨f0, f1, f2⟩ := boxf3 HR5.out
                      clear p0 p1 p2
                      go_wp2
                      obtain ⟨c0, c1, c2, hk4⟩ := set3 (.int .i64 k) (.int .i64 c) (.int .i64 n) (Kp.trans (Kp.self.alloc _) HR5.out) (Nat.le_refl _) r0 r1 r2
                      generalize ((wr.setCell ⟨w.heap.size, 0, none⟩ (.int .i64 k)).setCell ⟨w.heap.size, 1, none⟩ (.int .i64 c)).setCell ⟨w.heap.size, 2, none⟩ (.int .i64 n) = w6 at *
                      exact bodyPost_ret (v := .tuple #[geo k c n, .bool true]) (by simp [results, Try.results49, go_sem, c0, c1, c2]) rfl ⟨⟨(k : Int), (c : Int), (n : Int), .inr ⟨rfl, .inl ⟨rfl, HV.out⟩⟩⟩, hk4⟩
              · have htb : ((m : Int) == total k c) = false := by simp [ht]
                have HT : Hid ((m : Int) ≠ total k c) := ht
                clear ht
                generalize htt : total k c = tot at *
                go_wp2
                go_roundw
                case rel => exact ⟨n + 1, by omega, by omega, by go_num, by have := HN.out.stepN (fun h => HT.out (h.2.2.2.trans htt)); exact this, HK4⟩
                case measure => simp [intOf]; omega
            · obtain rfl : n = 9 := by omega
              have HC : Hid (NoG xs m k ((c + 1 : Nat) : Int) 1) := by
                have h1 := HN.out.stepC
                have h2 : NoG xs m k ((c + 1 : Nat) : Int) 1 := by simpa using h1
                exact h2
              go_wp2
              go_roundw
              case rel => exact ⟨c + 1, by omega, by omega, by go_num, HC, HK⟩
              case measure => simp [intOf]; omega
        · obtain rfl : c = 5 := by omega
          have HC : Hid (NoG xs m ((k + 1 : Nat) : Int) 1 1) := by
            have h1 := HN.out.stepK
            have h2 : NoG xs m ((k + 1 : Nat) : Int) 1 1 := by simpa using h1
            exact h2
          go_wp2
          go_roundw
          case rel => exact ⟨k + 1, by omega, by omega, by go_num, HC, HK⟩
          case measure => simp [intOf]; omega
    · obtain rfl : k = 17 := by omega
      obtain ⟨r0, r1, r2⟩ := box3 HK.out
      obtain ⟨f0, f1, f2⟩ := boxf3 HK.out
      go_wp2
      obtain ⟨c0, c1, c2, hk4⟩ := set3 (.int .i64 0) (.int .i64 0) (.int .i64 0) (Kp.trans (Kp.self.alloc _) HK.out) (Nat.le_refl _) r0 r1 r2
      generalize ((wr.setCell ⟨w.heap.size, 0, none⟩ (.int .i64 0)).setCell ⟨w.heap.size, 1, none⟩ (.int .i64 0)).setCell ⟨w.heap.size, 2, none⟩ (.int .i64 0) = w5 at *
      exact bodyPost_ret (v := .tuple #[geo 0 0 0, .bool false]) (by simp [results, Try.results49, go_sem, c0, c1, c2]) rfl ⟨⟨(0, 0, 0), false, rfl, .inr ⟨rfl, rfl, NoG.all HN.out⟩⟩, hk4⟩

set_option maxHeartbeats 1000000 in
set_option maxRecDepth 100000 in
theorem law_SuperReads (A : Option Addr) (n c : Nat) (xs : List Int) (w : World) (hr : RdI w .u64 A n xs) (hx : InR 18446744073709551616 xs) (hc : n ≤ c) (hcm : c ≤ maxLen) :
    Calls Try.prog 12 #[.slice A n c] w fun e w' => e = .returned (.bool true) ∧ Kp w w' := by
  have HR := Lib.hid hr
  have HX := Lib.hid hx
  clear hr hx
  go_enter Try.func12, Try.ntmps12
  go_wp2_with fail
  refine (alive07 _).mono ?_
  rintro e w1 ⟨rfl, hk⟩
  have HK1 := Lib.hid hk
  clear hk
  by_cases hn : n ≤ 2000
  · have hd : (n : Int) ≤ 2000 := by omega
    go_wp2_with fail
    refine (sread_any A n c xs _ (HR.out.kp HK1.out) HX.out hc hcm).mono ?_
    rintro e w2 ⟨⟨⟨s, l, r⟩, ok, rfl, hrd⟩, hk2⟩
    have HK2 := Lib.hid (Kp.trans HK1.out hk2)
    have HS := Lib.hid hrd
    clear hk2 hrd
    dsimp only [geov]
    go_wp2_with fail
    refine (rsread_any A n c xs _ (HR.out.kp (HK2.out.alloc _))).mono ?_
    rintro e w3 ⟨⟨⟨s', l', r'⟩, ok', rfl, hrd⟩, hk3⟩
    obtain ⟨he, rfl⟩ := RdSup.uniq HS.out hrd
    simp only [Prod.mk.injEq] at he
    obtain ⟨rfl, rfl, rfl⟩ := he
    obtain ⟨a0, a1, a2⟩ := box3 hk3
    have b0 : ∀ o, (w3.alloc o).cell? ⟨w2.heap.size, 0, none⟩ = some (.int .i64 s) := fun o => (Kp.self.alloc o).cell a0
    have b1 : ∀ o, (w3.alloc o).cell? ⟨w2.heap.size, 1, none⟩ = some (.int .i64 l) := fun o => (Kp.self.alloc o).cell a1
    have b2 : ∀ o, (w3.alloc o).cell? ⟨w2.heap.size, 2, none⟩ = some (.int .i64 r) := fun o => (Kp.self.alloc o).cell a2
    have HK3 := Lib.hid (Kp.trans HK2.out (Kp.trans (Kp.self.alloc _) hk3))
    clear hk3 hrd a0 a1 a2
    have re1 : supErr true = 0 := rfl
    have re0 : supErr false = 11 := rfl
    dsimp only [geov]
    cases ok
    · rw [re0]
      go_wp2
      go_ret
      exact ⟨rfl, HK3.out.alloc _⟩
    · rw [re1]
      go_wp2
      go_ret
      exact ⟨rfl, HK3.out.alloc _⟩
  · have hd : ¬ (n : Int) ≤ 2000 := by omega
    go_wp2
    go_ret
    exact ⟨rfl, HK1.out⟩
theorem law_SuperReads' {A : Option Addr} {n c : Nat} {zs : List Int} {W : World} (h : IsRow .u64 W A n c zs) :
    Calls Try.prog 12 #[.slice A n c] W fun e w' => e = .returned (.bool true) ∧ Kp W w' := by
  have h1 := rd_row h
  refine law_SuperReads A n c _ W h1.1 (inR_u64 h1.2.2) h1.2.1 ?_
  rcases h with ⟨rfl, rfl, rfl, rfl⟩ | ⟨x, rfl, h1, h2, _⟩
  · exact Nat.zero_le _
  · exact h2
end Go.Proofs.Ytpmbjlmplfejgaa
