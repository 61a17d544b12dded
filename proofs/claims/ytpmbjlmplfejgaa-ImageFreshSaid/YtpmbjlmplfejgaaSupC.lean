/- Superblocks are read: slices.Equal, super.all, and the four questions. -/
import Derived.Test.YtpmbjlmplfejgaaSupB
import Derived.Test.YtpmbjlmplfejgaaLibB
namespace Go.Proofs.Ytpmbjlmplfejgaa
open Go.RowKit
set_option linter.unusedVariables false
set_option linter.unusedSimpArgs false

/-- The superblock of a geometry stands at the head of these words, which are as many as it wants. -/
def Valid (xs : List Int) (n : Nat) (s l r : Int) : Prop := gMay s l r = true ∧ 8 ≤ n ∧ xs.take 8 = superW s l r ∧ (n : Int) = total s l
theorem superW_eq {s l r : Int} (h : gMay s l r = true) : superW s l r = superL s l r ++ [sealI (superL s l r)] := by unfold superW; rw [if_pos h]
theorem superW_len8 {s l r : Int} (h : gMay s l r = true) : (superW s l r).length = 8 := by rw [superW_eq h]; simp [superL]
theorem Valid.word2 {xs : List Int} {n : Nat} {s l r : Int} (h : Valid xs n s l r) : xs[2]?.getD 0 = s + 65536 * l + 4294967296 * r := by
  obtain ⟨h1, h2, h3, h4⟩ := h
  rw [← take_getD xs 8 2 (by decide), h3, superW_eq h1]
  simp [superL]
theorem Valid.uniq {xs : List Int} {n : Nat} {s l r s' l' r' : Int} (h : Valid xs n s l r) (k : Valid xs n s' l' r') : s = s' ∧ l = l' ∧ r = r' := by
  have h2 := h.word2
  have k2 := k.word2
  have := may_bd h.1
  have := may_bd k.1
  omega
/-- What words are read as. -/
def RdSup (xs : List Int) (n : Nat) (g : Int × Int × Int) (ok : Bool) : Prop := (ok = true ∧ Valid xs n g.1 g.2.1 g.2.2) ∨ (ok = false ∧ g = (0, 0, 0) ∧ ∀ s l r, ¬ Valid xs n s l r)
theorem RdSup.uniq {xs : List Int} {n : Nat} {h h' : Int × Int × Int} {ok ok' : Bool} (a : RdSup xs n h ok) (b : RdSup xs n h' ok') : h = h' ∧ ok = ok' := by
  obtain ⟨k, c, m⟩ := h
  obtain ⟨k', c', m'⟩ := h'
  rcases a with ⟨rfl, a1⟩ | ⟨rfl, a1, a2⟩ <;> rcases b with ⟨rfl, b1⟩ | ⟨rfl, b1, b2⟩
  · obtain ⟨rfl, rfl, rfl⟩ := a1.uniq b1
    exact ⟨rfl, rfl⟩
  · exact absurd a1 (b2 _ _ _)
  · exact absurd b1 (a2 _ _ _)
  · rw [a1, b1]; exact ⟨rfl, rfl⟩
abbrev geov (g : Int × Int × Int) : Value := geo g.1 g.2.1 g.2.2
def supErr (ok : Bool) : Int := if ok then 0 else 11

theorem list_eq_upto {xs ys : List Int} {k n : Nat} (hx : xs.length = n) (hy : ys.length = n) (h : ∀ j, j < n → xs[j]?.getD 0 = ys[j]?.getD 0) : xs = ys := by
  apply List.ext_getElem?
  intro j
  by_cases hj : j < n
  · have := h j hj
    rw [List.getElem?_eq_getElem (by omega), List.getElem?_eq_getElem (by omega)] at this ⊢
    simpa using this
  · rw [List.getElem?_eq_none (by omega), List.getElem?_eq_none (by omega)]

set_option maxHeartbeats 1000000 in
set_option maxRecDepth 100000 in
theorem equal_any (A B : Option Addr) (n m c d : Nat) (xs ys : List Int) (w : World) (hx : RdI w .u64 A n xs) (hy : RdI w .u64 B m ys) :
    Calls Try.prog 107 #[.slice A n c, .slice B m d] w fun e w' => e = .returned (.bool (decide (xs = ys))) ∧ Kp w w' := by
  have HX := Lib.hid hx
  have HY := Lib.hid hy
  clear hx hy
  by_cases hnm : n = m
  · subst hnm
    have hn := HX.out.2.1
    go_enter Try.func107, Try.ntmps107
    go_wp2
    go_loopw [5, 13] (fun _ i wr => ∃ k : Nat, k ≤ n ∧ i = .int .i64 k ∧ Hid (Kp w wr) ∧ Hid (∀ j, j < k → xs[j]?.getD 0 = ys[j]?.getD 0)) (fun _ i _ => n - (intOf i).toNat)
    case atStart => exact ⟨0, by omega, rfl, Kp.self, fun j hj => absurd hj (by omega)⟩
    case round =>
      obtain ⟨k, hk, rfl, HK, HE⟩ := hrel
      by_cases hlt : k < n
      · obtain ⟨ad, rfl, hc⟩ := (HX.out.kp HK.out).at_ k hlt
        obtain ⟨ad', rfl, hc'⟩ := (HY.out.kp HK.out).at_ k hlt
        have q1 := fun W : KW wr => W.cell hc
        have q2 := fun W : KW wr => W.cell hc'
        have b1 : (0 : Int) ≤ k := by omega
        have b2 : (k : Int) < n := by omega
        go_wp2
        refine wp_region_kw wr Kp.self (by kernel_rfl) (by kernel_rfl) ?_
        repeat (any_goals (first | go_big_quiet_step (fail) | quiet_step (fail)))
        refine wpQuiet_nil ?_
        rintro w5 ⟨W, e⟩
        have hk5 : Kp wr w5 := e ▸ W.2
        clear e W q1 q2
        have HK5 : Hid (Kp w w5) := Kp.trans HK.out hk5
        clear hk5
        by_cases heq : xs[k]?.getD 0 = ys[k]?.getD 0
        · have HE2 : Hid (∀ j, j < k + 1 → xs[j]?.getD 0 = ys[j]?.getD 0) := fun j hj => by
            by_cases h : j = k
            · subst h; exact heq
            · exact HE.out j (by omega)
          have hb : (xs[k]?.getD 0 == ys[k]?.getD 0) = true := by simp [heq]
          generalize xs[k]?.getD 0 = x1 at *
          generalize ys[k]?.getD 0 = y1 at *
          clear heq
          go_wp2
          go_roundw
          case rel => exact ⟨k + 1, by omega, by go_num, HK5, HE2⟩
          case measure => simp [intOf]; omega
        · have HN : Hid (xs ≠ ys) := fun e => heq (by rw [e])
          have hb : (xs[k]?.getD 0 == ys[k]?.getD 0) = false := by simp [heq]
          generalize xs[k]?.getD 0 = x1 at *
          generalize ys[k]?.getD 0 = y1 at *
          clear heq
          go_wp2
          go_ret
          exact ⟨ret_bool (by simp [HN.out]), HK5.out⟩
      · obtain rfl : k = n := by omega
        have HQ : Hid (xs = ys) := list_eq_upto (k := 0) HX.out.1 HY.out.1 HE.out
        go_wp2
        go_ret
        exact ⟨ret_bool (by simp [HQ.out]), HK.out⟩
  · have hne : xs ≠ ys := fun e => hnm (by rw [← HX.out.1, ← HY.out.1, e])
    have HN := Lib.hid hne
    have hb : ((n : Int) == (m : Int)) = false := by simp; omega
    go_enter Try.func107, Try.ntmps107
    go_wp2
    go_ret
    exact ⟨ret_bool (by simp [HN.out]), Kp.self⟩

theorem call158 (args : Array Value) (w : World) : (callFunc 158 args).run Try.prog w = .ok (.enter 158 args) w := by kernel_rfl
theorem call109 (args : Array Value) (w : World) : (callFunc 109 args).run Try.prog w = .ok (.enter 109 args) w := by kernel_rfl
theorem call110 (args : Array Value) (w : World) : (callFunc 110 args).run Try.prog w = .ok (.enter 110 args) w := by kernel_rfl
theorem call111 (args : Array Value) (w : World) : (callFunc 111 args).run Try.prog w = .ok (.enter 111 args) w := by kernel_rfl
theorem call112 (args : Array Value) (w : World) : (callFunc 112 args).run Try.prog w = .ok (.enter 112 args) w := by kernel_rfl

theorem not_any (fid : FuncId) (caps : Array Value) (P Q : World → Prop) (w : World) (hcall : ∀ (args : Array Value) (w : World), (callFunc fid args).run Try.prog w = .ok (.enter fid args) w)
    (h : Calls Try.prog fid caps w fun e w' => (e = .returned (.bool true) ∧ P w') ∨ (e = .returned (.bool false) ∧ Q w')) :
    Calls Try.prog 158 #[.func (.func fid) #[] caps] w fun e w' => (e = .returned (.bool false) ∧ P w') ∨ (e = .returned (.bool true) ∧ Q w') := by
  go_enter Try.func158, Try.ntmps158
  go_wp2_with fail
  refine h.mono ?_
  rintro e w' (⟨rfl, hp⟩ | ⟨rfl, hp⟩)
  · go_wp2
    go_ret
    exact .inl ⟨rfl, hp⟩
  · go_wp2
    go_ret
    exact .inr ⟨rfl, hp⟩
abbrev askV (fid : FuncId) (caps : Array Value) : Value := .func (.func fid) #[] caps

set_option maxHeartbeats 1000000 in
set_option maxRecDepth 100000 in
theorem index_any (ad : Addr) (n : Nat) (fid : Nat → FuncId) (caps : Nat → Array Value) (I : Nat → World → Prop) (F : World → Prop) (w : World) (hn : n ≤ 100)
    (hcall : ∀ j, j < n → ∀ (args : Array Value) (w : World), (callFunc (fid j) args).run Try.prog w = .ok (.enter (fid j) args) w)
    (hr : ∀ j k w', j < n → I k w' → w'.cell? (ad.add j) = some (askV (fid j) (caps j)))
    (h0 : I 0 w) (hI : ∀ j w', j < n → I j w' → Calls Try.prog (fid j) (caps j) w' fun e w'' => (e = .returned (.bool true) ∧ I (j + 1) w'') ∨ (e = .returned (.bool false) ∧ F w'')) :
    Calls Try.prog 184 #[.slice (some ad) n n, .func (.func 158) #[] #[]] w fun e w' => (e = .returned (.int .i64 (-1)) ∧ I n w') ∨ (∃ k : Nat, e = .returned (.int .i64 k) ∧ F w') := by
  have HC := Lib.hid hcall
  have HR := Lib.hid hr
  have H0 := Lib.hid h0
  have HI := Lib.hid hI
  have h158 := call158
  clear hcall hr h0 hI
  go_enter Try.func184, Try.ntmps184
  go_wp2
  go_loopw [5, 8] (fun _ i wr => ∃ k : Nat, k ≤ n ∧ i = .int .i64 k ∧ Hid (I k wr)) (fun _ i _ => n - (intOf i).toNat)
  case atStart => exact ⟨0, by omega, rfl, H0⟩
  case round =>
    obtain ⟨k, hk, rfl, HK⟩ := hrel
    by_cases hlt : k < n
    · have hc := HR.out k _ _ hlt HK.out
      have b1 : (0 : Int) ≤ k := by omega
      have b2 : (k : Int) < n := by omega
      go_wp2_with fail
      refine (not_any _ _ _ _ _ (HC.out k hlt) (HI.out k _ hlt HK.out)).mono ?_
      rintro e w' (⟨rfl, hp⟩ | ⟨rfl, hp⟩)
      · have HP := Lib.hid hp
        clear hp hc
        go_wp2
        go_roundw
        case rel => exact ⟨k + 1, by omega, by go_num, HP⟩
        case measure => simp [intOf]; omega
      · have HP := Lib.hid hp
        clear hp hc
        go_wp2
        go_ret
        exact .inr ⟨k, rfl, HP.out⟩
    · obtain rfl : k = n := by omega
      go_wp2
      go_ret
      exact .inl ⟨rfl, HK.out⟩

theorem all_any (ad : Addr) (n : Nat) (fid : Nat → FuncId) (caps : Nat → Array Value) (I : Nat → World → Prop) (F : World → Prop) (w : World) (hn : n ≤ 100)
    (hcall : ∀ j, j < n → ∀ (args : Array Value) (w : World), (callFunc (fid j) args).run Try.prog w = .ok (.enter (fid j) args) w)
    (hr : ∀ j k w', j < n → I k w' → w'.cell? (ad.add j) = some (askV (fid j) (caps j)))
    (h0 : I 0 w) (hI : ∀ j w', j < n → I j w' → Calls Try.prog (fid j) (caps j) w' fun e w'' => (e = .returned (.bool true) ∧ I (j + 1) w'') ∨ (e = .returned (.bool false) ∧ F w'')) :
    Calls Try.prog 108 #[.slice (some ad) n n] w fun e w' => (e = .returned (.bool true) ∧ I n w') ∨ (e = .returned (.bool false) ∧ F w') := by
  have H : Calls Try.prog 157 #[.slice (some ad) n n, .func (.func 158) #[] #[]] w fun e w' => (e = .returned (.bool false) ∧ I n w') ∨ (e = .returned (.bool true) ∧ F w') := by
    have HH := Lib.hid (index_any ad n fid caps I F w hn hcall hr h0 hI)
    clear hcall hr h0 hI
    go_enter Try.func157, Try.ntmps157
    go_wp2_with fail
    refine HH.out.mono ?_
    rintro e w' (⟨rfl, hp⟩ | ⟨k, rfl, hp⟩)
    · go_wp2
      go_ret
      exact .inl ⟨rfl, hp⟩
    · have b1 : (0 : Int) ≤ k := by omega
      go_wp2
      go_ret
      exact .inr ⟨ret_bool (by simp), hp⟩
  have HH := Lib.hid H
  clear hcall hr h0 hI H
  go_enter Try.func108, Try.ntmps108
  go_wp2_with fail
  refine HH.out.mono ?_
  rintro e w' (⟨rfl, hp⟩ | ⟨rfl, hp⟩)
  · go_wp2
    go_ret
    exact .inl ⟨rfl, hp⟩
  · go_wp2
    go_ret
    exact .inr ⟨rfl, hp⟩
end Go.Proofs.Ytpmbjlmplfejgaa
