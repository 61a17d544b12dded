/- image.each: a word of each head; image.Maps. -/
import Derived.Test.YtpmbjlmplfejgaaImaI
namespace Go.Proofs.Ytpmbjlmplfejgaa
open Go.RowKit
set_option linter.unusedVariables false
set_option linter.unusedSimpArgs false

def headAt (L k : Nat) : Nat := 16 + 40 * L + 8 * k
def eachTo (L : Nat) (xs : List Int) (off k : Nat) : List Int := (List.range k).map fun i => xs[headAt L i + off]?.getD 0
theorem eachTo_succ (L : Nat) (xs : List Int) (off k : Nat) : eachTo L xs off (k + 1) = eachTo L xs off k ++ [xs[headAt L k + off]?.getD 0] := by simp [eachTo, List.range_succ]
theorem eachTo_len (L : Nat) (xs : List Int) (off k : Nat) : (eachTo L xs off k).length = k := by simp [eachTo]
theorem headV_at {s r : Int} {L k : Nat} (hg : gMay s L r = true) (hk : (k : Int) < s) : headV s L r k = headAt L k := by
  unfold headV headAt
  rw [if_pos ⟨hg, by omega, hk⟩]
  omega

set_option maxHeartbeats 1000000 in
set_option maxRecDepth 100000 in
theorem each1_any (s r : Int) (L k off bw bg bo : Nat) (A : Option Addr) (n c : Nat) (xs : List Int) (w : World) (hg : gMay s L r = true) (hk : (k : Int) < s) (hn : headAt L k + off < n) (hr : RdI w .u64 A n xs)
    (h1 : w.cell? ⟨bw, 0, none⟩ = some (.slice A n c)) (h2 : GBox w bg s L r) (h3 : w.cell? ⟨bo, 0, none⟩ = some (.int .i64 off)) :
    Calls Try.prog 167 #[.int .i64 k, .pointer (some ⟨bw, 0, none⟩), .pointer (some ⟨bg, 0, none⟩), .pointer (some ⟨bo, 0, none⟩)] w fun e w' => e = .returned (.int .u64 (xs[headAt L k + off]?.getD 0)) ∧ Kp w w' := by
  have hmx := hr.2.1
  obtain ⟨ad, rfl, c0⟩ := hr.at_ _ hn
  obtain ⟨g0, g1, g2⟩ := h2
  have HV : Hid (∀ W : KW w, Calls Try.prog 168 #[geo s L r, .int .i64 k] W.1 fun e w' => e = .returned (.int .i64 (headAt L k)) ∧ Kp W.1 w') := fun W => by
    have h := headV_any s L r k W.1
    rw [headV_at hg hk] at h
    exact h
  generalize xs[headAt L k + off]?.getD 0 = x at *
  generalize headAt L k = p at *
  clear hr hg hk
  have b1 : (0 : Int) ≤ (p : Int) + off := by omega
  have b2 : (p : Int) + off < n := by omega
  have e1 := IntWalk.i64_in ((p : Int) + off) ⟨by omega, by omega⟩
  have e2 : ((p : Int) + off).toNat = p + off := by omega
  have q0 := fun W : KW w => W.cell g0
  have q1 := fun W : KW w => W.cell g1
  have q2 := fun W : KW w => W.cell g2
  have q3 := fun W : KW w => W.cell h1
  have q4 := fun W : KW w => W.cell h3
  have q5 := fun W : KW w => W.cell c0
  go_enter Try.func167, Try.ntmps167
  go_wp2
  refine wp_region_kw w Kp.self (by kernel_rfl) (by kernel_rfl) ?_
  repeat (any_goals (first | go_big_quiet_step ((go_at_call 168; exact kw_call (HV.out _))) | quiet_step ((go_at_call 168; exact kw_call (HV.out _)))))
  refine wpQuiet_nil ?_
  rintro w7 ⟨W, e⟩
  have hk7 : Kp w w7 := e ▸ W.2
  go_wp2
  go_ret
  exact ⟨rfl, hk7⟩

set_option maxHeartbeats 1000000 in
set_option maxRecDepth 100000 in
theorem each_any (s r : Int) (L off : Nat) (A : Option Addr) (n c : Nat) (xs : List Int) (w : World) (hg : gMay s L r = true) (hn : (n : Int) = total s L) (ho : off ≤ 1) (hr : RdI w .u64 A n xs) :
    Calls Try.prog 127 #[geo s L r, .slice A n c, .int .i64 off] w fun e w' => ∃ v, e = .returned v ∧ OwnI w' w.heap.size 28 .u64 v (eachTo L xs off s.toNat) ∧ Kp w w' := by
  have hm := may_bd hg
  obtain ⟨N, rfl⟩ : ∃ N : Nat, s = N := ⟨s.toNat, by omega⟩
  have HLE : Hid (∀ k, k < N → headAt L k + off < n) := fun k hk => by unfold headAt; unfold total at hn; omega
  have HG := Lib.hid hg
  have HR := Lib.hid hr
  rw [Int.toNat_natCast]
  clear hr hg hn
  have hb := box3 (Kp.self (w := w.alloc (.cells #[.int .i64 N, .int .i64 L, .int .i64 r] 38)))
  have HK0 : Hid (Kp w (((w.alloc (.cells #[.int .i64 N, .int .i64 L, .int .i64 r] 38)).alloc (.cells #[.slice A n c] 27)).alloc (.cells #[.int .i64 off] 3))) := ((Kp.self.alloc _).alloc _).alloc _
  have hkk : Kp (w.alloc (.cells #[.int .i64 N, .int .i64 L, .int .i64 r] 38)) (((w.alloc (.cells #[.int .i64 N, .int .i64 L, .int .i64 r] 38)).alloc (.cells #[.slice A n c] 27)).alloc (.cells #[.int .i64 off] 3)) := (Kp.self.alloc _).alloc _
  have HGB : Hid (GBox (((w.alloc (.cells #[.int .i64 N, .int .i64 L, .int .i64 r] 38)).alloc (.cells #[.slice A n c] 27)).alloc (.cells #[.int .i64 off] 3)) w.heap.size N L r) := by
    have h0 := box3 (Kp.self (w := w.alloc (.cells #[.int .i64 N, .int .i64 L, .int .i64 r] 38)))
    exact ⟨hkk.cell h0.1, hkk.cell h0.2.1, hkk.cell h0.2.2⟩
  have HWB : Hid ((((w.alloc (.cells #[.int .i64 N, .int .i64 L, .int .i64 r] 38)).alloc (.cells #[.slice A n c] 27)).alloc (.cells #[.int .i64 off] 3)).cell? ⟨w.heap.size + 1, 0, none⟩ = some (.slice A n c)) := by
    have h := box_cell (w := w.alloc (.cells #[.int .i64 N, .int .i64 L, .int .i64 r] 38)) (cs := #[.slice A n c]) (t := 27) (fr := (0, 0)) Kp.self 0 rfl
    rw [World.size_alloc] at h
    exact (Kp.self.alloc _).cell h
  have HOB : Hid ((((w.alloc (.cells #[.int .i64 N, .int .i64 L, .int .i64 r] 38)).alloc (.cells #[.slice A n c] 27)).alloc (.cells #[.int .i64 off] 3)).cell? ⟨w.heap.size + 1 + 1, 0, none⟩ = some (.int .i64 off)) := by
    have h := box_cell (w := (w.alloc (.cells #[.int .i64 N, .int .i64 L, .int .i64 r] 38)).alloc (.cells #[.slice A n c] 27)) (cs := #[.int .i64 off]) (t := 3) (fr := (0, 0)) Kp.self 0 rfl
    rw [World.size_alloc, World.size_alloc] at h
    exact h
  obtain ⟨g0, g1, g2⟩ := HGB.out
  clear hb hkk
  go_enter Try.func127, Try.ntmps127
  go_wp2
  generalize ((w.alloc (.cells #[.int .i64 N, .int .i64 L, .int .i64 r] 38)).alloc (.cells #[.slice A n c] 27)).alloc (.cells #[.int .i64 off] 3) = w1 at *
  clear g0 g1 g2
  have HS1 : Hid (w.heap.size ≤ w1.heap.size) := HK0.out.size
  go_loopw [8, 13] (fun v i wr => ∃ k : Nat, k ≤ N ∧ i = .int .i64 k ∧ Hid (OwnI wr w1.heap.size 28 .u64 v (eachTo L xs off k)) ∧ Hid (Kp w1 wr)) (fun _ i _ => N - (intOf i).toNat)
  case atStart => exact ⟨0, Nat.zero_le _, rfl, World.ownsRow_nil _ _ _ _, Kp.self⟩
  case round =>
    obtain ⟨k, hk, rfl, HO, HK⟩ := hrel
    by_cases hlt : k < N
    · have b1 : (0 : Int) ≤ k := by omega
      have b2 : (k : Int) < N := by omega
      have HE := Lib.hid (each1_any N r L k off (w.heap.size + 1) w.heap.size (w.heap.size + 1 + 1) A n c xs wr HG.out b2 (HLE.out k hlt) (HR.out.kp (HK0.out.trans HK.out)) (HK.out.cell HWB.out) (HGB.out.kp HK.out) (HK.out.cell HOB.out))
      have HSC : Hid (eachTo L xs off (k + 1) = eachTo L xs off k ++ [xs[headAt L k + off]?.getD 0]) := eachTo_succ _ _ _ _
      generalize xs[headAt L k + off]?.getD 0 = x at *
      go_wp2_with fail
      refine HE.out.mono ?_
      rintro e w2 ⟨rfl, hk2⟩
      have HO2 : Hid (OwnI w2 w1.heap.size 28 .u64 u8 (eachTo L xs off k)) := own_kp HO.out hk2
      have HK2 := Lib.hid (HK.out.trans hk2)
      clear hk2 HE HO HK
      go_wp2_with (at_builtin; refine app_num (w0 := w1) w1.heap.size rfl (.tmp 16) (.tmp 20) 27 28 .u64 8 rfl Try.underlying27 info28 (by decide) _ (eachTo L xs off k) x rfl rfl HO2.out HK2.out HK2.out.size (by rw [eachTo_len]; omega) ?_)
      intro v1 w3 hown hk3 _ _
      have HO3 : Hid (OwnI w3 w1.heap.size 28 .u64 v1 (eachTo L xs off (k + 1))) := by rw [HSC.out]; exact hown
      have HK3 : Hid (Kp w1 w3) := hk3
      clear hown hk3 HO2 HK2
      go_wp2
      go_roundw
      case rel => exact ⟨k + 1, by omega, by go_num, HO3, HK3⟩
      case measure => simp [intOf]; omega
    · obtain rfl : k = N := by omega
      go_wp2
      go_ret
      exact ⟨_, rfl, own_lower HO.out HS1.out, HK0.out.trans HK.out⟩

/-- What image.Maps tells. -/
def mapsL (s l r : Int) (n : Nat) (xs : List Int) : List Int := if fitsV s l r n then eachTo l.toNat xs 1 s.toNat else []
set_option maxHeartbeats 1000000 in
set_option maxRecDepth 100000 in
theorem maps_any (s l r : Int) (A : Option Addr) (n c : Nat) (xs : List Int) (w : World) (hr : RdI w .u64 A n xs) :
    Calls Try.prog 75 #[geo s l r, .slice A n c] w fun e w' => ∃ v, e = .returned v ∧ OwnI w' w.heap.size 28 .u64 v (mapsL s l r n xs) ∧ Kp w w' := by
  have HF := fun W => Lib.hid (ifits_any s l r A n c W)
  have HR := Lib.hid hr
  clear hr
  unfold mapsL
  cases hf : fitsV s l r n
  · simp only [hf] at HF
    go_enter Try.func75, Try.ntmps75
    go_wp2_with fail
    refine (HF _).out.mono ?_
    rintro e w1 ⟨rfl, hk⟩
    have HK : Hid (Kp w w1) := (Kp.self.alloc _).trans hk
    clear hk
    go_wp2
    go_ret
    exact ⟨_, rfl, World.ownsRow_nil _ _ _ _, HK.out⟩
  · have hg : gMay s l r = true ∧ (n : Int) = total s l := by simpa [fitsV] using hf
    have hm := may_bd hg.1
    obtain ⟨L, rfl⟩ : ∃ L : Nat, l = L := ⟨l.toNat, by omega⟩
    have HE := fun W h => Lib.hid (each_any s r L 1 A n c xs W hg.1 hg.2 (by omega) h)
    simp only [hf] at HF
    clear hg
    go_enter Try.func75, Try.ntmps75
    go_wp2_with fail
    refine (HF _).out.mono ?_
    rintro e w1 ⟨rfl, hk⟩
    obtain ⟨g0, g1, g2⟩ := box3 hk
    have HK : Hid (Kp w w1) := (Kp.self.alloc _).trans hk
    clear hk
    go_wp2_with fail
    refine (HE _ (HR.out.kp HK.out)).out.mono ?_
    rintro e w2 ⟨v, rfl, hown, hk⟩
    have HO : Hid (OwnI w2 w.heap.size 28 .u64 v (eachTo L xs 1 s.toNat)) := own_lower hown HK.out.size
    have HK2 := Lib.hid (HK.out.trans hk)
    clear hown hk
    go_wp2
    go_ret
    exact ⟨_, rfl, by simpa using HO.out, HK2.out⟩
end Go.Proofs.Ytpmbjlmplfejgaa
