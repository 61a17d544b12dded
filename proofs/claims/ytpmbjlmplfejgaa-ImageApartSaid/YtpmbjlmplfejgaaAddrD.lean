/- addr.Spot, addr.Addr. -/
import Derived.Test.YtpmbjlmplfejgaaAddrC
import Derived.Test.YtpmbjlmplfejgaaPartB
namespace Go.Proofs.Ytpmbjlmplfejgaa
open Go.RowKit
set_option linter.unusedVariables false
set_option linter.unusedSimpArgs false

theorem whole_parts {s l r : Int} {hs : List Hd} {i : Int} (h : wholeV s l r hs i = true) : rightV s l r hs = true ∧ 0 ≤ i ∧ i < s ∧ i.toNat < hs.length ∧ hOk (hdAt hs i.toNat) = true ∧
    (((hdAt hs i.toNat).1 = 1 ∧ (hdAt hs i.toNat).2.2 = 0 ∧ 0 ≤ (hdAt hs i.toNat).2.1 ∧ (hdAt hs i.toNat).2.1 ≤ 3) ∨ ((hdAt hs i.toNat).1 = 2 ∧ 1 ≤ (hdAt hs i.toNat).2.2 ∧ (hdAt hs i.toNat).2.2 ≤ 4 ∧ i + (hdAt hs i.toNat).2.2 ≤ s)) := by
  simp only [wholeV, Bool.and_eq_true, Bool.or_eq_true, decide_eq_true_eq] at h
  obtain ⟨h1, ⟨h2, h3⟩, h4⟩ := h
  obtain ⟨g1, g2, g3⟩ := right_all h1
  have hlt : i.toNat < hs.length := by omega
  have hok := g3 _ (hdAt_mem hlt)
  refine ⟨h1, h2, h3, hlt, hok, ?_⟩
  rcases h4 with h4 | ⟨h4, h5, _⟩
  · left
    have hk := hok
    unfold hOk at hk
    rw [h4, hMay1] at hk
    simp at hk
    exact ⟨h4, hk.2, hk.1.1, hk.1.2⟩
  · right
    have := hOk_large hok h4
    exact ⟨h4, this.1, this.2, h5⟩
/-- The shape of a whole span. -/
theorem shape_of {s l r : Int} {hs : List Hd} {i : Int} (h : wholeV s l r hs i = true) : ∃ many size : Nat, shapeV (hdAt hs i.toNat) = ((many : Int), (size : Int)) ∧ 0 < many ∧ 2 ≤ size ∧
    ((size ∣ 64 ∧ many * size = 64 ∧ size ≤ 16) ∨ (many = 1 ∧ (hdAt hs i.toNat).1 = 2 ∧ (size : Int) = (hdAt hs i.toNat).2.2 * 64 ∧ size ≤ 256 ∧ i * 64 + size ≤ s * 64)) := by
  obtain ⟨_, _, _, _, _, h⟩ := whole_parts h
  unfold shapeV
  rcases h with ⟨h1, h2, h3, h4⟩ | ⟨h1, h2, h3, h4⟩
  · rw [if_neg (by omega)]
    unfold blocksV
    rcases sizeV_of (hdAt hs i.toNat).2.1 with ⟨_, h⟩ | ⟨_, h⟩ | ⟨_, h⟩ | ⟨_, h⟩ | ⟨_, h⟩
    · rw [h]; exact ⟨32, 2, rfl, by omega, by omega, .inl ⟨by decide, by decide, by decide⟩⟩
    · rw [h]; exact ⟨16, 4, rfl, by omega, by omega, .inl ⟨by decide, by decide, by decide⟩⟩
    · rw [h]; exact ⟨8, 8, rfl, by omega, by omega, .inl ⟨by decide, by decide, by decide⟩⟩
    · rw [h]; exact ⟨4, 16, rfl, by omega, by omega, .inl ⟨by decide, by decide, by decide⟩⟩
    · omega
  · rw [if_pos h1]
    obtain ⟨m, hm⟩ := Int.eq_ofNat_of_zero_le (show 0 ≤ (hdAt hs i.toNat).2.2 by omega)
    rw [hm] at h2 h3 h4 ⊢
    exact ⟨1, m * 64, by simp, by omega, by omega, .inr ⟨rfl, h1, by simp, by omega, by omega⟩⟩

def addrV (s l r : Int) (hs : List Hd) (i x : Int) : Int :=
  if wholeV s l r hs i = true ∧ 0 ≤ x ∧ x < (shapeV (hdAt hs i.toNat)).1 then spanV s l r i + x * (shapeV (hdAt hs i.toNat)).2 else -1
set_option maxHeartbeats 2000000 in
set_option maxRecDepth 100000 in
theorem addr_any (s l r : Int) (A : Option Addr) (n c : Nat) (hs : List Hd) (i x : Int) (w : World) (hr : RdH w A n hs) (hc : n ≤ c) (hcm : c ≤ maxLen) :
    Calls Try.prog 60 #[geo s l r, .slice A n c, .int .i64 i, .int .i64 x] w fun e w' => e = .returned (.int .i64 (addrV s l r hs i x)) ∧ Kp w w' := by
  have HR := Lib.hid hr
  have HL : Hid (hs.length = n) := hr.1
  have HW := fun W => Lib.hid (fun h => whole_any s l r A n c hs i W h hc hcm)
  have HS := fun W => Lib.hid (spanV_any s l r i W)
  clear hr hcm hc
  cases hg : wholeV s l r hs i
  · have HV : Hid (addrV s l r hs i x = -1) := by unfold Hid addrV; rw [if_neg (by rw [hg]; simp)]
    rw [hg] at HW
    go_enter Try.func60, Try.ntmps60
    go_wp2_with fail
    refine ((HW _).out (HR.out.kp (Kp.self.alloc _))).mono ?_
    rintro e w1 ⟨rfl, hk1⟩
    go_wp2
    go_ret
    exact ⟨by rw [HV.out]; rfl, (Kp.self.alloc _).trans hk1⟩
  · obtain ⟨h1, h2, h3, h4, h5, h6⟩ := whole_parts hg
    obtain ⟨many, size, hsh, hm0, hz0, hcase⟩ := shape_of hg
    rw [hg] at HW
    obtain ⟨j, rfl⟩ := Int.eq_ofNat_of_zero_le h2
    have hjn : j < n := by rw [← HL.out]; simpa using h4
    obtain ⟨ad, rfl, _⟩ := HR.out.at_ j hjn
    have b1 : (0 : Int) ≤ j := by omega
    have b2 : (j : Int) < n := by omega
    have hs16 := may_bd (right_all h1).1
    have hsv : spanV s l r j = 16 + 40 * l + 8 * s + 64 * j := by unfold spanV; rw [if_pos ⟨(right_all h1).1, by omega, h3⟩]
    have hV : addrV s l r hs j x = if 0 ≤ x ∧ x < many then spanV s l r j + x * size else -1 := by
      unfold addrV
      rw [hg, hsh]
      simp
    rw [Int.toNat_natCast] at hsh h6 hcase
    have hmm : -1000 ≤ (hdAt hs j).2.2 ∧ (hdAt hs j).2.2 ≤ 1000 := by omega
    have HSH : Hid (∀ W, Calls Try.prog 117 #[hd (hdAt hs j).1 (hdAt hs j).2.1 (hdAt hs j).2.2] W fun e w' => e = .returned (.tuple #[.int .i64 many, .int .i64 size]) ∧ Kp W w') := fun W => by
      have := shape_any (hdAt hs j) W hmm
      rw [hsh] at this
      exact this
    have hsz : size ≤ 256 ∧ many ≤ 32 := by
      rcases hcase with ⟨_, h, h'⟩ | ⟨h, _, _, h', _⟩
      · refine ⟨by omega, ?_⟩
        have : many * 2 ≤ many * size := Nat.mul_le_mul_left _ hz0
        omega
      · exact ⟨by omega, by omega⟩
    have HC : Hid (∀ W, Kp w W → W.cell? (ad.add (j * 3)) = some (.int .i64 (hdAt hs j).1) ∧ W.cell? ⟨(ad.add (j * 3)).block, (ad.add (j * 3)).off + 1, none⟩ = some (.int .i64 (hdAt hs j).2.1) ∧ W.cell? ⟨(ad.add (j * 3)).block, (ad.add (j * 3)).off + 2, none⟩ = some (.int .i64 (hdAt hs j).2.2)) := fun W hk => by
      obtain ⟨ad', e, h⟩ := (HR.out.kp hk).at_ j hjn
      injection e with e
      subst e
      exact h
    clear hg h1 h4 h5 h6 hcase hsh hmm
    have HVV := Lib.hid hV
    clear hV
    go_enter Try.func60, Try.ntmps60
    go_wp2_with fail
    refine ((HW _).out (HR.out.kp (Kp.self.alloc _))).mono ?_
    rintro e w1 ⟨rfl, hk1⟩
    obtain ⟨g0, g1, g2⟩ := box3 hk1
    have HK1 : Hid (Kp w w1) := (Kp.self.alloc _).trans hk1
    obtain ⟨c0, c1, c2⟩ := HC.out w1 HK1.out
    clear hk1
    go_wp2_with fail
    refine (HSH.out _).mono ?_
    rintro e w2 ⟨rfl, hk2⟩
    have g0 := hk2.cell g0
    have g1 := hk2.cell g1
    have g2 := hk2.cell g2
    have HK2 : Hid (Kp w w2) := HK1.out.trans hk2
    clear hk2 c0 c1 c2
    by_cases hx : x < 0
    · have HV : Hid (addrV s l r hs j x = -1) := by unfold Hid; rw [HVV.out, if_neg (by omega)]
      go_wp2
      go_ret
      exact ⟨by rw [HV.out]; rfl, HK2.out⟩
    · by_cases hx2 : x ≥ many
      · have HV : Hid (addrV s l r hs j x = -1) := by unfold Hid; rw [HVV.out, if_neg (by omega)]
        go_wp2
        go_ret
        exact ⟨by rw [HV.out]; rfl, HK2.out⟩
      · obtain ⟨y, rfl⟩ := Int.eq_ofNat_of_zero_le (show 0 ≤ x by omega)
        have HV : Hid (addrV s l r hs j y = spanV s l r j + y * size) := by unfold Hid; rw [HVV.out, if_pos (by omega)]
        have hys : y * size ≤ 32 * 256 := Nat.mul_le_mul (by omega) hsz.1
        have hys' : (y : Int) * size = ((y * size : Nat) : Int) := by simp
        go_wp2_with fail
        refine (HS _).out.mono ?_
        rintro e w3 ⟨rfl, hk3⟩
        have HK3 : Hid (Kp w w3) := HK2.out.trans hk3
        clear hk3 g0 g1 g2
        rw [hsv] at HV ⊢
        generalize hq : y * size = q at *
        rw [hys'] at HV
        have HQ := Lib.hid hys'
        have hq2 : (y : Int) * size = q := hys'
        go_wp2
        go_ret
        exact ⟨by rw [HV.out]; rfl, HK3.out⟩

/-- Which block begins at an address. -/
def spotV (s l r : Int) (hs : List Hd) (a : Int) : Option (Int × Int × Int) :=
  if (whereV s l r a).1 = 4 ∧ wholeV s l r hs (whereV s l r a).2.1 = true ∧ (whereV s l r a).2.2 % (shapeV (hdAt hs (whereV s l r a).2.1.toNat)).2 = 0 then
    some ((whereV s l r a).2.1, (whereV s l r a).2.2 / (shapeV (hdAt hs (whereV s l r a).2.1.toNat)).2, (shapeV (hdAt hs (whereV s l r a).2.1.toNat)).2) else none
abbrev spt (p : Int × Int × Int) : Value := .agg #[.int .i64 p.1, .int .i64 p.2.1, .int .i64 p.2.2]
def spotR (o : Option (Int × Int × Int)) : Value := .tuple #[spt (o.getD (0, 0, 0)), .bool o.isSome]
theorem where4 {s l r a : Int} (h : (whereV s l r a).1 = 4) : ∃ p f : Nat, (whereV s l r a) = (4, (p : Int), (f : Int)) ∧ f < 64 ∧ (p : Int) < s := by
  unfold whereV at h ⊢
  by_cases h0 : gMay s l r = false ∨ a < 0
  · rw [if_pos h0] at h; cases h
  have hg : gMay s l r = true := by simpa using fun e => h0 (.inl e)
  have hm := may_bd hg
  rw [if_neg h0] at h ⊢
  by_cases h1 : a < 8
  · rw [if_pos h1] at h; cases h
  rw [if_neg h1] at h ⊢
  by_cases h2 : a < 8 + r
  · rw [if_pos h2] at h; cases h
  rw [if_neg h2] at h ⊢
  by_cases h3 : a < 16
  · rw [if_pos h3] at h; cases h
  rw [if_neg h3] at h ⊢
  by_cases h4 : a - 16 < 40 * l
  · rw [if_pos h4] at h; cases h
  rw [if_neg h4] at h ⊢
  by_cases h5 : a - 16 - 40 * l < 8 * s
  · rw [if_pos h5] at h; cases h
  rw [if_neg h5] at h ⊢
  by_cases h6 : a - 16 - 40 * l - 8 * s < 64 * s
  · rw [if_pos h6]
    exact ⟨((a - 16 - 40 * l - 8 * s) / 64).toNat, ((a - 16 - 40 * l - 8 * s) % 64).toNat, by rw [Int.toNat_of_nonneg (by omega), Int.toNat_of_nonneg (by omega)], by omega, by omega⟩
  · rw [if_neg h6] at h; cases h

set_option maxHeartbeats 2000000 in
set_option maxRecDepth 100000 in
theorem spot_any (s l r : Int) (A : Option Addr) (n c : Nat) (hs : List Hd) (a : Int) (w : World) (hr : RdH w A n hs) (hc : n ≤ c) (hcm : c ≤ maxLen) (ha : a < 9223372036854775808) :
    Calls Try.prog 56 #[geo s l r, .slice A n c, .int .i64 a] w fun e w' => e = .returned (spotR (spotV s l r hs a)) ∧ Kp w w' := by
  have HR := Lib.hid hr
  have HL : Hid (hs.length = n) := hr.1
  have HP := fun W => Lib.hid (where_any s l r a W ha)
  have HW := fun i W => Lib.hid (fun h => whole_any s l r A n c hs i W h hc hcm)
  clear hr hcm hc
  by_cases h4 : (whereV s l r a).1 = 4
  · obtain ⟨p, f, hw, hf, hps⟩ := where4 h4
    rw [hw] at HP
    cases hg : wholeV s l r hs p
    · have HV : Hid (spotV s l r hs a = none) := by unfold Hid spotV; rw [hw, if_neg (by simp only [hg]; simp)]
      have HWG := fun W => HW p W
      rw [hg] at HWG
      clear h4 hw hg HW
      go_enter Try.func56, Try.ntmps56
      go_wp2_with fail
      refine (HP _).out.mono ?_
      rintro e w1 ⟨rfl, hk1⟩
      obtain ⟨c0, c1, c2⟩ := box3 hk1
      obtain ⟨f0, f1, f2⟩ := boxf3 hk1
      obtain ⟨g0, g1, g2⟩ := box3 ((Kp.self.alloc _).trans hk1)
      rw [sq1] at c0 c1 c2 f0 f1 f2
      have HK1 : Hid (Kp w w1) := ((Kp.self.alloc _).alloc _).trans hk1
      clear hk1
      obtain ⟨p0, p1, p2⟩ := box3 (Kp.self (w := w1.alloc (.cells #[.int .i64 (4), .int .i64 (p), .int .i64 (f)] 97)))
      have hkb : Kp w1 (w1.alloc (.cells #[.int .i64 (4), .int .i64 (p), .int .i64 (f)] 97)) := Kp.self.alloc _
      have f0 := hkb.frozen_ c0 f0
      have f1 := hkb.frozen_ c1 f1
      have f2 := hkb.frozen_ c2 f2
      have c0 := hkb.cell c0
      have c1 := hkb.cell c1
      have c2 := hkb.cell c2
      have g0 := hkb.cell g0
      have g1 := hkb.cell g1
      have g2 := hkb.cell g2
      have HK2 : Hid (Kp w (w1.alloc (.cells #[.int .i64 (4), .int .i64 (p), .int .i64 (f)] 97))) := HK1.out.trans hkb
      clear hkb
      go_wp2_with fail
      generalize w1.alloc (.cells #[.int .i64 (4), .int .i64 (p), .int .i64 (f)] 97) = w2 at *
      generalize w1.heap.size = gb at *
      refine ((HWG _).out (HR.out.kp HK2.out)).mono ?_
      rintro e w3 ⟨rfl, hk3⟩
      have f0 := hk3.frozen_ c0 f0
      have f1 := hk3.frozen_ c1 f1
      have f2 := hk3.frozen_ c2 f2
      have c0 := hk3.cell c0
      have c1 := hk3.cell c1
      have c2 := hk3.cell c2
      have p0 := hk3.cell p0
      have p1 := hk3.cell p1
      have p2 := hk3.cell p2
      have HK3 : Hid (Kp w w3) := Kp.trans HK2.out hk3
      clear hk3
      go_wp2
      obtain ⟨k0, k1, k2, hk4⟩ := set3 (.int .i64 (0)) (.int .i64 (0)) (.int .i64 (0)) HK3.out (Nat.le_succ _) c0 c1 c2
      generalize ((w3.setCell ⟨w.heap.size + 1, 0, none⟩ (.int .i64 (0))).setCell ⟨w.heap.size + 1, 1, none⟩ (.int .i64 (0))).setCell ⟨w.heap.size + 1, 2, none⟩ (.int .i64 (0)) = w5 at *
      exact bodyPost_ret (v := .tuple #[spt (0, 0, 0), .bool false]) (by simp [results, Try.results56, go_sem, k0, k1, k2]) rfl ⟨by rw [HV.out]; rfl, hk4⟩
    · obtain ⟨many, size, hsh, hm0, hz0, hcase⟩ := shape_of hg
      obtain ⟨q1, q2, q3, q4, q5, q6⟩ := whole_parts hg
      rw [Int.toNat_natCast] at hsh q4 q6 hcase
      have hjn : p < n := by rw [← HL.out]; exact q4
      obtain ⟨ad, rfl, _⟩ := HR.out.at_ p hjn
      have b1 : (0 : Int) ≤ p := by omega
      have b2 : (p : Int) < n := by omega
      have b3 : (0 : Int) < size := by omega
      have hmm : -1000 ≤ (hdAt hs p).2.2 ∧ (hdAt hs p).2.2 ≤ 1000 := by omega
      have HSH : Hid (∀ W, Calls Try.prog 117 #[hd (hdAt hs p).1 (hdAt hs p).2.1 (hdAt hs p).2.2] W fun e w' => e = .returned (.tuple #[.int .i64 many, .int .i64 size]) ∧ Kp W w') := fun W => by
        have := shape_any (hdAt hs p) W hmm
        rw [hsh] at this
        exact this
      have HC : Hid (∀ W, Kp w W → W.cell? (ad.add (p * 3)) = some (.int .i64 (hdAt hs p).1) ∧ W.cell? ⟨(ad.add (p * 3)).block, (ad.add (p * 3)).off + 1, none⟩ = some (.int .i64 (hdAt hs p).2.1) ∧ W.cell? ⟨(ad.add (p * 3)).block, (ad.add (p * 3)).off + 2, none⟩ = some (.int .i64 (hdAt hs p).2.2)) := fun W hk => by
        obtain ⟨ad', e, h⟩ := (HR.out.kp hk).at_ p hjn
        injection e with e
        subst e
        exact h
      have HWG := fun W => HW p W
      rw [hg] at HWG
      have hsz : size ≤ 1000 := by
        rcases hcase with ⟨_, _, h⟩ | ⟨_, _, _, h, _⟩ <;> omega
      by_cases hrem : f % size = 0
      · have HV : Hid (spotV s l r hs a = some ((p : Int), ((f / size : Nat) : Int), (size : Int))) := by
          unfold Hid spotV
          rw [hw]
          simp only [Int.toNat_natCast, hsh]
          rw [if_pos ⟨trivial, hg, by exact_mod_cast hrem⟩]
          simp
        have hr1 : ((f : Int) % (size : Int) != 0) = false := by
          have : (f : Int) % (size : Int) = 0 := by exact_mod_cast hrem
          simp [this]
        have hq : ((f / size : Nat) : Int) = (f : Int) / (size : Int) := by simp
        have hq0 : f / size ≤ f := Nat.div_le_self _ _
        have hwq : wrap64 ((f : Int) / (size : Int)) = (f : Int) / (size : Int) := by
          rw [← hq]
          clear hq
          generalize f / size = z at *
          unfold wrap64
          omega
        rw [hq] at HV
        clear h4 hw hg HW hsh q1 q4 q5 q6 hcase hrem hq hmm
        go_enter Try.func56, Try.ntmps56
        go_wp2_with fail
        refine (HP _).out.mono ?_
        rintro e w1 ⟨rfl, hk1⟩
        obtain ⟨c0, c1, c2⟩ := box3 hk1
        obtain ⟨f0, f1, f2⟩ := boxf3 hk1
        obtain ⟨g0, g1, g2⟩ := box3 ((Kp.self.alloc _).trans hk1)
        rw [sq1] at c0 c1 c2 f0 f1 f2
        have HK1 : Hid (Kp w w1) := ((Kp.self.alloc _).alloc _).trans hk1
        clear hk1
        obtain ⟨p0, p1, p2⟩ := box3 (Kp.self (w := w1.alloc (.cells #[.int .i64 (4), .int .i64 (p), .int .i64 (f)] 97)))
        have hkb : Kp w1 (w1.alloc (.cells #[.int .i64 (4), .int .i64 (p), .int .i64 (f)] 97)) := Kp.self.alloc _
        have f0 := hkb.frozen_ c0 f0
        have f1 := hkb.frozen_ c1 f1
        have f2 := hkb.frozen_ c2 f2
        have c0 := hkb.cell c0
        have c1 := hkb.cell c1
        have c2 := hkb.cell c2
        have g0 := hkb.cell g0
        have g1 := hkb.cell g1
        have g2 := hkb.cell g2
        have HK2 : Hid (Kp w (w1.alloc (.cells #[.int .i64 (4), .int .i64 (p), .int .i64 (f)] 97))) := HK1.out.trans hkb
        clear hkb
        go_wp2_with fail
        generalize w1.alloc (.cells #[.int .i64 (4), .int .i64 (p), .int .i64 (f)] 97) = w2 at *
        generalize w1.heap.size = gb at *
        refine ((HWG _).out (HR.out.kp HK2.out)).mono ?_
        rintro e w3 ⟨rfl, hk3⟩
        have f0 := hk3.frozen_ c0 f0
        have f1 := hk3.frozen_ c1 f1
        have f2 := hk3.frozen_ c2 f2
        have c0 := hk3.cell c0
        have c1 := hk3.cell c1
        have c2 := hk3.cell c2
        have p0 := hk3.cell p0
        have p1 := hk3.cell p1
        have p2 := hk3.cell p2
        have HK3 : Hid (Kp w w3) := Kp.trans HK2.out hk3
        clear hk3
        obtain ⟨d0, d1, d2⟩ := HC.out w3 HK3.out
        go_wp2_with fail
        refine (HSH.out _).mono ?_
        rintro e w4 ⟨rfl, hk3⟩
        have f0 := hk3.frozen_ c0 f0
        have f1 := hk3.frozen_ c1 f1
        have f2 := hk3.frozen_ c2 f2
        have c0 := hk3.cell c0
        have c1 := hk3.cell c1
        have c2 := hk3.cell c2
        have p0 := hk3.cell p0
        have p1 := hk3.cell p1
        have p2 := hk3.cell p2
        have HK4 : Hid (Kp w w4) := Kp.trans HK3.out hk3
        clear hk3
        clear d0 d1 d2
        go_wp2
        have l1 := fun W : KW w4 => W.cell p1
        have l2 := fun W : KW w4 => W.cell p2
        refine wp_region_kw_tail 8 w4 Kp.self (by kernel_rfl) (by kernel_rfl) ?_
        simp only [List.take_succ_cons, List.take_zero, List.drop_succ_cons, List.drop_zero]
        repeat (any_goals (first | go_big_quiet_step (fail) | quiet_step (fail)))
        refine wpQuiet_nil ?_
        rintro w6 ⟨Wx, e⟩
        have hk3 : Kp w4 w6 := e ▸ Wx.2
        clear e Wx l1 l2
        have f0 := hk3.frozen_ c0 f0
        have f1 := hk3.frozen_ c1 f1
        have f2 := hk3.frozen_ c2 f2
        have c0 := hk3.cell c0
        have c1 := hk3.cell c1
        have c2 := hk3.cell c2
        have p0 := hk3.cell p0
        have p1 := hk3.cell p1
        have p2 := hk3.cell p2
        have HK6 : Hid (Kp w w6) := Kp.trans HK4.out hk3
        clear hk3
        go_wp2
        obtain ⟨k0, k1, k2, hk4⟩ := set3 (.int .i64 (p)) (.int .i64 ((f : Int) / (size : Int))) (.int .i64 (size)) HK6.out (Nat.le_succ _) c0 c1 c2
        generalize ((w6.setCell ⟨w.heap.size + 1, 0, none⟩ (.int .i64 (p))).setCell ⟨w.heap.size + 1, 1, none⟩ (.int .i64 ((f : Int) / (size : Int)))).setCell ⟨w.heap.size + 1, 2, none⟩ (.int .i64 (size)) = w5 at *
        exact bodyPost_ret (v := .tuple #[spt (p, (f : Int) / (size : Int), size), .bool true]) (by simp [results, Try.results56, go_sem, k0, k1, k2]) rfl ⟨by rw [HV.out]; rfl, hk4⟩
      · have HV : Hid (spotV s l r hs a = none) := by
          unfold Hid spotV
          rw [hw]
          simp only [Int.toNat_natCast, hsh]
          rw [if_neg (fun h => hrem (by have := h.2.2; exact_mod_cast this))]
        have hr1 : ((f : Int) % (size : Int) != 0) = true := by
          have : (f : Int) % (size : Int) ≠ 0 := fun h => hrem (by exact_mod_cast h)
          simp [this]
        clear h4 hw hg HW hsh q1 q4 q5 q6 hcase hrem hmm
        go_enter Try.func56, Try.ntmps56
        go_wp2_with fail
        refine (HP _).out.mono ?_
        rintro e w1 ⟨rfl, hk1⟩
        obtain ⟨c0, c1, c2⟩ := box3 hk1
        obtain ⟨f0, f1, f2⟩ := boxf3 hk1
        obtain ⟨g0, g1, g2⟩ := box3 ((Kp.self.alloc _).trans hk1)
        rw [sq1] at c0 c1 c2 f0 f1 f2
        have HK1 : Hid (Kp w w1) := ((Kp.self.alloc _).alloc _).trans hk1
        clear hk1
        obtain ⟨p0, p1, p2⟩ := box3 (Kp.self (w := w1.alloc (.cells #[.int .i64 (4), .int .i64 (p), .int .i64 (f)] 97)))
        have hkb : Kp w1 (w1.alloc (.cells #[.int .i64 (4), .int .i64 (p), .int .i64 (f)] 97)) := Kp.self.alloc _
        have f0 := hkb.frozen_ c0 f0
        have f1 := hkb.frozen_ c1 f1
        have f2 := hkb.frozen_ c2 f2
        have c0 := hkb.cell c0
        have c1 := hkb.cell c1
        have c2 := hkb.cell c2
        have g0 := hkb.cell g0
        have g1 := hkb.cell g1
        have g2 := hkb.cell g2
        have HK2 : Hid (Kp w (w1.alloc (.cells #[.int .i64 (4), .int .i64 (p), .int .i64 (f)] 97))) := HK1.out.trans hkb
        clear hkb
        go_wp2_with fail
        generalize w1.alloc (.cells #[.int .i64 (4), .int .i64 (p), .int .i64 (f)] 97) = w2 at *
        generalize w1.heap.size = gb at *
        refine ((HWG _).out (HR.out.kp HK2.out)).mono ?_
        rintro e w3 ⟨rfl, hk3⟩
        have f0 := hk3.frozen_ c0 f0
        have f1 := hk3.frozen_ c1 f1
        have f2 := hk3.frozen_ c2 f2
        have c0 := hk3.cell c0
        have c1 := hk3.cell c1
        have c2 := hk3.cell c2
        have p0 := hk3.cell p0
        have p1 := hk3.cell p1
        have p2 := hk3.cell p2
        have HK3 : Hid (Kp w w3) := Kp.trans HK2.out hk3
        clear hk3
        obtain ⟨d0, d1, d2⟩ := HC.out w3 HK3.out
        go_wp2_with fail
        refine (HSH.out _).mono ?_
        rintro e w4 ⟨rfl, hk3⟩
        have f0 := hk3.frozen_ c0 f0
        have f1 := hk3.frozen_ c1 f1
        have f2 := hk3.frozen_ c2 f2
        have c0 := hk3.cell c0
        have c1 := hk3.cell c1
        have c2 := hk3.cell c2
        have p0 := hk3.cell p0
        have p1 := hk3.cell p1
        have p2 := hk3.cell p2
        have HK4 : Hid (Kp w w4) := Kp.trans HK3.out hk3
        clear hk3
        clear d0 d1 d2
        go_wp2
        obtain ⟨k0, k1, k2, hk4⟩ := set3 (.int .i64 (0)) (.int .i64 (0)) (.int .i64 (0)) HK4.out (Nat.le_succ _) c0 c1 c2
        generalize ((w4.setCell ⟨w.heap.size + 1, 0, none⟩ (.int .i64 (0))).setCell ⟨w.heap.size + 1, 1, none⟩ (.int .i64 (0))).setCell ⟨w.heap.size + 1, 2, none⟩ (.int .i64 (0)) = w5 at *
        exact bodyPost_ret (v := .tuple #[spt (0, 0, 0), .bool false]) (by simp [results, Try.results56, go_sem, k0, k1, k2]) rfl ⟨by rw [HV.out]; rfl, hk4⟩
  · have HV : Hid (spotV s l r hs a = none) := by unfold Hid spotV; rw [if_neg (fun h => h4 h.1)]
    generalize whereV s l r a = p at *
    obtain ⟨u, v, y⟩ := p
    dsimp only at h4 HP
    have hb : (u != 4) = true := by simp [h4]
    clear HW h4
    go_enter Try.func56, Try.ntmps56
    go_wp2_with fail
    refine (HP _).out.mono ?_
    rintro e w1 ⟨rfl, hk1⟩
    obtain ⟨c0, c1, c2⟩ := box3 hk1
    obtain ⟨f0, f1, f2⟩ := boxf3 hk1
    obtain ⟨g0, g1, g2⟩ := box3 ((Kp.self.alloc _).trans hk1)
    rw [sq1] at c0 c1 c2 f0 f1 f2
    have HK1 : Hid (Kp w w1) := ((Kp.self.alloc _).alloc _).trans hk1
    clear hk1
    obtain ⟨p0, p1, p2⟩ := box3 (Kp.self (w := w1.alloc (.cells #[.int .i64 (u), .int .i64 (v), .int .i64 (y)] 97)))
    have hkb : Kp w1 (w1.alloc (.cells #[.int .i64 (u), .int .i64 (v), .int .i64 (y)] 97)) := Kp.self.alloc _
    have f0 := hkb.frozen_ c0 f0
    have f1 := hkb.frozen_ c1 f1
    have f2 := hkb.frozen_ c2 f2
    have c0 := hkb.cell c0
    have c1 := hkb.cell c1
    have c2 := hkb.cell c2
    have g0 := hkb.cell g0
    have g1 := hkb.cell g1
    have g2 := hkb.cell g2
    have HK2 : Hid (Kp w (w1.alloc (.cells #[.int .i64 (u), .int .i64 (v), .int .i64 (y)] 97))) := HK1.out.trans hkb
    clear hkb
    go_wp2
    obtain ⟨k0, k1, k2, hk4⟩ := set3 (.int .i64 (0)) (.int .i64 (0)) (.int .i64 (0)) HK2.out (Nat.le_succ _) c0 c1 c2
    generalize (((w1.alloc (.cells #[.int .i64 (u), .int .i64 (v), .int .i64 (y)] 97)).setCell ⟨w.heap.size + 1, 0, none⟩ (.int .i64 (0))).setCell ⟨w.heap.size + 1, 1, none⟩ (.int .i64 (0))).setCell ⟨w.heap.size + 1, 2, none⟩ (.int .i64 (0)) = w5 at *
    exact bodyPost_ret (v := .tuple #[spt (0, 0, 0), .bool false]) (by simp [results, Try.results56, go_sem, k0, k1, k2]) rfl ⟨by rw [HV.out]; rfl, hk4⟩
end Go.Proofs.Ytpmbjlmplfejgaa
