/- The image: clones, fresh images, whether words are the same. -/
import Derived.Test.YtpmbjlmplfejgaaImaA
import Derived.Test.YtpmbjlmplfejgaaSupT
import Derived.Test.YtpmbjlmplfejgaaSupB
import Derived.Laws.CopyOwn
import Derived.Lib.SliceRun
import Derived.RangeFuncBox
namespace Go.Proofs.Ytpmbjlmplfejgaa
open Go.RowKit
set_option linter.unusedVariables false
set_option linter.unusedSimpArgs false

theorem own_len {w : World} {base n : Nat} {e : TypeId} {size : Nat} {v : Value} {xs : List Value} (h : w.ownsRow base e size v n xs) : xs.length = n * size := h.1
set_option maxHeartbeats 1000000 in
set_option maxRecDepth 100000 in
theorem clone_any (A : Option Addr) (n c : Nat) (xs : List Int) (w : World) (hr : RdI w .u64 A n xs) (hA : A = none → n = 0 ∧ c = 0) (hn : n ≤ 10000) :
    Calls Try.prog 122 #[.slice A n c] w fun e w' => ∃ v, e = .returned v ∧ OwnI w' w.heap.size 28 .u64 v xs ∧ Kp w w' := by
  have q27 : ∀ (w : World) (a : Option Addr) (n c n' c' : Nat), (binOp .eql 27 (.slice a n c) (.slice none n' c')).run Try.prog w = .ok (.bool a.isNone) w := fun w a n c n' c' => Go.Lib.run_eql_slice_nil w _ _ a n c n' c' Try.underlying27
  cases A with
  | none =>
    obtain ⟨rfl, rfl⟩ := hA rfl
    obtain rfl : xs = [] := List.eq_nil_of_length_eq_zero hr.1
    clear hr
    go_enter Try.func122, Try.ntmps122
    go_wp2
    go_ret
    exact ⟨_, rfl, World.ownsRow_nil _ _ _ _, Kp.self⟩
  | some ad =>
    have HR := Lib.hid hr
    clear hr
    go_enter Try.func122, Try.ntmps122
    have HO : Hid (OwnI (w.alloc (.cells #[] 28)) w.heap.size 28 .u64 (.slice (some ⟨w.heap.size, 0, none⟩) 0 0) []) := own_cells (xs := []) (heap_alloc_new _ _) (Nat.le_refl _) (by simp)
    go_wp2_with (at_builtin; refine app_ints (w0 := w) w.heap.size rfl (.tmp 5) (.tmp 6) 27 28 .u64 8 rfl Try.underlying27 info28 (by decide) _ [] xs _ _ _ rfl rfl (fun h => by cases h) (HR.out.kp (Kp.self.alloc _)) HO.out (Kp.self.alloc _) (Kp.self.alloc _).size (by simp; omega) ?_)
    intro v1 w1 hown hk _ _
    go_wp2
    go_ret
    exact ⟨_, rfl, hown, hk⟩

set_option maxHeartbeats 1000000 in
set_option maxRecDepth 100000 in
theorem igeo_any (A : Option Addr) (n c : Nat) (xs : List Int) (w : World) (hr : RdI w .u64 A n xs) (hx : InR 18446744073709551616 xs) (hc : n ≤ c) (hcm : c ≤ maxLen) :
    Calls Try.prog 70 #[.slice A n c] w fun e w' => (∃ g ok, e = .returned (.tuple #[geov g, .int .i64 (supErr ok)]) ∧ RdSup xs n g ok) ∧ Kp w w' := by
  have HS := fun W h => Lib.hid (sread_any A n c xs W h hx hc hcm)
  have HR := Lib.hid hr
  clear hr hx hcm
  go_enter Try.func70, Try.ntmps70
  go_wp2_with fail
  refine (HS _ (HR.out.kp (Kp.self.alloc _))).out.mono ?_
  rintro e w1 ⟨⟨⟨g0, g1, g2⟩, ok, rfl, hrd⟩, hk⟩
  obtain ⟨c0, c1, c2⟩ := box3 hk
  obtain ⟨f0, f1, f2⟩ := boxf3 hk
  have HK : Hid (Kp w w1) := (Kp.self.alloc _).trans hk
  have HRD := Lib.hid hrd
  clear hk hrd HS
  generalize hre : supErr ok = er at *
  have HER := Lib.hid hre
  clear hre
  unfold geov
  go_wp2
  obtain ⟨k0, k1, k2, hk4⟩ := set3 (.int .i64 g0) (.int .i64 g1) (.int .i64 g2) HK.out (Nat.le_refl _) c0 c1 c2
  generalize ((w1.setCell ⟨w.heap.size, 0, none⟩ (.int .i64 g0)).setCell ⟨w.heap.size, 1, none⟩ (.int .i64 g1)).setCell ⟨w.heap.size, 2, none⟩ (.int .i64 g2) = w5 at *
  exact bodyPost_ret (v := .tuple #[geov (g0, g1, g2), .int .i64 er]) (by simp [results, Try.results70, go_sem, k0, k1, k2]) rfl ⟨⟨(g0, g1, g2), ok, by rw [HER.out], HRD.out⟩, hk4⟩
set_option maxHeartbeats 1000000 in
set_option maxRecDepth 100000 in
theorem words_any (A B : Option Addr) (n m c d : Nat) (xs ys : List Int) (w : World) (hx : RdI w .u64 A n xs) (hy : RdI w .u64 B m ys) :
    Calls Try.prog 66 #[.slice A n c, .slice B m d] w fun e w' => e = .returned (.bool (decide (xs = ys))) ∧ Kp w w' := by
  have hm1 := hx.2.1
  by_cases hnm : n = m
  · subst hnm
    have HX := Lib.hid hx
    have HY := Lib.hid hy
    clear hx hy
    go_enter Try.func66, Try.ntmps66
    go_wp2
    go_loopw [5] (fun i wr => ∃ k : Nat, k ≤ n ∧ i = .int .i64 k ∧ Hid (∀ j, j < k → xs[j]?.getD 0 = ys[j]?.getD 0) ∧ Hid (Kp w wr)) (fun i _ => n - (intOf i).toNat)
    case atStart => exact ⟨0, by omega, rfl, fun j h => by omega, Kp.self⟩
    case round =>
      obtain ⟨k, hk, rfl, HE, HK⟩ := hrel
      by_cases hlt : k < n
      · obtain ⟨ad, rfl, cx⟩ := (HX.out.kp HK.out).at_ k hlt
        obtain ⟨bd, rfl, cy⟩ := (HY.out.kp HK.out).at_ k hlt
        have b1 : (0 : Int) ≤ k := by omega
        have b2 : (k : Int) < n := by omega
        generalize hxk : xs[k]?.getD 0 = x at *
        generalize hyk : ys[k]?.getD 0 = y at *
        have HXK := Lib.hid hxk
        have HYK := Lib.hid hyk
        clear hxk hyk
        have q1 := fun W : KW wr => W.cell cx
        have q2 := fun W : KW wr => W.cell cy
        go_wp2
        refine wp_region_kw wr Kp.self (by kernel_rfl) (by kernel_rfl) ?_
        repeat (any_goals (first | go_big_quiet_step (fail) | quiet_step (fail)))
        refine wpQuiet_nil ?_
        rintro w7 ⟨W, e⟩
        have HK7 : Hid (Kp w w7) := Kp.trans HK.out (e ▸ W.2)
        clear e W q1 q2
        by_cases hxy : x = y
        · subst hxy
          go_wp2
          go_roundw
          case rel =>
            refine ⟨k + 1, by omega, by go_num, ?_, HK7⟩
            intro j hj
            by_cases hjk : j = k
            · subst hjk; rw [HXK.out, HYK.out]
            · exact HE.out j (by omega)
          case measure => simp [intOf]; omega
        · have e1 : (x != y) = true := by simp [hxy]
          have HF : Hid (decide (xs = ys) = false) := by
            unfold Hid
            simp only [decide_eq_false_iff_not]
            intro h
            apply hxy
            rw [← HXK.out, ← HYK.out, h]
          go_wp2
          go_ret
          exact ⟨by rw [HF.out]; rfl, HK7.out⟩
      · obtain rfl : k = n := by omega
        have HF : Hid (decide (xs = ys) = true) := by
          unfold Hid
          simp only [decide_eq_true_eq]
          refine List.ext_getElem (by rw [HX.out.1, HY.out.1]) (fun j h1 h2 => ?_)
          have := HE.out j (by rw [← HX.out.1]; exact h1)
          rw [List.getElem?_eq_getElem h1, List.getElem?_eq_getElem h2] at this
          exact this
        go_wp2
        go_ret
        exact ⟨by rw [HF.out]; rfl, HK.out⟩
  · have HF : Hid (decide (xs = ys) = false) := by
      unfold Hid
      simp only [decide_eq_false_iff_not]
      intro h
      apply hnm
      rw [← hx.1, ← hy.1, h]
    have e1 : ((n : Int) != (m : Int)) = true := by simp; omega
    clear hx hy
    go_enter Try.func66, Try.ntmps66
    go_wp2
    go_ret
    exact ⟨by rw [HF.out]; rfl, Kp.self⟩

/-- A fresh image. -/
def freshL (s l r : Int) : List Int := if gMay s l r then superW s l r ++ List.replicate ((total s l).toNat - 8) 0 else []
theorem nums_has {k : IntKind} {W : World} {ad : Addr} {n : Nat} {xs : List Int} (h : RdI W k (some ad) n xs) : ∀ j v, (nums k xs)[j]? = some v → W.cell? (ad.add j) = some v := by
  intro j u hu
  have hj : j < xs.length := by
    rcases Nat.lt_or_ge j xs.length with h' | h'
    · exact h'
    · rw [nums, List.getElem?_map, List.getElem?_eq_none h'] at hu; cases hu
  obtain ⟨ad', e', hc⟩ := h.at_ j (by rw [← h.1]; exact hj)
  injection e' with e'
  subst e'
  rw [hc]
  rw [nums, List.getElem?_map, List.getElem?_eq_getElem hj] at hu
  rw [List.getElem?_eq_getElem hj]
  simpa using hu
theorem nums_one {k : IntKind} {xs : List Int} : ∀ u ∈ nums k xs, u.oneCell' = true := by
  intro u hu
  simp only [nums, List.mem_map] at hu
  obtain ⟨y, _, rfl⟩ := hu
  rfl
theorem info28p : ∃ i, Try.prog.info? 28 = some i ∧ i.zero = some (.int .u64 0) ∧ i.size = 1 ∧ i.bytes = 8 := by
  obtain ⟨i0, hi, hz⟩ := Option.map_eq_some_iff.1 info28
  simp only [Prod.mk.injEq] at hz
  exact ⟨i0, hi, hz⟩

set_option maxHeartbeats 1000000 in
set_option maxRecDepth 100000 in
theorem fresh_any (s l r : Int) (w : World) : Calls Try.prog 69 #[geo s l r] w fun e w' => ∃ v, e = .returned v ∧ OwnI w' w.heap.size 28 .u64 v (freshL s l r) ∧ Kp w w' := by
  have HM := fun W => Lib.hid (may_any s l r W)
  have HT := fun W => Lib.hid (total_any s l r W)
  unfold freshL
  cases hg : gMay s l r
  · simp only [hg] at HM HT
    go_enter Try.func69, Try.ntmps69
    go_wp2_with fail
    refine (HM _).out.mono ?_
    rintro e w1 ⟨rfl, hk⟩
    have HK : Hid (Kp w w1) := (Kp.self.alloc _).trans hk
    go_wp2
    go_ret
    exact ⟨_, rfl, World.ownsRow_nil _ _ _ _, HK.out⟩
  · have hm := may_bd hg
    obtain ⟨n, hn⟩ : ∃ n : Nat, total s l = n := ⟨(total s l).toNat, by unfold total; omega⟩
    have hn8 : 8 ≤ n ∧ n ≤ 1328 := by unfold total at hn; omega
    simp only [hg, if_true, hn] at HM HT
    have HG := Lib.hid hg
    have HN := Lib.hid hn
    obtain ⟨i28, hi, hz, hsz, hby⟩ := info28p
    have hsz1 : (Try.prog.info? 28).map (·.size) = some 1 := by kernel_rfl
    clear hg hn
    go_enter Try.func69, Try.ntmps69
    go_wp2_with fail
    refine (HM _).out.mono ?_
    rintro e w1 ⟨rfl, hk⟩
    obtain ⟨g0, g1, g2⟩ := box3 hk
    have HK : Hid (Kp w w1) := (Kp.self.alloc _).trans hk
    clear hk HM
    go_wp2_with fail
    refine (HT _).out.mono ?_
    rintro e w3 ⟨rfl, hk3⟩
    have b0 := hk3.cell g0
    have b1 := hk3.cell g1
    have b2 := hk3.cell g2
    have HK3 := Lib.hid (Kp.trans HK.out hk3)
    clear hk3 g0 g1 g2 HT
    have e0 : ∀ o, (w3.alloc o).cell? ⟨w.heap.size, 0, none⟩ = some (.int .i64 s) := fun o => (Kp.self.alloc o).cell b0
    have e1 : ∀ o, (w3.alloc o).cell? ⟨w.heap.size, 1, none⟩ = some (.int .i64 l) := fun o => (Kp.self.alloc o).cell b1
    have e2 : ∀ o, (w3.alloc o).cell? ⟨w.heap.size, 2, none⟩ = some (.int .i64 r) := fun o => (Kp.self.alloc o).cell b2
    go_wp2_with (at_make; refine wpList_make_row _ rfl _ _ 27 rfl 28 i28 (.int .u64 0) Try.underlying27 hi hz hsz rfl .i64 .i64 n rfl rfl (by rw [hby]; omega) (by omega) ?_)
    have hh : (w3.alloc (.cells (madeCells #[.int .u64 0] n) 28)).heap[w3.heap.size]? = some (.cells (nums .u64 (List.replicate n 0)).toArray 28 (0, 0)) := by rw [made_nums]; exact heap_alloc_new _ _
    have HK4 : Hid (Kp w (w3.alloc (.cells (madeCells #[.int .u64 0] n) 28))) := Kp.alloc HK3.out _
    have HGS : Hid (w.heap.size ≤ w3.heap.size) := HK3.out.size
    clear e0 e1 e2 b0 b1 b2
    generalize w3.alloc (.cells (madeCells #[.int .u64 0] n) 28) = w4 at *
    generalize w3.heap.size = g at *
    refine (swrite_any s l r _).mono ?_
    rintro e w5 ⟨v, rfl, hown, hk5⟩
    have hgl : g < w4.heap.size := (Array.getElem?_eq_some_iff.1 hh).1
    have hh5 : w5.heap[g]? = some (.cells (nums .u64 (List.replicate n 0)).toArray 28 (0, 0)) := (hk5.block g hgl).trans hh
    obtain ⟨B, d, hve, hrb⟩ := own_rd hown
    have hl8 := superW_len8 HG.out
    rw [hl8] at hve hrb
    subst hve
    have HRB := Lib.hid hrb
    have HK5 := Lib.hid (Kp.trans HK4.out hk5)
    have HL8 := Lib.hid hl8
    clear hk5 hown hrb hl8 hh hgl
    go_wp2_with ((refine wpList_copy_splice rfl (.tmp 10) (.tmp 12) 27 27 rfl 28 Try.underlying27 hsz1 (some ⟨g, 0, none⟩) B n n 8 d rfl rfl g 0 (nums .u64 (List.replicate n 0)) 28 hh5 (nums .u64 (superW s l r)) ?d1 ?d2 ?d3 nums_one g w5 (Below.refl _ _) (Nat.le_refl _) ?_))
    case d1 => rw [nums_length, HL8.out]; show 8 = min 8 n; omega
    case d2 =>
      intro _
      obtain ⟨ad, rfl, _⟩ := HRB.out.at_ 0 (by decide)
      exact ⟨ad, rfl, nums_has HRB.out⟩
    case d3 => rw [nums_length, nums_length, HL8.out, List.length_replicate]; omega
    intro w6 HC HB
    have hxl : (superW s l r ++ List.replicate (n - 8) 0).length = n := by rw [List.length_append, HL8.out, List.length_replicate]; omega
    have HC2 : Hid (w6.heap[g]? = some (.cells (nums .u64 (superW s l r ++ List.replicate (n - 8) 0)).toArray 28 (0, 0))) := by
      have h := HC.out
      rw [splice_nums _ n HL8.out (by omega)] at h
      exact h
    have HXL := Lib.hid hxl
    have HK6 : Hid (Kp w w6) := Below.trans HK5.out (HB.mono HGS.out)
    clear HC HB hxl
    go_wp2
    go_ret
    refine ⟨_, rfl, ?_, HK6.out⟩
    have h := own_cells (xs := superW s l r ++ List.replicate (n - 8) 0) HC2.out HGS.out (by rw [HXL.out]; simp only [maxLen]; omega)
    unfold OwnI
    rw [HN.out, Int.toNat_natCast, HXL.out]
    rw [HXL.out] at h
    exact h

theorem rdI_set_ne {W : World} {k : IntKind} {gb g i n : Nat} {xs : List Int} {u : Value} (h : RdI W k (some ⟨gb, 0, none⟩) n xs) (hne : gb ≠ g) : RdI (W.setCell ⟨g, i, none⟩ u) k (some ⟨gb, 0, none⟩) n xs := by
  refine ⟨h.1, h.2.1, fun hn => ?_⟩
  obtain ⟨ad, e, hc⟩ := h.2.2 hn
  refine ⟨ad, e, fun j hj => ?_⟩
  injection e with e
  subst e
  have := hc j hj
  rw [add0] at this ⊢
  rw [cell_set_ne _ _ _ _ (by simpa using hne)]
  exact this
theorem fill_nums (xs : List Int) (n k : Nat) (h : k < xs.length) (hn : xs.length ≤ n) : (xs.take k ++ List.replicate (n - k) 0).set k (xs[k]?.getD 0) = xs.take (k + 1) ++ List.replicate (n - (k + 1)) 0 := by
  rw [List.set_append_right _ _ (by simp; omega)]
  have e : (List.take k xs).length = k := by simp; omega
  rw [e, Nat.sub_self, show n - k = (n - (k + 1)) + 1 by omega, List.replicate_succ, List.set_cons_zero, List.getElem?_eq_getElem h]
  have e2 : List.take (k + 1) xs = List.take k xs ++ [xs[k]] := (List.take_append_getElem h).symm
  rw [e2]
  simp only [Option.getD_some, List.append_assoc, List.singleton_append]

set_option maxHeartbeats 1000000 in
set_option maxRecDepth 100000 in
theorem rfresh_any (s l r : Int) (w : World) (hg : gMay s l r = true) : Calls Try.prog 72 #[geo s l r] w fun e w' => ∃ v, e = .returned v ∧ OwnI w' w.heap.size 28 .u64 v (freshL s l r) ∧ Kp w w' := by
  have HT := fun W => Lib.hid (rtotal_any s l r W)
  have hm := may_bd hg
  obtain ⟨n, hn⟩ : ∃ n : Nat, total s l = n := ⟨(total s l).toNat, by unfold total; omega⟩
  have hn8 : 8 ≤ n ∧ n ≤ 1328 := by unfold total at hn; omega
  simp only [hg, if_true, hn] at HT
  have HF : Hid (freshL s l r = superW s l r ++ List.replicate (n - 8) 0) := by unfold Hid freshL; rw [if_pos hg, hn, Int.toNat_natCast]
  have HG := Lib.hid hg
  have HN := Lib.hid hn
  obtain ⟨i28, hi, hz, hsz, hby⟩ := info28p
  have hsz1 : (Try.prog.info? 28).map (·.size) = some 1 := by kernel_rfl
  clear hg hn
  go_enter Try.func72, Try.ntmps72
  go_wp2_with fail
  refine (HT _).out.mono ?_
  rintro e w3 ⟨rfl, hk3⟩
  obtain ⟨b0, b1, b2⟩ := box3 hk3
  have HK3 : Hid (Kp w w3) := (Kp.self.alloc _).trans hk3
  clear hk3 HT
  have e0 : ∀ o, (w3.alloc o).cell? ⟨w.heap.size, 0, none⟩ = some (.int .i64 s) := fun o => (Kp.self.alloc o).cell b0
  have e1 : ∀ o, (w3.alloc o).cell? ⟨w.heap.size, 1, none⟩ = some (.int .i64 l) := fun o => (Kp.self.alloc o).cell b1
  have e2 : ∀ o, (w3.alloc o).cell? ⟨w.heap.size, 2, none⟩ = some (.int .i64 r) := fun o => (Kp.self.alloc o).cell b2
  go_wp2_with (at_make; refine wpList_make_row _ rfl _ _ 27 rfl 28 i28 (.int .u64 0) Try.underlying27 hi hz hsz rfl .i64 .i64 n rfl rfl (by rw [hby]; omega) (by omega) ?_)
  have hh : (w3.alloc (.cells (madeCells #[.int .u64 0] n) 28)).heap[w3.heap.size]? = some (.cells (nums .u64 (List.replicate n 0)).toArray 28 (0, 0)) := by rw [made_nums]; exact heap_alloc_new _ _
  have HK4 : Hid (Kp w (w3.alloc (.cells (madeCells #[.int .u64 0] n) 28))) := Kp.alloc HK3.out _
  have HGS : Hid (w.heap.size ≤ w3.heap.size) := HK3.out.size
  clear e0 e1 e2 b0 b1 b2
  generalize w3.alloc (.cells (madeCells #[.int .u64 0] n) 28) = w4 at *
  generalize w3.heap.size = g at *
  refine (rwrite_any s l r _).mono ?_
  rintro e w5 ⟨v, rfl, hown, hk5⟩
  have hgl : g < w4.heap.size := (Array.getElem?_eq_some_iff.1 hh).1
  have hh5 : w5.heap[g]? = some (.cells (nums .u64 (List.replicate n 0)).toArray 28 (0, 0)) := (hk5.block g hgl).trans hh
  have HB : Hid (∃ gb cap, v = .slice (some ⟨gb, 0, none⟩) 8 cap ∧ gb ≠ g ∧ w.heap.size ≤ gb) := by
    unfold OwnI at hown
    rw [superW_len8 HG.out] at hown
    obtain ⟨gb, cap, rfl⟩ := Go.ownsRow_succ hown
    have := own_base hown gb rfl
    exact ⟨gb, cap, rfl, by omega, by have := HGS.out; omega⟩
  obtain ⟨gb, cap, rfl, hgb, hgw⟩ := HB.out
  obtain ⟨B, d, hve, hrb⟩ := own_rd hown
  have hl8 := superW_len8 HG.out
  rw [hl8] at hve hrb
  injection hve with h1 h2 h3
  subst h1
  have HRB := Lib.hid hrb
  have HK5 := Lib.hid (Kp.trans HK4.out hk5)
  have HL8 := Lib.hid hl8
  have HO5 : Hid (w5.ownsRow w.heap.size 28 1 (.slice (some ⟨g, 0, none⟩) n n) n (nums .u64 ((superW s l r).take 0 ++ List.replicate (n - 0) 0))) := by
    have := own_cells (xs := List.replicate n 0) hh5 HGS.out (by simp only [maxLen, List.length_replicate]; omega)
    show w5.ownsRow _ _ _ _ _ _
    simpa using this
  clear hk5 hown hrb hl8 hh hgl hh5 HB
  go_wp2
  go_loopw [5] (fun i wr => ∃ k : Nat, k ≤ 8 ∧ i = .int .i64 k ∧ Hid (Kp w wr) ∧ Hid (RdI wr .u64 (some ⟨gb, 0, none⟩) 8 (superW s l r)) ∧ Hid (wr.ownsRow w.heap.size 28 1 (.slice (some ⟨g, 0, none⟩) n n) n (nums .u64 ((superW s l r).take k ++ List.replicate (n - k) 0)))) (fun i _ => 8 - (intOf i).toNat)
  case atStart => exact ⟨0, by omega, rfl, HK5, HRB, HO5⟩
  case round =>
    obtain ⟨k, hk, rfl, HK, HR, HO⟩ := hrel
    by_cases hlt : k < 8
    · obtain ⟨_, e, cx⟩ := HR.out.at_ k hlt
      injection e with e
      subst e
      have b1 : (0 : Int) ≤ k := by omega
      have b2 : (k : Int) < 8 := by omega
      have b3 : (k : Int) < n := by omega
      have hcy := own_get HO.out k (by omega)
      rw [add0] at cx
      generalize hxk : (superW s l r)[k]?.getD 0 = x at *
      have HXK := Lib.hid hxk
      clear hxk
      have hfr : wr.frozen? ⟨g, k, none⟩ = false := HO.out.frozenAt _
      have HO2 := Lib.hid (ownI_set HO.out k (by omega) x)
      have HK2 : Hid (Kp w (wr.setCell ⟨g, k, none⟩ (.int .u64 x))) := HK.out.set _ _ HGS.out
      have HR2 : Hid (RdI (wr.setCell ⟨g, k, none⟩ (.int .u64 x)) .u64 (some ⟨gb, 0, none⟩) 8 (superW s l r)) := rdI_set_ne HR.out (by omega)
      go_wp2
      go_roundw
      case rel =>
        refine ⟨k + 1, by omega, by go_num, HK2, HR2, ?_⟩
        have h := HO2.out
        rw [← HXK.out, fill_nums _ _ _ (by rw [HL8.out]; exact hlt) (by rw [HL8.out]; omega)] at h
        rw [HXK.out] at h
        exact h
      case measure => simp [intOf]; omega
    · obtain rfl : k = 8 := by omega
      go_wp2
      go_ret
      have h := HO.out
      rw [List.take_of_length_le (by rw [HL8.out]; exact Nat.le_refl _)] at h
      refine ⟨_, rfl, ?_, HK.out⟩
      rw [HF.out]
      unfold OwnI
      have hxl : (superW s l r ++ List.replicate (n - 8) 0).length = n := by rw [List.length_append, HL8.out, List.length_replicate]; omega
      rw [hxl]
      exact h

end Go.Proofs.Ytpmbjlmplfejgaa
