/- image.Replayed. -/
import Derived.Test.YtpmbjlmplfejgaaImaF
namespace Go.Proofs.Ytpmbjlmplfejgaa
open Go.RowKit Go.Shelf
set_option linter.unusedVariables false
set_option linter.unusedSimpArgs false
attribute [local go_sem] Oper.semAt_some

set_option maxRecDepth 100000 in
set_option maxHeartbeats 2000000 in
theorem replayed_in (nn : Nat) (hn3 : 3 ≤ nn) (A : Option Addr) (n c : Nat) (xs : List Int) (w : World) (hr : RdI w .u64 A n xs) (hx : InR 18446744073709551616 xs) (hc : n ≤ c) (hcm : c ≤ maxLen) (hA : A = none → n = 0 ∧ c = 0) (hn : n ≤ 10000) :
    CallsIn Fence.wide nn Try.prog 64 #[.slice A n c] w fun e W' => ∃ v res ok, e = .returned (.tuple #[v, .int .i64 (supErr ok)]) ∧ OwnI W' w.heap.size 28 .u64 v res ∧ RepP xs n res ok ∧ Kp w W' := by
  have h1 : 1 ≤ nn := by omega
  have HR := Lib.hid hr
  have HX := Lib.hid hx
  have HCM := Lib.hid hcm
  have HA := Lib.hid hA
  clear hr hx hcm hA
  refine callsIn_of_wp_marks Try.func64 rfl trivial ?_ rfl
  simp only [Try.ntmps64, List.size_toArray, List.length_cons, List.length_nil, Nat.reduceAdd, Nat.reduceSub, Array.replicate_succ, Array.replicate_zero, List.push_toArray, List.append_toArray, List.nil_append, List.cons_append]
  have bA := Boxed.new w 27 (.slice none 0 0)
  have bB := Boxed.new (w.alloc (.cells #[.slice none 0 0] 27)) 46 (.int .i64 0)
  rw [World.size_alloc] at bB
  have bA := bA.alloc (.cells #[.int .i64 0] 46)
  have hk1 : Kp w ((w.alloc (.cells #[.slice none 0 0] 27)).alloc (.cells #[.int .i64 0] 46)) := (Kp.self.alloc _).alloc _
  gi_wp2_with fail
  refine ⟨trivial, (callsIn_wide.2 (igeo_any A n c xs _ (HR.out.kp hk1) HX.out hc HCM.out)).mono ?_⟩
  rintro e w1 ⟨⟨⟨s, l, r⟩, ok, rfl, hrd⟩, hk⟩
  have bA := boxed_at bA (hk.to none) (fun r e => by cases e)
  have bB := boxed_at bB (hk.to none) (fun r e => by cases e)
  have HK1 : Hid (Kp w w1) := hk1.trans hk
  have HRD := Lib.hid hrd
  have hs1 : w.heap.size + 1 < w1.heap.size := bB.lt
  clear hrd hk hk1
  unfold geov
  dsimp only
  have bA := bA.alloc (.cells #[.int .i64 s, .int .i64 l, .int .i64 r] 38)
  have bB := bB.alloc (.cells #[.int .i64 s, .int .i64 l, .int .i64 r] 38)
  have HK2 : Hid (Kp w (w1.alloc (.cells #[.int .i64 s, .int .i64 l, .int .i64 r] 38))) := HK1.out.alloc _
  have bG : (w1.alloc (.cells #[.int .i64 s, .int .i64 l, .int .i64 r] 38)).heap[w1.heap.size]? = some (.cells #[.int .i64 s, .int .i64 l, .int .i64 r] 38 (0, 0)) := heap_alloc_new _ _
  cases ok
  · have hc2 := bA.cell
    have hf2 := bA.frozen
    have bA2 := bA.set (.slice none 0 0)
    have bB2 := bB.kept (grownBy_setCell' _ w.heap.size (.slice none 0 0)) (by intro e; injection e with e; omega)
    have hc3 := bB2.cell
    have hf3 := bB2.frozen
    have bA3 := (bA2.kept (grownBy_setCell' _ (w.heap.size + 1) (.int .i64 11)) (by intro e; injection e with e; omega)).cell
    have bB3 := (bB2.set (.int .i64 11)).cell
    have HK3 : Hid (Kp w (((w1.alloc (.cells #[.int .i64 s, .int .i64 l, .int .i64 r] 38)).setCell ⟨w.heap.size, 0, none⟩ (.slice none 0 0)).setCell ⟨w.heap.size + 1, 0, none⟩ (.int .i64 11))) := (HK2.out.set _ _ (by simp)).set _ _ (by simp)
    have HF : Hid (RepP xs n [] false) := by
      rcases HRD.out with ⟨h, _⟩ | ⟨_, _, h⟩
      · cases h
      · exact .inr ⟨rfl, rfl, fun s l r hv => absurd hv (h s l r)⟩
    simp only [supErr, Bool.false_eq_true, if_false]
    gi_wp2
    exact ⟨.tuple #[.slice none 0 0, .int .i64 11], by simp [results, Try.results64, go_sem, bA3, bB3], _, [], false, rfl, World.ownsRow_nil _ _ _ _, HF.out, HK3.out⟩
  · have HV : Hid (Valid xs n s l r) := by
      rcases HRD.out with ⟨_, h⟩ | ⟨h, _⟩
      · exact h
      · cases h
    have hm := may_bd HV.out.1
    have hnt : (n : Int) = total s l := HV.out.2.2.2
    have hn16 : 16 + 40 * l ≤ n := by rw [hnt]; unfold total; omega
    obtain ⟨L, rfl⟩ : ∃ L : Nat, l = L := ⟨l.toNat, by omega⟩
    simp only [supErr, if_true]
    gi_wp2_with fail
    refine ⟨trivial, (callsIn_wide.2 (clone_any A n c xs _ (HR.out.kp HK2.out) HA.out hn)).mono ?_⟩
    rintro e w3 ⟨v, rfl, hown, hk3⟩
    have HO3 : Hid (w3.ownsRow w.heap.size 28 1 v n (nums .u64 xs)) := by
      have h : w3.ownsRow _ 28 1 v xs.length (nums .u64 xs) := hown
      rw [HR.out.1] at h
      exact own_lower h HK2.out.size
    have HV1 : Hid (∃ go cap, v = .slice (some ⟨go, 0, none⟩) n cap) := by
      have h := HO3.out
      obtain ⟨m, rfl⟩ : ∃ m, n = m + 1 := ⟨n - 1, by omega⟩
      obtain ⟨go, cap, rfl⟩ := ownsRow_succ h
      exact ⟨go, cap, rfl⟩
    obtain ⟨go, cap, rfl⟩ := HV1.out
    have HST : Hid (St w.heap.size w.heap.size (w.heap.size + 1) w1.heap.size w3.heap.size go cap n s L r xs (w3.alloc (.cells #[.slice (some ⟨go, 0, none⟩) n cap] 27))) :=
      ⟨(boxed_at bA (hk3.to none) (fun r e => by cases e)).alloc _, (boxed_at bB (hk3.to none) (fun r e => by cases e)).alloc _, ((Kp.self.alloc _).block _ (Nat.lt_of_lt_of_le (Array.getElem?_eq_some_iff.1 bG).1 hk3.size)).trans ((hk3.block _ (Array.getElem?_eq_some_iff.1 bG).1).trans bG), Boxed.new _ _ _, own_kp HO3.out (Kp.self.alloc _)⟩
    have HK4 : Hid (Kp w (w3.alloc (.cells #[.slice (some ⟨go, 0, none⟩) n cap] 27))) := (HK2.out.trans hk3).alloc _
    have hs4 : (w3.alloc (.cells #[.slice (some ⟨go, 0, none⟩) n cap] 27)).heap.size = w3.heap.size + 1 := by simp
    clear hown hk3 HO3 HV1 bA bB bG HRD HK1 HK2
    have hlo : w.heap.size + 1 < w1.heap.size := hs1
    generalize w1.heap.size = gb at *
    generalize hob : w3.heap.size = ob at *
    have g0 : (w3.alloc (.cells #[.slice (some ⟨go, 0, none⟩) n cap] 27)).cell? ⟨gb, 0, none⟩ = some (.int .i64 s) := cellAt HST.out.g rfl
    have g1 : (w3.alloc (.cells #[.slice (some ⟨go, 0, none⟩) n cap] 27)).cell? ⟨gb, 1, none⟩ = some (.int .i64 L) := cellAt HST.out.g rfl
    have g2 : (w3.alloc (.cells #[.slice (some ⟨go, 0, none⟩) n cap] 27)).cell? ⟨gb, 2, none⟩ = some (.int .i64 r) := cellAt HST.out.g rfl
    generalize hW4 : w3.alloc (.cells #[.slice (some ⟨go, 0, none⟩) n cap] 27) = w4 at *
    gi_wp2_with fail
    refine ⟨trivial, (callsIn_wide.2 (lanesI_any s L r A n c _)).mono ?_⟩
    rintro e w' ⟨rfl, rfl⟩
    gi_wp2_with fail
    clear hob hW4 g0 g1 g2
    have e1 := World.alloc_heap_new w4 (.cells #[.int .i64 s, .int .i64 L, .int .i64 r] 38)
    have e2 := World.alloc_heap_new (w4.alloc (.cells #[.int .i64 s, .int .i64 L, .int .i64 r] 38)) (.cells #[.slice A n c] 27)
    rw [World.size_alloc, hs4] at e2
    rw [hs4] at e1
    have HK5 : Hid (Kp w4 ((w4.alloc (.cells #[.int .i64 s, .int .i64 L, .int .i64 r] 38)).alloc (.cells #[.slice A n c] 27))) := (Kp.self.alloc _).alloc _
    have hs5 : ((w4.alloc (.cells #[.int .i64 s, .int .i64 L, .int .i64 r] 38)).alloc (.cells #[.slice A n c] 27)).heap.size = ob + 3 := by simp [hs4]
    have hE2 : ((w4.alloc (.cells #[.int .i64 s, .int .i64 L, .int .i64 r] 38)).alloc (.cells #[.slice A n c] 27)).heap[ob + 1]? = some (.cells #[.int .i64 s, .int .i64 L, .int .i64 r] 38 (0, 0)) := ((Kp.self.alloc _).block _ (by simp [hs4])).trans e1
    generalize (w4.alloc (.cells #[.int .i64 s, .int .i64 L, .int .i64 r] 38)).alloc (.cells #[.slice A n c] 27) = w5 at *
    have HK6 : Hid (Kp w w5) := HK4.out.trans HK5.out
    have hn5 : w.heap.size ≤ w5.heap.size := HK6.out.size
    refine wpIn_rangeFunc_handed rfl h1 (gf := 165) (lb := #[.pointer (some ⟨ob + 1, 0, none⟩), .pointer (some ⟨ob + 1 + 1, 0, none⟩)]) rfl trivial (enters_of Try.func165 (by kernel_rfl) rfl)
      (lanes_stops (nn - 1) (by omega) s r L A n c xs w w5 HR.out HV.out.1 hnt HX.out hc HCM.out HK6.out (ob + 1 + 1) (ob + 1) e2 hE2) KL.trans (KL.putObj hn5) (Below.refl _ _) (fun _ => rfl)
      (IR xs w.heap.size w.heap.size (w.heap.size + 1) gb ob go cap n s L r w)
      (IXR xs w.heap.size w.heap.size (w.heap.size + 1) s L r w)
      (IR_own (Nat.le_refl _) hn5) (IXR_own (Nat.le_refl _) hn5) good_own
      ?init
      (fun (x : Ln) => { tmps := #[.slice A n c, undef, .pointer (some ⟨w.heap.size, 0, none⟩), .pointer (some ⟨w.heap.size + 1, 0, none⟩), .pointer (some ⟨gb, 0, none⟩), .int .i64 0, .pointer (some ⟨ob, 0, none⟩), .int .i64 x.1, x.2.1, undef, undef, .tuple #[geo s L r, .int .i64 0], .slice A n c, .tuple #[geo s L r, .int .i64 0], geo s L r, .int .i64 0, .int .i64 0, .bool false, undef, .slice A n c, .slice (some ⟨go, 0, none⟩) n cap, geo s L r, .slice A n c, .func (.func 165) #[] #[.pointer (some ⟨ob + 1, 0, none⟩), .pointer (some ⟨ob + 1 + 1, 0, none⟩)], .int .i64 x.1, x.2.1, undef, undef, undef, undef, undef, undef, undef, undef, undef, undef, undef, undef, undef, undef, undef, undef, undef, undef, undef, undef, undef, undef, undef, undef], defers := [] }) ?assign ?body ?done ?stop
    case init => exact ⟨HST.out.kp HK5.out, fun t h => by simp at h, HK6.out⟩
    case assign =>
      intro l x W K hK
      gi_wp2
      exact hK
    case body =>
      rintro ly pre ⟨t, v, es⟩ W ⟨hST, hMY, hBel⟩ ⟨hx1, hx2, hx3, hx4⟩ hlt
      simp only at hx1 hx2 hx3 hx4
      subst hx1
      have hd : 1 ≤ nn - 1 - 1 := by omega
      have hmx : Try.prog.follows .mixedOrders = true := by kernel_rfl
      obtain ⟨B, d, rfl⟩ := own_slice hx3
      have hml : es.length ≤ 9223372036854775807 := by
        obtain ⟨_, _, e, h⟩ := own_rdE hx3
        exact h.2.1
      have HST := Lib.hid hST
      have HOE := Lib.hid hx3
      have HLOG := Lib.hid hx2
      have HIN := Lib.hid hx4
      have HMY := Lib.hid hMY
      have HBel := Lib.hid hBel
      have HLT := Lib.hid hlt
      have HOT : Hid (KeepsOthers W W) := KeepsOthers.refl W
      have HKL : Hid (KL w.heap.size W W) := KL.refl _ _
      have hbt : (pre.length : Int) < L := by omega
      generalize hm' : es.length = m at *
      have HML := Lib.hid hm'
      clear hST hx3 hx2 hx4 hMY hBel hlt hm'
      gi_wp2
      gi_loopw [28] (fun q wq => ∃ k : Nat, k ≤ m ∧ q = .int .i64 k ∧ Hid (St w.heap.size w.heap.size (w.heap.size + 1) gb ob go cap n s L r (setAll (repTo xs pre.length) (es.take k)) wq) ∧ Hid (OwnE wq w.heap.size (.slice B m d) es) ∧ Hid (Below w.heap.size w wq) ∧ Hid (KeepsOthers W wq) ∧ Hid (KL w.heap.size W wq) ∧ Hid (∀ e ∈ es.take k, mayA s L r e.1 = true)) (fun q _ => m - (intOf q).toNat)
      case atStart => exact ⟨0, Nat.zero_le _, rfl, HST, HOE, HBel, HOT, HKL, fun e h => by simp at h⟩
      case round =>
        obtain ⟨k, hk, rfl, HSq, HOq, HBq, HTq, HLq, HMq⟩ := hrel
        by_cases hkm : k < m
        · have hrd : RdE wr B m es := by
            obtain ⟨B', d', e, h⟩ := own_rdE HOq.out
            injection e with h1 h2 h3
            subst h1
            rw [HML.out] at h
            exact h
          obtain ⟨ad, rfl, c1, c2⟩ := hrd.at_ k hkm
          have hen := HIN.out (entAt es k) (by rw [entAt_eq (by rw [HML.out]; exact hkm)]; exact List.getElem_mem _)
          have HTK : Hid (es.take (k + 1) = es.take k ++ [entAt es k]) := take_snoc es k (by rw [HML.out]; exact hkm)
          have HMEM : Hid (entAt es k ∈ es) := by rw [entAt_eq (by rw [HML.out]; exact hkm)]; exact List.getElem_mem _
          generalize hea : entAt es k = ea at *
          obtain ⟨a, x⟩ := ea
          clear hea hrd
          simp only at c1 c2 hen
          have b2 : (0 : Int) ≤ k := by omega
          have b3 : (k : Int) < m := by omega
          have HMA := fun W => Lib.hid (mayA_any s L r a W hen.1.2)
          have HK6 : Hid (Kp wr (wr.alloc (.cells #[.int .i64 a, .int .u64 x] 136))) := Kp.self.alloc _
          have hx := box2 (Kp.self (w := wr.alloc (.cells #[.int .i64 a, .int .u64 x] 136)))
          have HX1 := Lib.hid hx.1
          have HX2 := Lib.hid hx.2
          have q0 := HK6.out.cell (cellAt (i := 0) HSq.out.g rfl)
          have q1 := HK6.out.cell (cellAt (i := 1) HSq.out.g rfl)
          have q2 := HK6.out.cell (cellAt (i := 2) HSq.out.g rfl)
          clear hx
          gi_wp2_with fail
          refine ⟨trivial, (CallsIn.inRound ly (callsIn_wide.2 (HMA _).out)).mono ?_⟩
          rintro e w7 ⟨rfl, hk7⟩
          have HK7 : Hid (Kp wr w7) := HK6.out.trans hk7
          have d1 := hk7.cell HX1.out
          have d2 := hk7.cell HX2.out
          have HS7 : Hid (St w.heap.size w.heap.size (w.heap.size + 1) gb ob go cap n s L r (setAll (repTo xs pre.length) (es.take k)) w7) := HSq.out.kp HK7.out
          have HB7 : Hid (Below w.heap.size w w7) := Below.trans HBq.out (HK7.out.mono HBq.out.size)
          have HT7 : Hid (KeepsOthers W w7) := HTq.out.trans (others_kp HK7.out)
          have HL7 : Hid (KL w.heap.size W w7) := HLq.out.trans (KL.kp HK7.out)
          have HO7 : Hid (OwnE w7 w.heap.size (.slice (some ad) m d) es) := own_kp HOq.out HK7.out
          clear hk7 HK6 HX1 HX2 q0 q1 q2 c1 c2 HSq HBq HTq HLq HOq HMA HK7
          cases hma : mayA s L r a
          · have HMA := Lib.hid hma
            clear hma d1 d2
            have hr2 := HS7.out.r2.cell
            have hf2 := HS7.out.r2.frozen
            have bA2 := HS7.out.r2.set (.slice none 0 0)
            have bB2 := HS7.out.r3.kept (grownBy_setCell' w7 w.heap.size (.slice none 0 0)) (by intro e; injection e with e; omega)
            have hr3 := bB2.cell
            have hf3 := bB2.frozen
            have bA3 := bA2.kept (grownBy_setCell' _ (w.heap.size + 1) (.int .i64 11)) (by intro e; injection e with e; omega)
            have bB3 := bB2.set (.int .i64 11)
            have HB9 : Hid (Below w.heap.size w ((w7.setCell ⟨w.heap.size, 0, none⟩ (.slice none 0 0)).setCell ⟨w.heap.size + 1, 0, none⟩ (.int .i64 11))) := (HB7.out.setCell (p := ⟨w.heap.size, 0, none⟩) (by simp) _).setCell (p := ⟨w.heap.size + 1, 0, none⟩) (by simp) _
            have HT9 : Hid (KeepsOthers W ((w7.setCell ⟨w.heap.size, 0, none⟩ (.slice none 0 0)).setCell ⟨w.heap.size + 1, 0, none⟩ (.int .i64 11))) := (HT7.out.trans (KeepsOthers.setCell w7 ⟨w.heap.size, 0, none⟩ (.slice none 0 0))).trans (KeepsOthers.setCell _ ⟨w.heap.size + 1, 0, none⟩ (.int .i64 11))
            have BA := Lib.hid bA3
            have BB := Lib.hid bB3
            clear bA2 bB2 bA3 bB3
            gi_wp2
            exact ⟨HT9.out.from _, rfl, BA.out, BB.out, ⟨pre.length, hbt, (a, x), by rw [HLOG.out]; exact HMEM.out, HMA.out⟩, HB9.out⟩
          · have HMA := Lib.hid hma
            obtain ⟨_, p1, p2, _⟩ := mayA_bd hma
            rw [← hnt] at p2
            clear hma
            obtain ⟨N, rfl⟩ : ∃ N : Nat, a = N := ⟨a.toNat, by omega⟩
            have b4 : (0 : Int) ≤ N := by omega
            have hNn : N < n := by omega
            have hco := HS7.out.o.cell
            have hcy := own_get HS7.out.row N hNn
            have hfr : w7.frozen? ⟨go, N, none⟩ = false := HS7.out.row.frozenAt _
            have HS8 : Hid (St w.heap.size w.heap.size (w.heap.size + 1) gb ob go cap n s L r (setAll (repTo xs pre.length) (es.take (k + 1))) (w7.setCell ⟨go, N, none⟩ (.int .u64 x))) := by
              have h := HS7.out.set N hNn x
              rw [HTK.out, setAll_snoc]
              exact h
            obtain ⟨cur, hcur, hngo⟩ := HS7.out.rowAt
            have HB8 : Hid (Below w.heap.size w (w7.setCell ⟨go, N, none⟩ (.int .u64 x))) := HB7.out.setCell (p := ⟨go, N, none⟩) hngo _
            have HT8 : Hid (KeepsOthers W (w7.setCell ⟨go, N, none⟩ (.int .u64 x))) := HT7.out.trans (KeepsOthers.setCell _ _ _)
            have HL8 : Hid (KL w.heap.size W (w7.setCell ⟨go, N, none⟩ (.int .u64 x))) := HL7.out.trans (KL.set HS7.out N _)
            have HO8 : Hid (OwnE (w7.setCell ⟨go, N, none⟩ (.int .u64 x)) w.heap.size (.slice (some ad) m d) es) := ownE_set HO7.out hcur
            clear HS7 HB7 HT7 HL7 HO7 hcur
            gi_wp2
            go_roundw
            case rel =>
              refine ⟨k + 1, by omega, by go_num, HS8, HO8, HB8, HT8, HL8, ?_⟩
              intro e he
              rw [HTK.out] at he
              rcases List.mem_append.1 he with he | he
              · exact HMq.out e he
              · simp only [List.mem_singleton] at he
                subst he
                exact HMA.out
            case measure => simp [intOf]; omega
        · obtain rfl : k = m := by omega
          have hlv : laneV s L r pre.length = laneAt pre.length := by unfold laneV laneAt; rw [if_pos ⟨HV.out.1, by omega, hbt⟩]; omega
          have HLV := fun W => Lib.hid (laneV_any s L r pre.length W)
          rw [hlv] at HLV
          have hpn : laneAt pre.length < n := by unfold laneAt; omega
          have HRP : Hid (repTo xs (pre.length + 1) = (setAll (repTo xs pre.length) (es.take k)).set (laneAt pre.length) 0) := by
            unfold Hid
            rw [repTo, HLOG.out, List.take_of_length_le (by rw [HML.out]; exact Nat.le_refl _)]
          have HTKA : Hid (es.take k = es) := List.take_of_length_le (by rw [HML.out]; exact Nat.le_refl _)
          clear hlv
          generalize laneAt pre.length = p at *
          have b4 : (0 : Int) ≤ p := by omega
          have b5 : (p : Int) < n := by omega
          have HKD : Hid (Kp wr wr.drew) := Kp.self.drew
          have q0 := HKD.out.cell (cellAt (i := 0) HSq.out.g rfl)
          have q1 := HKD.out.cell (cellAt (i := 1) HSq.out.g rfl)
          have q2 := HKD.out.cell (cellAt (i := 2) HSq.out.g rfl)
          have q3 := HKD.out.cell HSq.out.o.cell
          gi_wp2_with fail
          gi_region_with_o (refine ⟨trivial, ?_⟩; gi_at_call 124; refine (CallsIn.inRound ly (callsIn_wide.2 (HLV _).out)).mono ?_; rintro e w8 ⟨rfl, hk8⟩; have q4 := hk8.cell q3; have HK8 := Lib.hid (HKD.out.trans hk8); have HS8 := Lib.hid (HSq.out.kp HK8.out); have hcy := own_get HS8.out.row p hpn; have hfr : w8.frozen? ⟨go, p, none⟩ = false := HS8.out.row.frozenAt _; clear hk8)
          all_goals gi_wp2
          all_goals (
            obtain ⟨cur, hcur, hngo⟩ := HS8.out.rowAt
            have hS9 := HS8.out.set p hpn 0
            rw [← HRP.out] at hS9
            refine ⟨(HTq.out.trans ((others_kp HK8.out).trans (KeepsOthers.setCell _ _ _))).from _, HLq.out.trans ((KL.kp HK8.out).trans (KL.set HS8.out p _)), ?_, ?_, (Below.trans HBq.out (HK8.out.mono HBq.out.size)).setCell (p := ⟨go, p, none⟩) hngo _⟩
            · rw [List.length_append]
              exact hS9
            · intro t ht e he
              rw [List.length_append] at ht
              simp only [List.length_cons, List.length_nil] at ht
              by_cases h : t = pre.length
              · subst h
                rw [HLOG.out, ← HTKA.out] at he
                exact HMq.out e he
              · exact HMY.out t (by omega) e he)
    case done =>
      rintro D ys W hD hlen ⟨hST, hMY, hBel⟩ hK
      have ho := hST.o.cell
      have hr2 := hST.r2.cell
      have hf2 := hST.r2.frozen
      have nr2 := hST.r2.not_row (by decide) hST.row
      have nr3 := hST.r3.not_row (by decide) hST.row
      have bA2 := hST.r2.set (.slice (some ⟨go, 0, none⟩) n cap)
      have bB2 := hST.r3.kept (grownBy_setCell' W w.heap.size (.slice (some ⟨go, 0, none⟩) n cap)) (by intro e; injection e with e; omega)
      have hr3 := bB2.cell
      have hf3 := bB2.frozen
      have bA3 := bA2.kept (grownBy_setCell' _ (w.heap.size + 1) (.int .i64 0)) (by intro e; injection e with e; omega)
      have bB3 := bB2.set (.int .i64 0)
      have row3 := (hST.row.kept (grownBy_setCell' W w.heap.size (.slice (some ⟨go, 0, none⟩) n cap)) (.inr nr2.symm)).kept (grownBy_setCell' _ (w.heap.size + 1) (.int .i64 0)) (.inr nr3.symm)
      have hB3 : Below w.heap.size w ((W.setCell ⟨w.heap.size, 0, none⟩ (.slice (some ⟨go, 0, none⟩) n cap)).setCell ⟨w.heap.size + 1, 0, none⟩ (.int .i64 0)) := (hBel.setCell (p := ⟨w.heap.size, 0, none⟩) (by simp) _).setCell (p := ⟨w.heap.size + 1, 0, none⟩) (by simp) _
      have hK3 := ((KeepsOthers.setCell W ⟨w.heap.size, 0, none⟩ (.slice (some ⟨go, 0, none⟩) n cap)).trans (KeepsOthers.setCell _ ⟨w.heap.size + 1, 0, none⟩ (.int .i64 0))).same D _ hK rfl
      have HLEN := Lib.hid hlen
      have HMY := Lib.hid hMY
      clear hST hMY hBel nr2 nr3 bA2 bB2 hlen
      gi_wp2
      generalize (W.setCell ⟨w.heap.size, 0, none⟩ (.slice (some ⟨go, 0, none⟩) n cap)).setCell ⟨w.heap.size + 1, 0, none⟩ (.int .i64 0) = W3 at *
      refine ⟨by simp, .inl ⟨_, _, rfl, run_takeDeferred hK3, ?_⟩⟩
      have hgr : ∀ r, (some D : Option Nat) = some r → ∃ o : Obj, W3.heap[r]? = some o ∧ o.isCells = false := fun r e => by cases e; exact ⟨_, hK3, rfl⟩
      have c1 := (boxed_at bA3 (grownBy_putObj' W3 D (.deferred none)) hgr).cell
      have c2 := (boxed_at bB3 (grownBy_putObj' W3 D (.deferred none)) hgr).cell
      have row4 := row_at row3 (grownBy_putObj' W3 D (.deferred none)) hgr
      refine ⟨.tuple #[.slice (some ⟨go, 0, none⟩) n cap, .int .i64 0], by simp [results, Try.results64, go_sem, c1, c2], _, repTo xs L, true, rfl, ?_, .inl ⟨rfl, s, L, r, HV.out, fun t ht => HMY.out t (by rw [HLEN.out]; omega), by rw [Int.toNat_natCast]⟩, hB3.trans (belowK_b (w := w) (Nat.le_refl _) W3 D _ _ (by omega) hK3 rfl rfl)⟩
      rw [HLEN.out] at row4
      unfold OwnI
      rw [repTo_len, HR.out.1]
      exact row4
    case stop =>
      rintro D cd pre W hD hpf ⟨rfl, h2, h3, hbad, hBel⟩ hK
      have HBAD := Lib.hid hbad
      clear hbad
      gi_wp2
      refine ⟨by simp, .inl ⟨_, _, rfl, run_takeDeferred hK, ?_⟩⟩
      have hgr : ∀ r, (some D : Option Nat) = some r → ∃ o : Obj, W.heap[r]? = some o ∧ o.isCells = false := fun r e => by cases e; exact ⟨_, hK, rfl⟩
      have c1 := (boxed_at h2 (grownBy_putObj' W D (.deferred none)) hgr).cell
      have c2 := (boxed_at h3 (grownBy_putObj' W D (.deferred none)) hgr).cell
      refine ⟨.tuple #[.slice none 0 0, .int .i64 11], by simp [results, Try.results64, go_sem, c1, c2], _, [], false, rfl, World.ownsRow_nil _ _ _ _, .inr ⟨rfl, rfl, fun s' l' r' hv => ?_⟩, hBel.trans (belowK_b (w := w) (Nat.le_refl _) W D _ _ (by omega) hK rfl rfl)⟩
      obtain ⟨rfl, rfl, rfl⟩ := hv.uniq HV.out
      exact HBAD.out
end Go.Proofs.Ytpmbjlmplfejgaa
