/- The law EntryTurned, as a walk. -/
import Derived.Test.YtpmbjlmplfejgaaEntI
import Derived.Test.YtpmbjlmplfejgaaSumE
import Derived.Test.YtpmbjlmplfejgaaHeadG
namespace Go.Proofs.Ytpmbjlmplfejgaa
open Go.RowKit
set_option linter.unusedVariables false
set_option linter.unusedSimpArgs false

theorem RdI.drop1 {w : World} {k : IntKind} {g n : Nat} {xs : List Int} (h : RdI w k (some ⟨g, 0, none⟩) n xs) : RdI w k (some ⟨g, 1, none⟩) (n - 1) (xs.drop 1) := by
  refine ⟨by rw [List.length_drop, h.1], by have := h.2.1; omega, fun hp => ⟨_, rfl, fun j hj => ?_⟩⟩
  obtain ⟨ad', e, hc⟩ := h.at_ (1 + j) (by omega)
  injection e with e
  subst e
  rw [add0] at hc
  rw [Addr.add_lit, List.getElem?_drop]
  exact hc
/-- a log of which a bit was turned is not read as that log -/
theorem turned_log {es fs : List Ent} {ys : List Int} {k b : Nat} {ok : Bool} (hm : entMay es = true) (he : InE es) (hk : k < 2 * es.length + 1) (hb : b < 64)
    (hy : ys = (sealI (entW es) :: entW es).set k (bits .xor .u64 ((sealI (entW es) :: entW es)[k]?.getD 0) (2 ^ b)))
    (h : RdLog (ys[0]?.getD 0) (ys.drop 1) fs ok) : (ok = false ∧ fs = []) ∨ (ok = true ∧ es ≠ fs) := by
  have hl : (sealI (entW es) :: entW es).length = 2 * es.length + 1 := by rw [List.length_cons, entW_len]
  have hyl : ys.length = 2 * es.length + 1 := by rw [hy, List.length_set, hl]
  have hr : InR 18446744073709551616 (sealI (entW es) :: entW es) := by
    have hlen : (entW es).length ≤ 32 := by rw [entW_len]; have := (entMay_len hm).2; omega
    intro x hx
    rcases List.mem_cons.1 hx with rfl | hx
    · have := crc_rng (entW es)
      unfold sealI
      omega
    · exact entW_rng he hm x hx
  have hne : ys ≠ sealI (entW es) :: entW es := by
    intro e
    have h1 : ys[k]?.getD 0 = bits .xor .u64 ((sealI (entW es) :: entW es)[k]?.getD 0) (2 ^ b) := by
      rw [hy, List.getElem?_set_self (by rw [hl]; exact hk)]
      rfl
    rw [e] at h1
    have := hr.getD (by decide) k
    exact xor_turn_ne _ b hb this.1 this.2 h1.symm
  have hcons : ys = ys[0]?.getD 0 :: ys.drop 1 := by
    cases ys with
    | nil => simp at hyl
    | cons y t => simp
  rcases h with ⟨h0, rfl, rfl⟩ | ⟨h0, rfl, h1⟩ | ⟨h0, rfl, h1, _⟩
  · refine .inr ⟨rfl, fun e => ?_⟩
    have := (entMay_len hm).1
    rw [e] at this
    simp at this
  · refine .inr ⟨rfl, fun e => ?_⟩
    subst e
    have h2 := h1.2.1
    have h3 := h1.2.2.2
    rw [List.take_of_length_le (by rw [List.length_drop, hyl]; omega)] at h3
    rw [hcons, h2, h3] at hne
    exact hne rfl
  · exact .inl ⟨rfl, h1⟩

set_option maxHeartbeats 1000000 in
set_option maxRecDepth 100000 in
theorem law_EntryTurned (A : Option Addr) (n c : Nat) (es : List Ent) (at_ bit : Nat) (w : World) (hr : RdE w A n es) (he : InE es) (ha : at_ < 256) (hbit : bit < 256) :
    Calls Try.prog 11 #[.slice A n c, .int .u8 at_, .int .u8 bit] w fun e w' => e = .returned (.bool true) ∧ Kp w w' := by
  have HR := Lib.hid hr
  have HE := Lib.hid he
  clear hr he
  cases hmay : entMay es
  · have HMY := Lib.hid hmay
    clear hmay
    go_enter Try.func11, Try.ntmps11
    go_wp2_with fail
    refine (alive10 _).mono ?_
    rintro e w1 ⟨rfl, hk⟩
    go_wp2_with fail
    refine (ermay_any A n c es _ (HR.out.kp hk)).mono ?_
    rw [HMY.out]
    rintro e w2 ⟨rfl, hk2⟩
    go_wp2
    go_ret
    exact ⟨rfl, hk.trans hk2⟩
  · have hwe : wordsE es = entW es := by unfold wordsE; rw [hmay]; rfl
    have hse : sealE es = sealI (entW es) := by unfold sealE; rw [hmay]; rfl
    have hel : (entW es).length = 2 * es.length := entW_len es
    obtain ⟨N, hN⟩ : ∃ N, N = 2 * es.length + 1 := ⟨_, rfl⟩
    have hN0 : 3 ≤ N ∧ N ≤ 33 := by have := entMay_len hmay; omega
    have hsr : 0 ≤ sealI (entW es) ∧ sealI (entW es) < 18446744073709551616 := by
      have := crc_rng (entW es)
      unfold sealI
      rw [hel]
      omega
    have hwr := entW_rng HE.out hmay
    have HTL := Lib.hid (fun ys k b fs ok hk hb hy h => turned_log (fs := fs) (ys := ys) (k := k) (b := b) (ok := ok) hmay HE.out hk hb hy h)
    have HW := Lib.hid hwe
    have HS := Lib.hid hse
    have HMY := Lib.hid hmay
    have HWR := Lib.hid hwr
    have HEL := Lib.hid hel
    have HN := Lib.hid hN
    clear hwe hse hmay hwr hel hN
    go_enter Try.func11, Try.ntmps11
    go_wp2_with fail
    refine (alive10 _).mono ?_
    rintro e w1 ⟨rfl, hk⟩
    have HK1 := Lib.hid hk
    clear hk
    go_wp2_with fail
    refine (ermay_any A n c es _ (HR.out.kp HK1.out)).mono ?_
    rw [HMY.out]
    rintro e w2 ⟨rfl, hk2⟩
    have HK2 := Lib.hid (HK1.out.trans hk2)
    clear hk2
    go_wp2_with fail
    refine (eseal_any A n c es _ (HR.out.kp HK2.out) HE.out).mono ?_
    rw [HS.out]
    rintro e w3 ⟨rfl, hk3⟩
    have HK3 := Lib.hid (HK2.out.trans hk3)
    clear hk3
    generalize hq : sealI (entW es) = q at *
    have HQ := Lib.hid hq
    clear hq
    have HO3 : Hid (OwnI (w3.alloc (.cells #[.int .u64 q] 28)) w.heap.size 28 .u64 (.slice (some ⟨w3.heap.size, 0, none⟩) 1 1) [q]) := rd_own (xs := [q]) HK3.out.size (by simp)
    have HK3' : Hid (Kp w (w3.alloc (.cells #[.int .u64 q] 28))) := HK3.out.alloc _
    go_wp2_with fail
    generalize w3.alloc (.cells #[.int .u64 q] 28) = w4 at *
    generalize w3.heap.size = g0 at *
    refine (ewords_any A n c es _ (HR.out.kp HK3'.out) HE.out).mono ?_
    rw [show EWordsPost es w4 = fun e w' => ∃ v, e = .returned v ∧ OwnI w' w4.heap.size 28 .u64 v (entW es) ∧ Kp w4 w' by unfold EWordsPost; rw [HW.out]]
    rintro e w5 ⟨v, rfl, hown, hk5⟩
    obtain ⟨A1, c1, rfl, hrd1⟩ := own_rd hown
    have HO5 : Hid (OwnI w5 w.heap.size 28 .u64 (.slice (some ⟨g0, 0, none⟩) 1 1) [q]) := own_kp HO3.out hk5
    have HK5 : Hid (Kp w w5) := Kp.trans HK3'.out hk5
    have HD5 := Lib.hid hrd1
    have hA1 : A1 = none → (entW es).length = 0 ∧ c1 = 0 := by
      intro e
      subst e
      rcases hown.2 with ⟨h1, h2⟩ | ⟨g, cap, cur, h1, _⟩
      · injection h1 with a b d
        exact ⟨b, d⟩
      · injection h1 with a b d
        cases a
    have HA1 := Lib.hid hA1
    clear hown hk5 hrd1 hA1 HO3 HK3'
    go_wp2_with (at_builtin; refine app_ints (w0 := w) w.heap.size rfl (.tmp 18) (.tmp 20) 27 28 .u64 8 rfl Try.underlying27 info28 (by decide) _ [q] (entW es) _ _ _ rfl rfl HA1.out HD5.out HO5.out HK5.out HK5.out.size ?c1 ?_)
    case c1 => have := HN.out; rw [HEL.out]; simp; omega
    intro v1 w6 hown hk6 _ _
    have hown : w6.ownsRow w.heap.size 28 1 v1 N (nums .u64 (q :: entW es)) := by
      have e : ([q] ++ entW es).length = N := by rw [List.length_append, HEL.out, HN.out]; simp; omega
      rw [← e]
      exact hown
    have HK6 : Hid (Kp w w6) := hk6
    clear hk6
    obtain ⟨g, cap, rfl, hb, hg⟩ := hown.form (by omega)
    have HO := Lib.hid hown
    have HCAP := Lib.hid (own_le hown)
    clear hown
    have HG := Lib.hid hg
    clear hg
    have hk0 : at_ % N < N := Nat.mod_lt _ (by omega)
    obtain ⟨A', c', e', hrd⟩ := own_rd HO.out
    injection e' with e1 e2 e3
    subst e1; subst e3
    obtain ⟨ad, e1, hc⟩ := hrd.at_ (at_ % N) hk0
    injection e1 with e1
    subst e1
    rw [add0] at hc
    have hfr : w6.frozen? ⟨g, at_ % N, none⟩ = false := HO.out.frozenAt _
    have hxr : InR 18446744073709551616 (q :: entW es) := by
      intro x hx
      rcases List.mem_cons.1 hx with rfl | hx
      · exact hsr
      · exact HWR.out x hx
    have hv : 0 ≤ (q :: entW es)[at_ % N]?.getD 0 ∧ (q :: entW es)[at_ % N]?.getD 0 < 18446744073709551616 := hxr.getD (by decide) _
    have hwp := wrap_pow (bit % 64) (by omega)
    have hys : InR 18446744073709551616 ((q :: entW es).set (at_ % N) (bits .xor .u64 ((q :: entW es)[at_ % N]?.getD 0) (2 ^ (bit % 64)))) := hxr.set _ _ (xor64_rng _ _)
    have HO2 := Lib.hid (ownI_set HO.out (at_ % N) hk0 (bits .xor .u64 ((q :: entW es)[at_ % N]?.getD 0) (2 ^ (bit % 64))))
    have HT : Hid (∀ fs ok, RdLog (((q :: entW es).set (at_ % N) (bits .xor .u64 ((q :: entW es)[at_ % N]?.getD 0) (2 ^ (bit % 64))))[0]?.getD 0) (((q :: entW es).set (at_ % N) (bits .xor .u64 ((q :: entW es)[at_ % N]?.getD 0) (2 ^ (bit % 64)))).drop 1) fs ok → (ok = false ∧ fs = []) ∨ (ok = true ∧ es ≠ fs)) := fun fs ok h =>
      HTL.out _ (at_ % N) (bit % 64) fs ok (by rw [← HN.out]; exact hk0) (by omega) rfl h
    clear HTL
    go_wp2_with fail
    have HK7 : Hid (Kp w (w6.setCell ⟨g, at_ % N, none⟩ (.int .u64 (bits .xor .u64 ((q :: entW es)[at_ % N]?.getD 0) (2 ^ (bit % 64)))))) := Kp.set HK6.out _ _ hb
    generalize w6.setCell ⟨g, at_ % N, none⟩ (.int .u64 (bits .xor .u64 ((q :: entW es)[at_ % N]?.getD 0) (2 ^ (bit % 64)))) = w7 at *
    generalize (q :: entW es).set (at_ % N) (bits .xor .u64 ((q :: entW es)[at_ % N]?.getD 0) (2 ^ (bit % 64))) = ys at *
    obtain ⟨A', c', e', hrd2⟩ := own_rd HO2.out
    injection e' with e1 e2 e3
    subst e1; subst e3
    have hc0 := own_get HO2.out 0 (by omega)
    have HRD := Lib.hid hrd2.drop1
    have hy0 := hys.getD (by decide) 0
    have HYS : Hid (InR 18446744073709551616 (ys.drop 1)) := fun x hx => hys x (List.mem_of_mem_drop hx)
    clear hrd2 hrd hc hfr hv hwp HO HO2
    generalize ys[0]?.getD 0 = y0 at *
    generalize ys.drop 1 = zs at *
    have m1 : ¬ cap = 1 := by have := HCAP.out.1; omega
    have m2 : (1 : Int) ≤ N := by omega
    have m3 : (N : Int) ≤ cap := by have := HCAP.out.1; omega
    have m4 : (cap : Int) ≤ 9223372036854775807 := by have := HCAP.out.2; simp only [maxLen] at this; omega
    have m5 : (0 : Int) < N := by omega
    have m6 : 0 < N := by omega
    refine wp_region_Md [] (fun w' => Kp w7 w') (by kernel_rfl) ?_
    refine anyM_takes (fuel := 6) [0, 1, 2, 3, 4] (by kernel_rfl) (by kernel_rfl) (by kernel_rfl) (fun d _ _ _ _ h => by cases d <;> exact h) Kp.self.drew ?_
    iterate 5
      refine takes_pos (v := ?_) rfl (by rfl) ?_ ?_
      rotate_left
      · intro w' hS
        have s0 := Kp.cell hS hc0
        go_simp
        rfl
      simp only [List.getElem_toArray, List.getElem_cons_succ, List.getElem_cons_zero, Act.put, List.setIfInBounds_toArray, List.set_cons_zero, List.set_cons_succ]
    refine takes_nil ?_
    refine anyM_step 5 (by kernel_rfl) rfl ?_
    go_wp2_with fail
    refine (eread_any y0 (some ⟨g, 1, none⟩) (N - 1) (cap - 1) zs _ hy0.1 hy0.2 (HRD.out.kp Kp.self.drew) HYS.out (by omega) (Nat.le_trans (Nat.sub_le _ _) HCAP.out.2)).mono ?_
    rintro e w8 ⟨fs, ok, v, rfl, hrd, hown, _, hk8⟩
    obtain ⟨A8, c8, rfl, hr8⟩ := own_rdE hown
    have HK8 : Hid (Kp w w8) := Kp.trans HK7.out (Kp.self.drew.trans hk8)
    have hk78 : Kp w7 w8 := Kp.self.drew.trans hk8
    have hres := HT.out fs ok hrd
    have HR8 := Lib.hid hr8
    clear hrd hown hk8 hr8 HT HRD HYS HK7
    obtain ⟨er, her⟩ : ∃ er, er = (if ok then (0 : Int) else 11) := ⟨_, rfl⟩
    rw [← her]
    have HER := Lib.hid her
    clear her
    go_wp2_with fail
    refine ⟨fun _ => hk78, ?_⟩
    refine anyM_takes (fuel := 0) [6, 7, 8, 9, 10] (by kernel_rfl) (by kernel_rfl) (by kernel_rfl) (fun d _ _ _ _ h => by cases d <;> exact h) hk78 ?_
    iterate 5
      refine takes_pos (v := ?_) rfl (by rfl) ?_ ?_
      rotate_left
      · intro w' hS
        go_simp
        rfl
      simp only [List.getElem_toArray, List.getElem_cons_succ, List.getElem_cons_zero, Act.put, List.setIfInBounds_toArray, List.set_cons_zero, List.set_cons_succ]
    refine takes_nil ?_
    refine ⟨by kernel_rfl, ?_⟩
    clear hk78
    rcases hres with ⟨rfl, rfl⟩ | ⟨rfl, hne⟩
    · obtain rfl : er = 11 := HER.out
      have hl : (([] : List Ent).length : Int) = 0 := rfl
      go_wp2
      go_ret
      exact ⟨rfl, HK8.out⟩
    · obtain rfl : er = 0 := HER.out
      have HNE := Lib.hid hne
      clear hne
      go_wp2_with fail
      refine (same_any _ _ _ _ _ _ _ _ _ (HR.out.kp HK8.out) HR8.out).mono ?_
      rintro e w9 ⟨rfl, hk9⟩
      go_wp2
      go_ret
      exact ⟨ret_bool (by simp [HNE.out]), Kp.trans HK8.out hk9⟩
theorem law_EntryTurned' {A : Option Addr} {n c : Nat} {es : List Ent} {a b : Int} {W : World} (h : IsEnts W A n c es) (ha : (Lit.int .u8 a).wf = true) (hb : (Lit.int .u8 b).wf = true) :
    Calls Try.prog 11 #[.slice A n c, .int .u8 a, .int .u8 b] W fun e w' => e = .returned (.bool true) ∧ Kp W w' := by
  have h1 := wf_u8 ha
  have h2 := wf_u8 hb
  obtain ⟨a, rfl⟩ := Int.eq_ofNat_of_zero_le h1.1
  obtain ⟨b, rfl⟩ := Int.eq_ofNat_of_zero_le h2.1
  exact law_EntryTurned A n c es a b W h.1 h.2.1 (by omega) (by omega)
end Go.Proofs.Ytpmbjlmplfejgaa
