/- The image: replayed, as the reference has it. -/
import Derived.Test.YtpmbjlmplfejgaaImaC
import Derived.Test.YtpmbjlmplfejgaaSupF
import Derived.WalkMore
namespace Go.Proofs.Ytpmbjlmplfejgaa
open Go.RowKit
set_option linter.unusedVariables false
set_option linter.unusedSimpArgs false

def setAll (ys : List Int) (es : List Ent) : List Int := es.foldl (fun ys e => ys.set e.1.toNat e.2) ys
theorem setAll_snoc (ys : List Int) (es : List Ent) (e : Ent) : setAll ys (es ++ [e]) = (setAll ys es).set e.1.toNat e.2 := by simp [setAll]
theorem setAll_len (ys : List Int) (es : List Ent) : (setAll ys es).length = ys.length := by
  induction es generalizing ys with
  | nil => rfl
  | cons e es ih => simp only [setAll, List.foldl_cons] at ih ⊢; rw [ih]; simp
theorem take_snoc (es : List Ent) (k : Nat) (h : k < es.length) : es.take (k + 1) = es.take k ++ [entAt es k] := by rw [entAt_eq h, List.take_append_getElem h]
/-- the words, the logs of the lanes below k gone through -/
noncomputable def repTo (xs : List Int) : Nat → List Int
  | 0 => xs
  | t + 1 => (setAll (repTo xs t) (laneLog xs t)).set (laneAt t) 0
theorem repTo_len (xs : List Int) (t : Nat) : (repTo xs t).length = xs.length := by
  induction t with
  | zero => rfl
  | succ t ih => rw [repTo, List.length_set, setAll_len, ih]
/-- what words are replayed as -/
def RepP (xs : List Int) (n : Nat) (res : List Int) (ok : Bool) : Prop :=
  (ok = true ∧ ∃ s l r, Valid xs n s l r ∧ (∀ t : Nat, (t : Int) < l → ∀ e ∈ laneLog xs t, mayA s l r e.1 = true) ∧ res = repTo xs l.toNat) ∨
  (ok = false ∧ res = [] ∧ ∀ s l r, Valid xs n s l r → ∃ t : Nat, (t : Int) < l ∧ ∃ e ∈ laneLog xs t, mayA s l r e.1 = false)
theorem RepP.uniq {xs : List Int} {n : Nat} {a b : List Int} {p q : Bool} (h : RepP xs n a p) (k : RepP xs n b q) : a = b ∧ p = q := by
  rcases h with ⟨rfl, s, l, r, v, m, rfl⟩ | ⟨rfl, rfl, m⟩ <;> rcases k with ⟨rfl, s', l', r', v', m', rfl⟩ | ⟨rfl, rfl, m'⟩
  · obtain ⟨rfl, rfl, rfl⟩ := v.uniq v'
    exact ⟨rfl, rfl⟩
  · obtain ⟨t, ht, e, he, hf⟩ := m' s l r v
    rw [m t ht e he] at hf
    cases hf
  · obtain ⟨t, ht, e, he, hf⟩ := m s' l' r' v'
    rw [m' t ht e he] at hf
    cases hf
  · exact ⟨rfl, rfl⟩
/-- where a log may write -/
theorem mayA_bd {s l r a : Int} (h : mayA s l r a = true) : gMay s l r = true ∧ 8 ≤ a ∧ a < total s l ∧ (a < 16 ∨ 16 + 40 * l ≤ a) := by
  unfold mayA whereV at h
  cases hg : gMay s l r
  · rw [if_pos (.inl hg)] at h
    simp [mayP] at h
  · have hm := may_bd hg
    refine ⟨rfl, ?_⟩
    by_cases h0 : a < 0
    · rw [if_pos (.inr h0)] at h; simp [mayP] at h
    rw [if_neg (by simp [hg, h0])] at h
    by_cases h1 : a < 8
    · rw [if_pos h1] at h; simp [mayP] at h
    rw [if_neg h1] at h
    unfold total
    by_cases h2 : a < 8 + r
    · omega
    rw [if_neg h2] at h
    by_cases h3 : a < 16
    · omega
    rw [if_neg h3] at h
    by_cases h4 : a - 16 < 40 * l
    · rw [if_pos h4] at h; simp [mayP] at h
    rw [if_neg h4] at h
    by_cases h5 : a - 16 - 40 * l < 8 * s
    · omega
    rw [if_neg h5] at h
    by_cases h6 : a - 16 - 40 * l - 8 * s < 64 * s
    · omega
    rw [if_neg h6] at h
    simp [mayP] at h
theorem add_block (a : Addr) (j : Nat) : (a.add j).block = a.block := by unfold Addr.add; split <;> rfl
theorem rdE_set_ne {W : World} {g i n : Nat} {A : Option Addr} {es : List Ent} {u : Value} (h : RdE W A n es) (hne : ∀ ad, A = some ad → ad.block ≠ g) : RdE (W.setCell ⟨g, i, none⟩ u) A n es := by
  refine ⟨h.1, h.2.1, fun hn => ?_⟩
  obtain ⟨ad, e, hc⟩ := h.2.2 hn
  refine ⟨ad, e, fun j hj => ?_⟩
  obtain ⟨h1, h2⟩ := hc j hj
  have hb := hne ad e
  rw [cell_set_ne _ _ _ _ (by rw [add_block]; exact hb), cell_set_ne _ _ _ _ (by simp only [add_block]; exact hb)]
  exact ⟨h1, h2⟩

def GBox (W : World) (gb : Nat) (s l r : Int) : Prop := W.cell? ⟨gb, 0, none⟩ = some (.int .i64 s) ∧ W.cell? ⟨gb, 1, none⟩ = some (.int .i64 l) ∧ W.cell? ⟨gb, 2, none⟩ = some (.int .i64 r)
theorem GBox.kp {W W' : World} {gb : Nat} {s l r : Int} (h : GBox W gb s l r) (hk : Kp W W') : GBox W' gb s l r := ⟨hk.cell h.1, hk.cell h.2.1, hk.cell h.2.2⟩
theorem GBox.set {W : World} {gb g i : Nat} {s l r : Int} {u : Value} (h : GBox W gb s l r) (hne : gb ≠ g) : GBox (W.setCell ⟨g, i, none⟩ u) gb s l r := by
  unfold GBox
  rw [cell_set_ne _ _ _ _ (by simpa using hne), cell_set_ne _ _ _ _ (by simpa using hne), cell_set_ne _ _ _ _ (by simpa using hne)]
  exact h
theorem GBox.grown {W W' : World} {gb : Nat} {row : Option Nat} {s l r : Int} (h : GBox W gb s l r) (hg : W.grownBy W' row) (hne : ∀ k, row = some k → gb ≠ k) : GBox W' gb s l r := by
  have hb : W'.heap[gb]? = W.heap[gb]? := hg.block gb (World.block_lt_of_cell? W _ h.1) (fun e => hne gb e.symm rfl)
  unfold GBox
  rw [World.cell?_of_block (a := ⟨gb, 0, none⟩) hb, World.cell?_of_block (a := ⟨gb, 1, none⟩) hb, World.cell?_of_block (a := ⟨gb, 2, none⟩) hb]
  exact h

set_option maxHeartbeats 2000000 in
set_option maxRecDepth 100000 in
theorem rreplayed_any (A : Option Addr) (n c : Nat) (xs : List Int) (w : World) (hr : RdI w .u64 A n xs) (hx : InR 18446744073709551616 xs) (hc : n ≤ c) (hcm : c ≤ maxLen) (hA : A = none → n = 0 ∧ c = 0) (hn : n ≤ 10000) :
    Calls Try.prog 65 #[.slice A n c] w fun e w' => ∃ v res ok, e = .returned (.tuple #[v, .bool ok]) ∧ OwnI w' w.heap.size 28 .u64 v res ∧ RepP xs n res ok ∧ Kp w w' := by
  have HR := Lib.hid hr
  have HX := Lib.hid hx
  have HCM := Lib.hid hcm
  have HA := Lib.hid hA
  clear hr hx hcm hA
  go_enter Try.func65, Try.ntmps65
  go_wp2_with fail
  refine (rsread_any A n c xs _ HR.out).mono ?_
  rintro e w1 ⟨⟨⟨s, l, r⟩, ok, rfl, hrd⟩, hk⟩
  have HRD := Lib.hid hrd
  have HK := Lib.hid hk
  clear hrd hk
  unfold geov
  dsimp only
  cases ok
  · go_wp2
    go_ret2
    refine ⟨_, [], false, rfl, World.ownsRow_nil _ _ _ _, ?_, HK.out.alloc _⟩
    rcases HRD.out with ⟨h, _⟩ | ⟨_, _, h⟩
    · cases h
    · exact .inr ⟨rfl, rfl, fun s l r hv => absurd hv (h s l r)⟩
  · have HV : Hid (Valid xs n s l r) := by
      rcases HRD.out with ⟨_, h⟩ | ⟨h, _⟩
      · exact h
      · cases h
    have hm := may_bd HV.out.1
    have hnt : (n : Int) = total s l := HV.out.2.2.2
    have hn16 : 16 + 40 * l ≤ n := by rw [hnt]; unfold total; omega
    obtain ⟨L, rfl⟩ : ∃ L : Nat, l = L := ⟨l.toNat, by omega⟩
    have HO : Hid (OwnI ((w1.alloc (.cells #[.int .i64 s, .int .i64 L, .int .i64 r] 38)).alloc (.cells #[] 28)) w.heap.size 28 .u64 (.slice (some ⟨w1.heap.size + 1, 0, none⟩) 0 0) []) := by
      have := own_cells (w := (w1.alloc (.cells #[.int .i64 s, .int .i64 L, .int .i64 r] 38)).alloc (.cells #[] 28)) (base := w.heap.size) (g := w1.heap.size + 1) (e := 28) (k := .u64) (xs := []) (by have h := heap_alloc_new (w1.alloc (.cells #[.int .i64 s, .int .i64 L, .int .i64 r] 38)) (.cells #[] 28); rw [World.size_alloc] at h; exact h) (by have := HK.out.size; omega) (by simp)
      exact this
    have hbx := box3 (Kp.self (w := w1.alloc (.cells #[.int .i64 s, .int .i64 L, .int .i64 r] 38)))
    have HBX : Hid (∀ o, ((w1.alloc (.cells #[.int .i64 s, .int .i64 L, .int .i64 r] 38)).alloc o).cell? ⟨w1.heap.size, 0, none⟩ = some (.int .i64 s) ∧ ((w1.alloc (.cells #[.int .i64 s, .int .i64 L, .int .i64 r] 38)).alloc o).cell? ⟨w1.heap.size, 1, none⟩ = some (.int .i64 L) ∧ ((w1.alloc (.cells #[.int .i64 s, .int .i64 L, .int .i64 r] 38)).alloc o).cell? ⟨w1.heap.size, 2, none⟩ = some (.int .i64 r)) := fun o => ⟨(Kp.self.alloc o).cell hbx.1, (Kp.self.alloc o).cell hbx.2.1, (Kp.self.alloc o).cell hbx.2.2⟩
    clear hbx
    have HK2 : Hid (Kp w ((w1.alloc (.cells #[.int .i64 s, .int .i64 L, .int .i64 r] 38)).alloc (.cells #[] 28))) := (HK.out.alloc _).alloc _
    go_wp2_with (at_builtin; refine app_ints (w0 := w) w.heap.size rfl (.tmp 17) (.tmp 18) 27 28 .u64 8 rfl Try.underlying27 info28 (by decide) _ [] xs _ _ _ rfl rfl HA.out (HR.out.kp HK2.out) HO.out HK2.out HK2.out.size (by simp; omega) ?_)
    intro v1 w2 hown hk2 hgr hat
    have HG2 : Hid (GBox w2 w1.heap.size s L r) := GBox.grown (HBX.out _) hgr (fun k e => by simp [Value.ownBlock] at e; omega)
    have HO2 : Hid (w2.ownsRow w.heap.size 28 1 v1 n (nums .u64 xs)) := by
      have h : w2.ownsRow w.heap.size 28 1 v1 xs.length (nums .u64 xs) := hown
      rw [HR.out.1] at h
      exact h
    have HV1 : Hid (∃ go cap, v1 = .slice (some ⟨go, 0, none⟩) n cap ∧ w1.heap.size < go ∧ go < w2.heap.size) := by
      have h := HO2.out
      obtain ⟨m, rfl⟩ : ∃ m, n = m + 1 := ⟨n - 1, by omega⟩
      obtain ⟨go, cap, rfl⟩ := ownsRow_succ h
      refine ⟨go, cap, rfl, ?_, (h.lt go rfl).2⟩
      rcases hat with h' | ⟨b, h', hb⟩
      · simp [Value.ownBlock] at h'; omega
      · simp [Value.ownBlock] at h' hb; omega
    obtain ⟨go, cap, rfl, hgo, hgo2⟩ := HV1.out
    have HKb : Hid (Kp w w2) := hk2
    have HGO : Hid (w.heap.size ≤ go) := Nat.le_trans HK.out.size (by omega)
    have hgb : w1.heap.size ≠ go := by omega
    clear hown hk2 hgr hat HBX HO HK2 HV1
    generalize w1.heap.size = gb at *
    clear HK hgo
    go_wp2
    go_loopw [7] (fun q wr => ∃ t : Nat, t ≤ L ∧ q = .int .i64 t ∧ Hid (Kp w wr) ∧ Hid (go < wr.heap.size) ∧ Hid (GBox wr gb s L r) ∧ Hid (wr.ownsRow w.heap.size 28 1 (.slice (some ⟨go, 0, none⟩) n cap) n (nums .u64 (repTo xs t))) ∧ Hid (∀ t', t' < t → ∀ e ∈ laneLog xs t', mayA s L r e.1 = true)) (fun q _ => L - (intOf q).toNat)
    case atStart => exact ⟨0, by omega, rfl, HKb, hgo2, HG2, HO2, fun t' h => by omega⟩
    case round =>
      obtain ⟨t, ht, rfl, HKt, HLT, HGt, HOt, HMt⟩ := hrel
      obtain ⟨g0, g1, g2⟩ := HGt.out
      by_cases hlt : t < L
      · have b1 : (t : Int) < L := by omega
        have HLN := fun W h => Lib.hid (rlane_any s L r A n c xs t W HV.out.1 hnt b1 h HX.out hc HCM.out)
        go_wp2_with fail
        refine (HLN _ (HR.out.kp HKt.out)).out.mono ?_
        rintro e w4 ⟨v, es, rfl, hown, hlog, hin, hk4⟩
        have HB : Hid (∃ B d, v = .slice B es.length d ∧ (0 < es.length → ∀ ad, B = some ad → ad.block ≠ go)) := by
          rcases Nat.eq_zero_or_pos es.length with h | h
          · obtain ⟨B, d, rfl⟩ := own_slice hown
            exact ⟨B, d, rfl, fun h' => absurd h' (by omega)⟩
          · obtain ⟨m, hm⟩ : ∃ m, es.length = m + 1 := ⟨es.length - 1, by omega⟩
            have hown' : w4.ownsRow wr.heap.size 136 2 v es.length (entC es) := hown
            rw [hm] at hown'
            obtain ⟨ge, d, rfl⟩ := ownsRow_succ hown'
            have h1 := own_base hown' ge rfl
            have h2 := HLT.out
            exact ⟨_, d, by rw [hm], fun _ ad e => by injection e with e; subst e; show ge ≠ go; omega⟩
        obtain ⟨B, d, rfl, HBN⟩ := HB.out
        have hre : RdE w4 B es.length es := by
          obtain ⟨B', d', e, h⟩ := own_rdE hown
          injection e with e1 e2 e3
          subst e1
          exact h
        have HRE := Lib.hid hre
        have HLOG := Lib.hid hlog
        have HIN := Lib.hid hin
        have HK4 : Hid (Kp w w4) := Kp.trans HKt.out hk4
        have HLT4 : Hid (go < w4.heap.size) := by have := hk4.size; have := HLT.out; show go < w4.heap.size; omega
        have HG4 : Hid (GBox w4 gb s L r) := GBox.kp HGt.out hk4
        have HO4 : Hid (w4.ownsRow w.heap.size 28 1 (.slice (some ⟨go, 0, none⟩) n cap) n (nums .u64 (setAll (repTo xs t) (es.take 0)))) := own_kp HOt.out hk4
        have hml : es.length ≤ 9223372036854775807 := HRE.out.2.1
        generalize hm' : es.length = m at *
        have HML := Lib.hid hm'
        clear hown hre hlog hin hk4 HKt HLT HGt HOt g0 g1 g2 hm' HLN
        go_wp2
        go_loopw [9] (fun q wq => ∃ k : Nat, k ≤ m ∧ q = .int .i64 k ∧ Hid (Kp w wq) ∧ Hid (go < wq.heap.size) ∧ Hid (GBox wq gb s L r) ∧ Hid (wq.ownsRow w.heap.size 28 1 (.slice (some ⟨go, 0, none⟩) n cap) n (nums .u64 (setAll (repTo xs t) (es.take k)))) ∧ Hid (RdE wq B m es) ∧ Hid (∀ e ∈ es.take k, mayA s L r e.1 = true)) (fun q _ => m - (intOf q).toNat)
        case atStart => exact ⟨0, by omega, rfl, HK4, HLT4, HG4, HO4, HRE, fun e h => by simp at h⟩
        case round =>
          obtain ⟨k, hk, rfl, HKq, HLTq, HGq, HOq, HEq, HMq⟩ := hrel
          obtain ⟨g0, g1, g2⟩ := HGq.out
          by_cases hkm : k < m
          · obtain ⟨ad, rfl, c1, c2⟩ := HEq.out.at_ k hkm
            have hne := HBN (by omega) ad rfl
            have hen := HIN.out (entAt es k) (by rw [entAt_eq (by rw [HML.out]; exact hkm)]; exact List.getElem_mem _)
            have HTK : Hid (es.take (k + 1) = es.take k ++ [entAt es k]) := take_snoc es k (by rw [HML.out]; exact hkm)
            have HMEM : Hid (entAt es k ∈ es) := by rw [entAt_eq (by rw [HML.out]; exact hkm)]; exact List.getElem_mem _
            generalize hea : entAt es k = ea at *
            obtain ⟨a, x⟩ := ea
            clear hea
            simp only at c1 c2 hen
            have b2 : (0 : Int) ≤ k := by omega
            have b3 : (k : Int) < m := by omega
            have HMY : Hid (∀ W : KW wr, Calls Try.prog 74 #[geo s L r, .int .i64 a] W.1 fun e w' => e = .returned (.bool (mayA s L r a)) ∧ Kp W.1 w') := fun W => rmayA_any s L r a W.1
            have q0 := fun W : KW wr => W.cell g0
            have q1 := fun W : KW wr => W.cell g1
            have q2 := fun W : KW wr => W.cell g2
            have q3 := fun W : KW wr => W.cell c1
            go_wp2
            refine wp_region_kw wr Kp.self (by kernel_rfl) (by kernel_rfl) ?_
            repeat (any_goals (first | go_big_quiet_step ((go_at_call 74; exact kw_call (HMY.out _))) | quiet_step ((go_at_call 74; exact kw_call (HMY.out _)))))
            refine wpQuiet_nil ?_
            rintro w7 ⟨W, e⟩
            have hk7 : Kp wr w7 := e ▸ W.2
            have HK7 : Hid (Kp w w7) := Kp.trans HKq.out hk7
            have HLT7 : Hid (go < w7.heap.size) := Nat.lt_of_lt_of_le HLTq.out hk7.size
            have HG7 : Hid (GBox w7 gb s L r) := GBox.kp HGq.out hk7
            have HO7 : Hid (w7.ownsRow w.heap.size 28 1 (.slice (some ⟨go, 0, none⟩) n cap) n (nums .u64 (setAll (repTo xs t) (es.take k)))) := own_kp HOq.out hk7
            have HE7 : Hid (RdE w7 (some ad) m es) := RdE.kp HEq.out hk7
            have c1 := hk7.cell c1
            have c2 := hk7.cell c2
            clear q0 q1 q2 q3 e W HMY hk7 HKq HLTq HGq HOq HEq g0 g1 g2
            cases hma : mayA s L r a
            · have HMA := Lib.hid hma
              clear hma
              go_wp2
              go_ret2
              refine ⟨_, [], false, rfl, World.ownsRow_nil _ _ _ _, .inr ⟨rfl, rfl, fun s' l' r' hv => ?_⟩, HK7.out⟩
              obtain ⟨rfl, rfl, rfl⟩ := hv.uniq HV.out
              exact ⟨t, b1, (a, x), by rw [HLOG.out]; exact HMEM.out, HMA.out⟩
            · have HMA := Lib.hid hma
              obtain ⟨_, p1, p2, _⟩ := mayA_bd hma
              rw [← hnt] at p2
              clear hma
              obtain ⟨N, rfl⟩ : ∃ N : Nat, a = N := ⟨a.toNat, by omega⟩
              have b4 : (0 : Int) ≤ N := by omega
              have hNn : N < n := by omega
              have q1 := fun W : KW w7 => W.cell c1
              have q2 := fun W : KW w7 => W.cell c2
              go_wp2
              refine wp_region_kw_tail 11 w7 Kp.self (by kernel_rfl) (by kernel_rfl) ?_
              simp only [List.take_succ_cons, List.take_zero, List.drop_succ_cons, List.drop_zero]
              repeat (any_goals (first | go_big_quiet_step (fail) | quiet_step (fail)))
              refine wpQuiet_nil ?_
              rintro w8 ⟨W, e⟩
              have hk8 : Kp w7 w8 := e ▸ W.2
              have HLT8 : Hid (go < (w8.setCell ⟨go, N, none⟩ (.int .u64 x)).heap.size) := by have := hk8.size; have := HLT7.out; show go < _; simp; omega
              have HO8 : Hid (w8.ownsRow w.heap.size 28 1 (.slice (some ⟨go, 0, none⟩) n cap) n (nums .u64 (setAll (repTo xs t) (es.take k)))) := own_kp HO7.out hk8
              have hcy := own_get HO8.out N hNn
              have hfr : w8.frozen? ⟨go, N, none⟩ = false := HO8.out.frozenAt _
              have HO9 := Lib.hid (ownI_set HO8.out N hNn x)
              have HK9 : Hid (Kp w (w8.setCell ⟨go, N, none⟩ (.int .u64 x))) := (Kp.trans HK7.out hk8).set _ _ HGO.out
              have HE9 : Hid (RdE (w8.setCell ⟨go, N, none⟩ (.int .u64 x)) (some ad) m es) := rdE_set_ne (HE7.out.kp hk8) (fun ad' e => by injection e with e; subst e; exact hne)
              have HG9 : Hid (GBox (w8.setCell ⟨go, N, none⟩ (.int .u64 x)) gb s L r) := GBox.set (HG7.out.kp hk8) hgb
              clear hk8 HK7 HLT7 HG7 HO7 HE7 HO8 q1 q2 e W c1 c2
              go_wp2
              go_roundw
              case rel =>
                refine ⟨k + 1, by omega, by go_num, HK9, HLT8, HG9, ?_, HE9, ?_⟩
                · rw [HTK.out, setAll_snoc]
                  exact HO9
                · intro e he
                  rw [HTK.out] at he
                  rcases List.mem_append.1 he with he | he
                  · exact HMq.out e he
                  · simp only [List.mem_singleton] at he
                    subst he
                    exact HMA.out
              case measure => simp [intOf]; omega
          · obtain rfl : k = m := by omega
            have HLV := fun W => Lib.hid (rlaneV_any s L r t W)
            have hlv : laneV s L r t = laneAt t := by unfold laneV laneAt; rw [if_pos ⟨HV.out.1, by omega, b1⟩]; omega
            rw [hlv] at HLV
            have HP : Hid (laneAt t = laneAt t) := rfl
            have hpn : laneAt t < n := by unfold laneAt; omega
            have HTK : Hid (es.take k = es) := List.take_of_length_le (by rw [HML.out]; exact Nat.le_refl _)
            have HRP : Hid (repTo xs (t + 1) = (setAll (repTo xs t) es).set (laneAt t) 0) := by unfold Hid; rw [repTo, HLOG.out]
            generalize laneAt t = p at *
            go_wp2_with fail
            refine (HLV _).out.mono ?_
            rintro e w8 ⟨rfl, hk8⟩
            have b4 : (0 : Int) ≤ p := by omega
            have b5 : (p : Int) < n := by omega
            have HLT8 : Hid (go < (w8.setCell ⟨go, p, none⟩ (.int .u64 0)).heap.size) := by have := hk8.size; have := HLTq.out; show go < _; simp; omega
            have HO8 : Hid (w8.ownsRow w.heap.size 28 1 (.slice (some ⟨go, 0, none⟩) n cap) n (nums .u64 (setAll (repTo xs t) (es.take k)))) := own_kp HOq.out hk8
            have hcy := own_get HO8.out p hpn
            have hfr : w8.frozen? ⟨go, p, none⟩ = false := HO8.out.frozenAt _
            have HO9 := Lib.hid (ownI_set HO8.out p hpn 0)
            have HK9 : Hid (Kp w (w8.setCell ⟨go, p, none⟩ (.int .u64 0))) := (Kp.trans HKq.out hk8).set _ _ HGO.out
            have HG9 : Hid (GBox (w8.setCell ⟨go, p, none⟩ (.int .u64 0)) gb s L r) := GBox.set (HGq.out.kp hk8) hgb
            clear hk8 HKq HLTq HGq HOq HEq HO8 HLV hlv
            go_wp2
            go_roundw
            case rel =>
              refine ⟨t + 1, by omega, by go_num, HK9, HLT8, HG9, ?_, ?_⟩
              · rw [HRP.out]
                have h := HO9.out
                rw [HTK.out] at h
                exact h
              · intro t' ht' e he
                by_cases h : t' = t
                · subst h
                  rw [HLOG.out, ← HTK.out] at he
                  exact HMq.out e he
                · exact HMt.out t' (by omega) e he
            case measure => simp [intOf]; omega
      · obtain rfl : t = L := by omega
        go_wp2
        go_ret2
        refine ⟨_, _, true, rfl, ?_, .inl ⟨rfl, s, t, r, HV.out, fun t' h => HMt.out t' (by omega), rfl⟩, HKt.out⟩
        have h := HOt.out
        unfold OwnI
        rw [Int.toNat_natCast, repTo_len, HR.out.1]
        exact h

end Go.Proofs.Ytpmbjlmplfejgaa
