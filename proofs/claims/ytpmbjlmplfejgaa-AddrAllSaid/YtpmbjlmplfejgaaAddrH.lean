/- addr.All, addr.Within. -/
import Derived.Test.YtpmbjlmplfejgaaAddrG
namespace Go.Proofs.Ytpmbjlmplfejgaa
open Go.RowKit Go.Shelf
set_option linter.unusedVariables false
set_option linter.unusedSimpArgs false
attribute [local go_sem] Oper.semAt_some

/-- What a round of a loop over blocks keeps: what lay below n₀; boxes of geometries and of slices of heads. -/
def KB (n₀ : Nat) (A B : World) : Prop := n₀ ≤ A.heap.size → Below n₀ A B ∧ ∀ (b : Nat) (cs : Array Value) (t : TypeId), (t = 38 ∨ t = 74) → A.heap[b]? = some (.cells cs t (0, 0)) → B.heap[b]? = some (.cells cs t (0, 0))
theorem KB.refl (n₀ : Nat) (A : World) : KB n₀ A A := fun _ => ⟨Below.refl _ _, fun _ _ _ _ h => h⟩
theorem KB.trans {n₀ : Nat} {A B C : World} (h : KB n₀ A B) (k : KB n₀ B C) : KB n₀ A C := fun hn => by
  obtain ⟨h1, h2⟩ := h hn
  obtain ⟨k1, k2⟩ := k (Nat.le_trans hn h1.size)
  exact ⟨h1.trans k1, fun b cs t ht hb => k2 b cs t ht (h2 b cs t ht hb)⟩
theorem KB.kp {n₀ : Nat} {A B : World} (h : Kp A B) : KB n₀ A B := fun hn =>
  ⟨h.mono hn, fun b cs t _ hb => (h.block b (Array.getElem?_eq_some_iff.1 hb).1).trans hb⟩
theorem KB.putObj {n₀ : Nat} {w : World} (hn : n₀ ≤ w.heap.size) (W : World) (l : Nat) (o o' : Obj) (hl : w.heap.size ≤ l) (h : W.heap[l]? = some o) (hc : o.isCells = false) (hw : o.isWalk = false) : KB n₀ W (W.putObj l o') := fun _ =>
  ⟨belowK_b hn W l o o' hl h hc hw, fun b cs t _ hb => by
    have hne : b ≠ l := fun e => by
      subst e
      rw [h] at hb
      cases hb
      cases hc
    exact ((grownBy_putObj' W l o').block b (Array.getElem?_eq_some_iff.1 hb).1 (fun e => hne (by cases e; rfl))).trans hb⟩
theorem cellOf {W : World} {b i : Nat} {cs : Array Value} {t : TypeId} {v : Value} (h : W.heap[b]? = some (.cells cs t (0, 0))) (hv : cs[i]? = some v) : W.cell? ⟨b, i, none⟩ = some v := by
  unfold World.cell?
  simp [h, hv]

set_option maxRecDepth 100000 in
theorem blocksI_any (s l r : Int) (A : Option Addr) (n c : Nat) (w : World) :
    Calls Try.prog 121 #[geo s l r, .slice A n c] w fun e w' => e = .returned (.func (.func 164) #[] #[.pointer (some ⟨w.heap.size + 1, 0, none⟩), .pointer (some ⟨w.heap.size, 0, none⟩)]) ∧
      w' = (w.alloc (.cells #[.int .i64 s, .int .i64 l, .int .i64 r] 38)).alloc (.cells #[.slice A n c] 74) := by
  go_enter Try.func121, Try.ntmps121
  go_wp2
  go_ret
  exact ⟨rfl, rfl⟩
theorem blocks_stops (nn : Nat) (hnn : 1 ≤ nn) (s l r : Int) (A : Option Addr) (n c : Nat) (hs : List Hd) (w W : World) (hr : RdH w A n hs) (hc : n ≤ c) (hcm : c ≤ maxLen) (hwW : Kp w W) (bh bg : Nat)
    (h1 : W.heap[bh]? = some (.cells #[.slice A n c] 74 (0, 0))) (h2 : W.heap[bg]? = some (.cells #[.int .i64 s, .int .i64 l, .int .i64 r] 38 (0, 0))) :
    SeqStopsK Fence.wide nn Try.prog 164 #[.pointer (some ⟨bh, 0, none⟩), .pointer (some ⟨bg, 0, none⟩)] (fun x : Int × Int => #[Value.int .i64 x.1, Value.int .i64 x.2]) (KB w.heap.size) (fun ys => ys = yL s l r hs n) (fun pre => pre <+: yL s l r hs n) (yL s l r hs n).length W := by
  intro ly J Jx W1 hW1 hJ hJx hY h0
  refine blocks1_in nn hnn ly bh bg (KB w.heap.size) s l r A n c hs J Jx hc hcm (KB.refl _) (fun _ _ _ => KB.trans) (fun _ _ => KB.kp) (fun p X Y hp hk => hJ p X Y none hp (hk.to none) (fun r e => by cases e)) hY W1 ?_ h0
  intro W' hK
  have hsz : w.heap.size ≤ W1.heap.size := Nat.le_trans hwW.size hW1.size
  obtain ⟨k1, k2⟩ := hK hsz
  have b1 : W1.heap[bh]? = some (.cells #[.slice A n c] 74 (0, 0)) := (hW1.block bh (Array.getElem?_eq_some_iff.1 h1).1).trans h1
  have b2 : W1.heap[bg]? = some (.cells #[.int .i64 s, .int .i64 l, .int .i64 r] 38 (0, 0)) := (hW1.block bg (Array.getElem?_eq_some_iff.1 h2).1).trans h2
  have c1 := k2 bh _ _ (.inr rfl) b1
  have c2 := k2 bg _ _ (.inl rfl) b2
  have hkp : Kp w W' := Below.trans (Kp.trans hwW hW1) k1
  exact ⟨cellOf c1 rfl, hr.kp hkp, cellOf c2 rfl, cellOf c2 rfl, cellOf c2 rfl⟩

theorem info3 : (Try.prog.info? 3).map (fun i => (i.zero, i.size, i.bytes)) = some (some (.int .i64 0), 1, 8) := by kernel_rfl
/-- where all blocks begin -/
def begins (s l r : Int) (hs : List Hd) (n : Nat) : List Int := (allTo s l r hs n).map (·.1)
theorem begins_y (s l r : Int) (hs : List Hd) (n : Nat) : (yL s l r hs n).map Prod.fst = begins s l r hs n := by
  unfold yL begins
  rw [List.map_map]
  rfl
theorem kb_body {W w1 : World} {ob n₀ k : Nat} {v u : Value} {xs : List Value} {tmp : Obj} (hv : Boxed W ob 87 v) (hrow : W.ownsRow n₀ 3 1 v k xs) (hgrow : (W.alloc tmp).grownBy w1 v.ownBlock) :
    ∀ (b : Nat) (cs : Array Value) (t : TypeId), (t = 38 ∨ t = 74) → W.heap[b]? = some (.cells cs t (0, 0)) → (w1.setCell ⟨ob, 0, none⟩ u).heap[b]? = some (.cells cs t (0, 0)) := by
  intro b cs t ht hb
  have hlt := (Array.getElem?_eq_some_iff.1 hb).1
  have hne2 : b ≠ ob := fun e => by
    subst e
    rw [show W.heap[b]? = _ from hv] at hb
    injection hb with hb
    injection hb with h1 h2 h3
    subst h2
    rcases ht with h | h <;> cases h
  have hne1 : some b ≠ v.ownBlock := by
    rcases hrow.2 with ⟨rfl, _⟩ | ⟨g, cap, cur, rfl, _, hgb, _⟩
    · simp [Value.ownBlock]
    · intro e
      have e : b = g := by simpa [Value.ownBlock] using e
      subst e
      rw [hgb] at hb
      injection hb with hb
      injection hb with h1 h2 h3
      subst h2
      rcases ht with h | h <;> cases h
  have s1 : (W.alloc tmp).heap[b]? = some (.cells cs t (0, 0)) := (Kp.self.alloc tmp).block b hlt |>.trans hb
  have s2 := (hgrow.block b (Array.getElem?_eq_some_iff.1 s1).1 hne1).trans s1
  exact (Below.heap_setCell w1 ⟨ob, 0, none⟩ u b hne2).trans s2
set_option maxRecDepth 100000 in
set_option maxHeartbeats 2000000 in
theorem all_in (nn : Nat) (hn3 : 3 ≤ nn) (s l r : Int) (A : Option Addr) (n c : Nat) (hs : List Hd) (w : World) (hr : RdH w A n hs) (hc : n ≤ c) (hcm : c ≤ maxLen) (hn : n ≤ 40) :
    CallsIn Fence.wide nn Try.prog 61 #[geo s l r, .slice A n c] w fun e W' => ∃ v, e = .returned v ∧ OwnI W' w.heap.size 3 .i64 v (begins s l r hs n) ∧ Kp w W' := by
  have h1 : 1 ≤ nn := by omega
  obtain ⟨i0, hi, hz0, hz1, hz2⟩ := info_parts info3
  have HR := Lib.hid hr
  have HC := Lib.hid hcm
  have hll : (yL s l r hs n).length ≤ 32 * 40 := by rw [yL_len]; have := allTo_len s l r hs n; omega
  clear hr hcm
  refine callsIn_of_wp_marks Try.func61 rfl trivial ?_ rfl
  simp only [Try.ntmps61, List.size_toArray, List.length_cons, List.length_nil, Nat.reduceAdd, Nat.reduceSub, Array.replicate_succ, Array.replicate_zero, List.push_toArray, List.append_toArray, List.nil_append, List.cons_append]
  gi_wp2_with fail
  refine ⟨trivial, (callsIn_wide.2 (blocksI_any s l r A n c _)).mono ?_⟩
  rintro e w' ⟨rfl, rfl⟩
  have bG := World.alloc_heap_new w (.cells #[.int .i64 s, .int .i64 l, .int .i64 r] 38)
  have bO := Boxed.new (w.alloc (.cells #[.int .i64 s, .int .i64 l, .int .i64 r] 38)) 87 (.slice none 0 0)
  rw [World.size_alloc] at bO
  have hk1 : Kp w ((w.alloc (.cells #[.int .i64 s, .int .i64 l, .int .i64 r] 38)).alloc (.cells #[.slice none 0 0] 87)) := (Kp.self.alloc _).alloc _
  have hs1 : ((w.alloc (.cells #[.int .i64 s, .int .i64 l, .int .i64 r] 38)).alloc (.cells #[.slice none 0 0] 87)).heap.size = w.heap.size + 2 := by simp
  gi_wp2_with fail
  generalize (w.alloc (.cells #[.int .i64 s, .int .i64 l, .int .i64 r] 38)).alloc (.cells #[.slice none 0 0] 87) = W1 at *
  have e1 := World.alloc_heap_new W1 (.cells #[.int .i64 s, .int .i64 l, .int .i64 r] 38)
  have e2 := World.alloc_heap_new (W1.alloc (.cells #[.int .i64 s, .int .i64 l, .int .i64 r] 38)) (.cells #[.slice A n c] 74)
  rw [World.size_alloc, hs1] at e2
  rw [hs1] at e1
  refine wpIn_rangeFunc_ownG rfl h1 (gf := 164) (lb := #[.pointer (some ⟨w.heap.size + 2 + 1, 0, none⟩), .pointer (some ⟨w.heap.size + 2, 0, none⟩)]) rfl trivial (enters_of Try.func164 (by kernel_rfl) rfl)
    (blocks_stops (nn - 1) (by omega) s l r A n c hs w _ HR.out hc HC.out ((hk1.alloc _).alloc _) (w.heap.size + 2 + 1) (w.heap.size + 2) e2 ((Kp.self.alloc _).block _ (by simp; omega) |>.trans e1)) KB.trans (KB.putObj (by simp; omega)) (Below.refl _ _) (fun _ => rfl)
    (fun (pre : List (Int × Int)) W => (∃ v, Boxed W (w.heap.size + 1) 87 v ∧ W.ownsRow w.heap.size 3 1 v pre.length (nums .i64 (pre.map Prod.fst)) ∧ True) ∧ Below w.heap.size w W)
    (fun _ _ _ => False)
    (OwnFrom.and (Own.from (holdsRow_own w.heap.size (w.heap.size + 1) 87 3 1 (fun (pre : List (Int × Int)) => pre.length) (fun pre => nums .i64 (pre.map Prod.fst)) (fun pre v => True)) _) (ownFrom_below (Nat.le_refl _) (by simp; omega)))
    (fun _ _ _ _ _ hs _ _ => hs)
    ?init
    (fun (x : Int × Int) => { tmps := #[geo s l r, .slice A n c, .pointer (some ⟨w.heap.size, 0, none⟩), undef, .slice none 0 0, .pointer (some ⟨w.heap.size + 1, 0, none⟩), .int .i64 x.1, geo s l r, .slice A n c, .func (.func 164) #[] #[.pointer (some ⟨w.heap.size + 2 + 1, 0, none⟩), .pointer (some ⟨w.heap.size + 2, 0, none⟩)], .int .i64 x.1, .int .i64 x.2, undef, undef, undef, undef, undef], defers := [] }) ?assign ?body ?done ?stop
  case init => exact ⟨⟨_, (bO.alloc _).alloc _, World.ownsRow_nil _ _ _ _, trivial⟩, (hk1.alloc _).alloc _⟩
  case assign =>
    intro l x W K hK
    gi_wp2
    exact hK
  case body =>
    rintro l pre x W ⟨⟨v, hv, hrow, _⟩, hB⟩ hlt
    have hcv := hv.cell
    gi_wp2_with (gi_at_builtin; refine wpListIn_append_own _ rfl _ _ 87 rfl w.heap.size 3 i0 (.int .i64 0) 1 8 Try.underlying87 hi hz0 hz1 hz2 rfl (by decide) _ _ _ rfl (hrow.alloc _) ⟨W.heap.size, 0, none⟩ 1 1 [.int .i64 x.1] rfl rfl (cell_one_new _ _ _) (by simp [Value.oneCell']) (by simp only [maxLen]; omega) (by omega) (by have := hB.size; simp; omega) ?_; intro v' w1 hown' hgrow _; obtain ⟨g', cap', rfl⟩ := ownsRow_succ hown'; obtain ⟨hv1, hv2, hr2, hk2, hb2⟩ := hv.appended (by decide) hrow hB.size (by omega) hown' hgrow; have hc1 := hv1.cell; have hf1 := hv1.frozen)
    refine ⟨hk2.from _, ?_, ⟨⟨_, hv2, by simpa [nums] using hr2, trivial⟩, hB.trans hb2⟩⟩
    exact fun _ => ⟨hb2, kb_body hv hrow hgrow⟩
  case done =>
    rintro D ys W hD rfl ⟨⟨v, hv, hrow, _⟩, hB⟩ hK
    have hcv := hv.cell
    gi_wp2
    refine ⟨by simp, .inl ⟨_, _, rfl, run_takeDeferred hK, ?_⟩⟩
    refine ⟨_, results_tmp rfl _ _ _, v, rfl, ?_, hB.trans (belowK_b (w := w) (Nat.le_refl _) W D _ _ (by simp at hD; omega) hK rfl rfl)⟩
    have := ownsRow_putObj hrow (.deferred none) hK rfl
    rw [begins_y] at this
    unfold OwnI
    rw [show (begins s l r hs n).length = (yL s l r hs n).length by rw [← begins_y]; simp]
    exact this
  case stop =>
    rintro D c pre W _ _ h _
    exact h.elim
end Go.Proofs.Ytpmbjlmplfejgaa
