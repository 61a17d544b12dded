/- The image: the log of a lane, as the reference reads it. -/
import Derived.Test.YtpmbjlmplfejgaaImaB
import Derived.Test.YtpmbjlmplfejgaaEntF
import Derived.Test.YtpmbjlmplfejgaaLibD
import Derived.DataElems
namespace Go.Proofs.Ytpmbjlmplfejgaa
open Go.RowKit
set_option linter.unusedVariables false
set_option linter.unusedSimpArgs false

open Classical in
/-- the log that a seal and words tell -/
noncomputable def lgOf (sl : Int) (ws : List Int) : List Ent := if h : ∃ es, RdLog sl ws es true then h.choose else []
theorem lgOf_eq {sl : Int} {ws : List Int} {es : List Ent} {ok : Bool} (h : RdLog sl ws es ok) : lgOf sl ws = es := by
  unfold lgOf
  cases ok with
  | true =>
    have hx : ∃ es, RdLog sl ws es true := ⟨es, h⟩
    rw [dif_pos hx]
    exact (RdLog.uniq hx.choose_spec h).1
  | false =>
    have hx : ¬ ∃ es, RdLog sl ws es true := fun ⟨fs, k⟩ => by have := (RdLog.uniq h k).2; cases this
    rw [dif_neg hx]
    rcases h with ⟨_, _, h⟩ | ⟨_, h, _⟩ | ⟨_, _, h, _⟩
    · cases h
    · cases h
    · exact h.symm
def laneAt (t : Nat) : Nat := 16 + 40 * t
/-- the log of lane t -/
noncomputable def laneLog (xs : List Int) (t : Nat) : List Ent := lgOf (xs[laneAt t]?.getD 0) ((xs.drop (laneAt t + 8)).take 32)
theorem RdI.sub {w : World} {k : IntKind} {ad : Addr} {n : Nat} {xs : List Int} (h : RdI w k (some ad) n xs) (lo m : Nat) (hl : lo + m ≤ n) : RdI w k (some (ad.add lo)) m ((xs.drop lo).take m) := by
  refine ⟨by rw [List.length_take, List.length_drop, h.1]; omega, by have := h.2.1; omega, fun hp => ⟨_, rfl, fun j hj => ?_⟩⟩
  obtain ⟨ad', e, hc⟩ := h.at_ (lo + j) (by omega)
  injection e with e
  subst e
  rw [Addr.add_add, take_getD _ _ _ hj, List.getElem?_drop]
  exact hc
theorem InR.drop {m : Int} {a : List Int} (h : InR m a) (n : Nat) : InR m (a.drop n) := fun x hx => h x (List.mem_of_mem_drop hx)

set_option maxHeartbeats 1000000 in
set_option maxRecDepth 100000 in
theorem rlane_any (s l r : Int) (A : Option Addr) (n c : Nat) (xs : List Int) (t : Nat) (w : World) (hg : gMay s l r = true) (hn : (n : Int) = total s l) (ht : (t : Int) < l) (hr : RdI w .u64 A n xs) (hx : InR 18446744073709551616 xs) (hc : n ≤ c) (hcm : c ≤ maxLen) :
    Calls Try.prog 79 #[geo s l r, .slice A n c, .int .i64 t] w fun e w' => ∃ v es, e = .returned v ∧ OwnE w' w.heap.size v es ∧ laneLog xs t = es ∧ InE es ∧ Kp w w' := by
  have hm := may_bd hg
  have hcc : c ≤ 9223372036854775807 := by simp only [maxLen] at hcm; omega
  have hlo : laneAt t + 40 ≤ n := by unfold laneAt; unfold total at hn; omega
  have hlv : laneV s l r t = laneAt t := by unfold laneV laneAt; rw [if_pos ⟨hg, by omega, ht⟩]; omega
  have HV := fun W => Lib.hid (rlaneV_any s l r t W)
  rw [hlv] at HV
  obtain ⟨ad, rfl, hc0⟩ := hr.at_ (laneAt t) (by omega)
  have hb := hx.getD (by decide) (laneAt t)
  have HS := fun W h => Lib.hid (erread_any (xs[laneAt t]?.getD 0) (some (ad.add (laneAt t + 8))) 32 (c - (laneAt t + 8)) ((xs.drop (laneAt t + 8)).take 32) W hb.1 hb.2 h ((hx.drop _).take _) (by omega) (by omega))
  have HSUB : Hid (RdI w .u64 (some (ad.add (laneAt t + 8))) 32 ((xs.drop (laneAt t + 8)).take 32)) := hr.sub _ _ (by omega)
  unfold laneLog
  generalize xs[laneAt t]?.getD 0 = x0 at *
  generalize (xs.drop (laneAt t + 8)).take 32 = ws at *
  generalize laneAt t = p at *
  have eA : ad.add (p + 8) = ⟨ad.block, ad.off + (p + 7 + 1), none⟩ := by rw [show p + 8 = p + 7 + 1 by omega, Addr.add_succ']
  rw [eA] at HS HSUB
  clear hr hx hcm hg hm hn hlv ht hb
  go_enter Try.func79, Try.ntmps79
  go_wp2_with fail
  refine (HV _).out.mono ?_
  rintro e w1 ⟨rfl, hk⟩
  have HK : Hid (Kp w w1) := (Kp.self.alloc _).trans hk
  have g0 := HK.out.cell hc0
  clear hk HV hc0
  have b1 : (0 : Int) ≤ p := by omega
  have b2 : (p : Int) < n := by omega
  have e1 := IntWalk.i64_in ((p : Int) + 8) ⟨by omega, by omega⟩
  have e2 := IntWalk.i64_in ((p : Int) + 40) ⟨by omega, by omega⟩
  have b3 : (0 : Int) ≤ (p : Int) + 8 := by omega
  have b4 : (p : Int) + 8 ≤ (p : Int) + 40 := by omega
  have b5 : (p : Int) + 40 ≤ c := by omega
  have b6 : ((p : Int) + 8).toNat = p + 8 := by omega
  have b7 : ((p : Int) + 40).toNat = p + 40 := by omega
  have b8 : ¬ p + 8 = c := by omega
  have b9 : p + 40 - (p + 8) = 32 := by omega
  go_wp2_with fail
  refine wp_region_Md [] (fun w' => Kp w1 w') (by kernel_rfl) ?_
  refine anyM_takes (fuel := 6) [0, 1, 2, 3, 4, 5, 6, 7, 8, 9] (by kernel_rfl) (by kernel_rfl) (by kernel_rfl) (fun d _ _ _ _ h => by cases d <;> exact h) Kp.self.drew ?_
  iterate 10
    refine takes_pos (v := ?_) rfl (by rfl) ?_ ?_
    rotate_left
    · intro w' hS
      have s0 := Kp.cell hS g0
      go_simp
      rfl
    simp only [List.getElem_toArray, List.getElem_cons_succ, List.getElem_cons_zero, Act.put, List.setIfInBounds_toArray, List.set_cons_zero, List.set_cons_succ]
  refine takes_nil ?_
  refine anyM_step 10 (by kernel_rfl) rfl ?_
  go_wp2_with fail
  refine (HS _ (HSUB.out.kp (HK.out.trans Kp.self.drew))).out.mono ?_
  rintro e w2 ⟨es, ok, v, rfl, hrd, hown, hin, hk2⟩
  have HK2 : Hid (Kp w w2) := HK.out.trans (Kp.self.drew.trans hk2)
  have hk12 : Kp w1 w2 := Kp.self.drew.trans hk2
  have HL : Hid (lgOf x0 ws = es) := lgOf_eq hrd
  have HO : Hid (OwnE w2 w.heap.size v es) := own_lower hown (by have := HK.out.size; simpa using this)
  have HIN := Lib.hid hin
  have HOK : Hid (ok = false → es = []) := fun h => by
    subst h
    rcases hrd with ⟨_, _, h⟩ | ⟨_, h, _⟩ | ⟨_, _, h, _⟩
    · cases h
    · cases h
    · exact h
  clear hk2 hrd hown hin HS HSUB HK
  go_wp2_with fail
  refine ⟨fun _ => hk12, ?_⟩
  refine anyM_takes (fuel := 0) [11, 12, 13, 14, 15] (by kernel_rfl) (by kernel_rfl) (by kernel_rfl) (fun d _ _ _ _ h => by cases d <;> exact h) hk12 ?_
  iterate 5
    refine takes_pos (v := ?_) rfl (by rfl) ?_ ?_
    rotate_left
    · intro w' hS
      go_simp
      rfl
    simp only [List.getElem_toArray, List.getElem_cons_succ, List.getElem_cons_zero, Act.put, List.setIfInBounds_toArray, List.set_cons_zero, List.set_cons_succ]
  refine takes_nil ?_
  refine ⟨by kernel_rfl, ?_⟩
  clear g0 hk12
  cases ok
  · obtain rfl := HOK.out rfl
    go_wp2
    go_ret
    first | exact ⟨_, [], rfl, World.ownsRow_nil _ _ _ _, HL.out, InE.nil, HK2.out⟩ | exact ⟨_, rfl, [], World.ownsRow_nil _ _ _ _, HL.out, InE.nil, HK2.out⟩
  · obtain ⟨B, d, rfl⟩ := own_slice HO.out
    go_wp2
    go_ret
    refine ⟨_, es, rfl, HO.out, HL.out, HIN.out, HK2.out⟩

end Go.Proofs.Ytpmbjlmplfejgaa
