/- A text's lines: plain, and the iterator over them, walked. No condition. -/
import Derived.Test.YtlldjildedbjlaaDoorToldC
import Derived.Test.YtlldjildedbjlaaDoorRange
import Derived.Shelf.Abstract
import Derived.Shelf.RegionOpen
import Derived.WalkKit
import Derived.OwnWalkIn
import Derived.TacticsInMore
import Derived.LoopNIn
import Derived.LoopIn
namespace Go.Proofs.YtlldjildedbjlaaDoor.ToldW
open Go.RowKit Go.Proofs.YtlldjildedbjlaaDoor.Com Go.Proofs.YtlldjildedbjlaaDoor.Ord Go.Proofs.YtlldjildedbjlaaDoor.Bor Go.Proofs.YtlldjildedbjlaaDoor.Rng Go.Proofs.YtlldjildedbjlaaDoor.ToldP
set_option linter.unusedVariables false
attribute [local go_sem] Oper.semAt_some
/-- The lines of a text, and whether each is ended. -/
def linesF : Nat → List UInt8 → List (List UInt8 × Bool)
  | 0, _ => []
  | n + 1, s => if s = [] then [] else ((Lib.cut s [10]).1, (Lib.cut s [10]).2.2) :: linesF n (Lib.cut s [10]).2.1
def linesP (s : List UInt8) : List (List UInt8 × Bool) := linesF s.length s
theorem cut_rest (s : List UInt8) (h : s ≠ []) : (Lib.cut s [10]).2.1.length < s.length := by
  have h0 : 0 < s.length := List.length_pos_iff.2 h
  unfold Lib.cut
  split <;> simp <;> omega
theorem linesF_enough : ∀ (n : Nat) (s : List UInt8), s.length ≤ n → linesF n s = linesF s.length s
  | 0, s, h => by
    have : s = [] := List.eq_nil_of_length_eq_zero (by omega)
    subst this; rfl
  | n + 1, s, h => by
    by_cases hs : s = []
    · subst hs; rfl
    · have h1 := cut_rest s hs
      obtain ⟨m, hm⟩ : ∃ m, s.length = m + 1 := ⟨s.length - 1, by have := List.length_pos_iff.2 hs; omega⟩
      rw [hm, linesF, linesF, if_neg hs, if_neg hs, linesF_enough n _ (by omega), linesF_enough m _ (by omega)]
theorem linesP_nil : linesP [] = [] := rfl
theorem linesP_cons (s : List UInt8) (hs : s ≠ []) : linesP s = ((Lib.cut s [10]).1, (Lib.cut s [10]).2.2) :: linesP (Lib.cut s [10]).2.1 := by
  unfold linesP
  have h1 := cut_rest s hs
  obtain ⟨m, hm⟩ : ∃ m, s.length = m + 1 := ⟨s.length - 1, by omega⟩
  rw [hm, linesF, if_neg hs, linesF_enough m _ (by omega)]
theorem cut10_calls (x : List UInt8) (hx : x.length ≤ 100000) (w : World) (hG : Glob w) :
    Calls Tryd.prog 20 #[str x, .string ⟨#[10]⟩] w fun e w' => e = .returned (.tuple #[str (Lib.cut x [10]).1, str (Lib.cut x [10]).2.1, .bool (Lib.cut x [10]).2.2]) ∧ ∃ n, w' = w.drewN n := by
  obtain ⟨m, hm⟩ := hG.most
  have h := Tryd.strings_Cut ⟨x.toArray⟩ ⟨#[10]⟩ m w (by show x.toArray.size < _; simp; omega) hm
  have e : (⟨x.toArray⟩ : ByteArray).data.toList = x := by simp
  have e2 : (⟨#[10]⟩ : ByteArray).data.toList = [10] := rfl
  rw [e, e2] at h
  exact h
def lenOf : Option Value → Nat
  | some (.string b) => b.size
  | _ => 0
set_option maxRecDepth 100000 in
set_option maxHeartbeats 2000000 in
theorem lines_iter (s : List UInt8) (hs : s.length ≤ 100000) (Bn : Nat) (w : World) (hB : Blk w Bn 9 #[str s]) :
    Iter Tryd.prog [Bn] 19 #[.pointer (some ⟨Bn, 0, none⟩)] (fun x : List UInt8 × Bool => #[str x.1, .bool x.2]) (fun x => x.1.length ≤ 100000) Glob (fun xs => xs = linesP s) (fun pre => pre <+: linesP s) w := by
  intro l J Jx W hkx hsx hG hJ hJx hY h0
  have hB1 : Blk W Bn 9 #[str s] := (hsx Bn List.mem_cons_self).trans hB
  refine callsIn_of_wp Tryd.func19 rfl trivial ?_ rfl
  simp only [Tryd.ntmps19, List.size_toArray, List.length_cons, List.length_nil, Nat.reduceAdd, Nat.reduceSub, Array.replicate_succ, Array.replicate_zero, List.push_toArray, List.append_toArray, List.nil_append, List.cons_append]
  gi_wp2
  gi_loopw [3] (fun p wr => ∃ (pre : List (List UInt8 × Bool)) (r : List UInt8), linesP s = pre ++ linesP r ∧ r.length ≤ 100000 ∧ Blk wr Bn 9 #[str r] ∧ J pre wr) (fun p wr => lenOf (wr.cell? ⟨Bn, 0, none⟩))
  case atStart => exact ⟨[], s, rfl, hs, hB1, h0⟩
  case round =>
    obtain ⟨pre, r, hl, hrl, hBr, hj⟩ := hrel
    have hc := hBr.cell 0
    have hf := hBr.frozen 0
    simp only [List.getElem?_toArray, List.getElem?_cons_zero] at hc
    have hlen : lenOf (wr.cell? ⟨Bn, 0, none⟩) = r.length := by rw [hc]; show r.toArray.size = _; simp
    by_cases hr : r = []
    · subst hr
      rw [linesP_nil, List.append_nil] at hl
      unfold str at hc
      gi_wp2
      go_end0
      exact ⟨⟨_, rfl⟩, .inl ⟨pre, hl.symm, hj⟩⟩
    · have he : r.isEmpty = false := by cases r with
        | nil => exact absurd rfl hr
        | cons => rfl
      have hlc := linesP_cons r hr
      have hcr := cut_rest r hr
      have q1 := Lib.hid (cut10_calls r hrl wr (hG _ _ hj))
      have hc1 : (Lib.cut r [10]).1.length ≤ 100000 := by
        have : (Lib.cut r [10]).1.length ≤ r.length := by unfold Lib.cut; split <;> simp <;> omega
        omega
      generalize Lib.cut r [10] = cx at *
      have hkz : ∀ n4, KX [Bn] wr ((wr.drewN n4).setCell ⟨Bn, 0, none⟩ (str cx.2.1)) := fun n4 =>
        ((KX.refl [Bn] wr).step (b_drewN (b_refl wr) n4)).turn (g := Bn) (.inl List.mem_cons_self) rfl rfl rfl (by simp) (fun k hk => Below.heap_setCell _ _ _ _ hk)
      have hBz : ∀ n4, Blk ((wr.drewN n4).setCell ⟨Bn, 0, none⟩ (str cx.2.1)) Bn 9 #[str cx.2.1] := fun n4 => (hBr.drewN n4).set_ 0 _
      have q2 := Lib.hid (fun n4 => hY pre (cx.1, cx.2.2) _ (hJ _ _ _ hj (hkz n4)) hc1)
      have hl2 : Hid (linesP s = (pre ++ [(cx.1, cx.2.2)]) ++ linesP cx.2.1) := Lib.hid (by rw [hl, hlc]; simp)
      have hz := Lib.hid hBz
      clear hBz hkz hlc hr hl
      unfold str at q1 q2 hc
      gi_wp2_with (refine ⟨trivial, ?_⟩; gi_at_call 20; refine (callsIn_wide.2 q1.out).mono ?_; rintro e w4 ⟨rfl, n4, rfl⟩; obtain ⟨fn, tmps, assign, body, hy, hR⟩ := q2.out n4)
      refine hR.mono ?_
      rintro e W' (⟨rfl, hJ', hk⟩ | ⟨rfl, hJx'⟩)
      · have hB' : Blk W' Bn 9 #[str cx.2.1] := (hk Bn List.mem_cons_self).trans (hz.out n4)
        have hc' := hB'.cell 0
        simp only [List.getElem?_toArray, List.getElem?_cons_zero] at hc'
        have hlen' : lenOf (W'.cell? ⟨Bn, 0, none⟩) = cx.2.1.length := by rw [hc']; show cx.2.1.toArray.size = _; simp
        have hm := Lib.hid (show lenOf (W'.cell? ⟨Bn, 0, none⟩) < lenOf (wr.cell? ⟨Bn, 0, none⟩) by rw [hlen, hlen']; exact hcr)
        clear hlen hlen'
        gi_wp2
        go_roundw
        case rel => exact ⟨_, cx.2.1, hl2.out, by omega, hB', hJ'⟩
        case measure => exact hm.out
      · gi_wp2
        refine bodyPost_ret (results_none rfl _ _ _) rfl ?_
        exact ⟨⟨_, rfl⟩, .inr ⟨_, ⟨_, hl2.out.symm⟩, hJx'⟩⟩
/-- The iterator's make. -/
theorem lines_calls (s : List UInt8) (w : World) :
    Calls Tryd.prog 12 #[str s] w fun e w' => e = .returned (.func (.func 19) #[] #[.pointer (some ⟨w.heap.size, 0, none⟩)]) ∧ w' = w.alloc (.cells #[str s] 9) := by
  unfold str
  go_enter Tryd.func12, Tryd.ntmps12
  go_wp2_with fail
  go_ret
  exact ⟨rfl, rfl⟩
end Go.Proofs.YtlldjildedbjlaaDoor.ToldW
