/- Layer 11's walks: may it be a line? No condition. -/
import Derived.Test.YtefihmfilahppaaLine
namespace Go.Proofs.Ytefihmfilahppaa.LineW
open Go.RowKit Go.Proofs.Ytefihmfilahppaa.Com Go.Proofs.Ytefihmfilahppaa.StampW Go.Proofs.Ytefihmfilahppaa.RightsW Go.Proofs.Ytefihmfilahppaa.Ord
set_option linter.unusedVariables false
def rightB (n who : Int) (l : List Req) (k : Nat) : Bool := (List.range k).all fun j => !wrongB n who l j
/-- May it be a line? -/
def mayL (c : Cfg) (who : Int) (l : List Req) : Bool := mayC c && (decide (0 ≤ who) && (decide (who < c.N) && (decide ((l.length : Int) ≤ c.Q) && rightB c.N who l l.length)))
theorem rightB_succ (n who : Int) (l : List Req) (k : Nat) : rightB n who l (k + 1) = (rightB n who l k && !wrongB n who l k) := by
  unfold rightB
  rw [List.range_succ, List.all_append]
  simp
theorem rightB_false {n who : Int} {l : List Req} {k m : Nat} (h : wrongB n who l k = true) (hk : k < m) : rightB n who l m = false := by
  unfold rightB
  rw [List.all_eq_false]
  exact ⟨k, List.mem_range.2 hk, by simp [h]⟩
set_option maxRecDepth 100000 in
set_option maxHeartbeats 1000000 in
theorem LMay_calls (c : Cfg) (who : Int) (A : Option Addr) (n cap : Nat) (l : List Req) (w : World) (hr : Reads w 3 A n (cellsR l)) (hn : n ≤ 1000000) :
    Calls Try.prog 33 #[cfgV c, .int .i64 who, .slice A n cap] w fun e w' => e = .returned (.bool (mayL c who l)) ∧ Below w.heap.size w w' := by
  have hll : l.length = n := by have := hr.1; rw [cellsR_len] at this; omega
  have hm : Hid (mayL c who l = (mayC c && (decide (0 ≤ who) && (decide (who < c.N) && (decide ((n : Int) ≤ c.Q) && rightB c.N who l n))))) := Lib.hid (by unfold mayL; rw [hll])
  generalize hb1 : mayC c = b1 at hm
  have q1 := Lib.hid (fun (w : World) => hb1 ▸ RightsW.May_calls c w)
  clear hb1
  have q2 := Lib.hid (wrong_calls c who)
  unfold cfgV at q1 ⊢
  cases b1
  · rw [show mayL c who l = false by rw [hm.out]; rfl]
    clear hm q2
    go_enter Try.func33, Try.ntmps33
    go_wp2_with (go_at_call 48; refine (q1.out _).mono ?_; rintro e w1 ⟨rfl, hb⟩)
    go_ret
    exact ⟨rfl, b_step (by repeat (first | exact b_refl _ | apply b_drew | apply b_drewN | apply b_alloc)) hb⟩
  by_cases g1 : who < 0
  · rw [show mayL c who l = false by rw [hm.out, decide_eq_false (show ¬ 0 ≤ who by omega)]; rfl]
    clear hm q2
    have d1 : decide (who < 0) = true := decide_eq_true g1
    go_enter Try.func33, Try.ntmps33
    go_wp2_with (go_at_call 48; refine (q1.out _).mono ?_; rintro e w1 ⟨rfl, hb⟩; (have z4 := b_keep (a := ⟨w.heap.size + 1, 0, none⟩) (v := .int .i64 who) hb (by go_simp)))
    go_ret
    exact ⟨rfl, b_step (by repeat (first | exact b_refl _ | apply b_drew | apply b_drewN | apply b_alloc)) hb⟩
  have d1 : decide (who < 0) = false := decide_eq_false g1
  by_cases g2 : c.N ≤ who
  · rw [show mayL c who l = false by rw [hm.out, decide_eq_false (show ¬ who < c.N by omega)]; simp]
    clear hm q2
    have d2 : decide (who ≥ c.N) = true := decide_eq_true g2
    go_enter Try.func33, Try.ntmps33
    go_wp2_with (go_at_call 48; refine (q1.out _).mono ?_; rintro e w1 ⟨rfl, hb⟩; (have z0 := b_keep (a := ⟨w.heap.size, 0, none⟩) (v := .int .i64 c.N) hb (by go_simp); have z1 := b_keep (a := ⟨w.heap.size, 1, none⟩) (v := .int .i64 c.Q) hb (by go_simp); have z4 := b_keep (a := ⟨w.heap.size + 1, 0, none⟩) (v := .int .i64 who) hb (by go_simp); have z5 := b_keep (a := ⟨w.heap.size + 2, 0, none⟩) (v := .slice A n cap) hb (by go_simp)))
    go_ret
    exact ⟨rfl, b_step (by repeat (first | exact b_refl _ | apply b_drew | apply b_drewN | apply b_alloc)) hb⟩
  have d2 : decide (who ≥ c.N) = false := decide_eq_false g2
  by_cases g3 : c.Q < n
  · rw [show mayL c who l = false by rw [hm.out, decide_eq_false (show ¬ (n : Int) ≤ c.Q by omega)]; simp]
    clear hm q2
    have d3 : decide ((n : Int) > c.Q) = true := decide_eq_true g3
    go_enter Try.func33, Try.ntmps33
    go_wp2_with (go_at_call 48; refine (q1.out _).mono ?_; rintro e w1 ⟨rfl, hb⟩; (have z0 := b_keep (a := ⟨w.heap.size, 0, none⟩) (v := .int .i64 c.N) hb (by go_simp); have z1 := b_keep (a := ⟨w.heap.size, 1, none⟩) (v := .int .i64 c.Q) hb (by go_simp); have z4 := b_keep (a := ⟨w.heap.size + 1, 0, none⟩) (v := .int .i64 who) hb (by go_simp); have z5 := b_keep (a := ⟨w.heap.size + 2, 0, none⟩) (v := .slice A n cap) hb (by go_simp)))
    go_ret
    exact ⟨rfl, b_step (by repeat (first | exact b_refl _ | apply b_drew | apply b_drewN | apply b_alloc)) hb⟩
  have d3 : decide ((n : Int) > c.Q) = false := decide_eq_false g3
  have hm2 : Hid (mayL c who l = rightB c.N who l n) := Lib.hid (by
    rw [hm.out, decide_eq_true (show 0 ≤ who by omega), decide_eq_true (show who < c.N by omega), decide_eq_true (show (n : Int) ≤ c.Q by omega)]; rfl)
  clear hm
  go_enter Try.func33, Try.ntmps33
  go_wp2_with (first
    | (go_at_call 48; refine (q1.out _).mono ?_; rintro e w1 ⟨rfl, hb⟩; (have z0 := b_keep (a := ⟨w.heap.size, 0, none⟩) (v := .int .i64 c.N) hb (by go_simp); have z1 := b_keep (a := ⟨w.heap.size, 1, none⟩) (v := .int .i64 c.Q) hb (by go_simp); have z4 := b_keep (a := ⟨w.heap.size + 1, 0, none⟩) (v := .int .i64 who) hb (by go_simp); have z5 := b_keep (a := ⟨w.heap.size + 2, 0, none⟩) (v := .slice A n cap) hb (by go_simp); have z2 := b_keep (a := ⟨w.heap.size, 2, none⟩) (v := .int .i64 c.R) hb (by go_simp); have z3 := b_keep (a := ⟨w.heap.size, 3, none⟩) (v := .int .i64 c.P) hb (by go_simp); have z6 := b_keep (a := ⟨w.heap.size, 4, none⟩) (v := .int .i64 c.K) hb (by go_simp); have z7 := b_keep (a := ⟨w.heap.size, 5, none⟩) (v := .int .i64 c.C) hb (by go_simp))))
  have hb' : Below w.heap.size w w1 := b_step (by repeat (first | exact b_refl _ | apply b_drew | apply b_drewN | apply b_alloc)) hb
  replace hr := hr.below hb'
  go_loopw [32, 8] (fun i s wr => ∃ k : Nat, i = .int .i64 k ∧ k ≤ n ∧ Hid (rightB c.N who l k = true) ∧ Below w1.heap.size w1 wr) (fun i _ _ => n - (intOf i).toNat)
  case atStart => exact ⟨0, rfl, by omega, Lib.hid rfl, b_refl _⟩
  case round =>
    obtain ⟨k, rfl, hk, hq, hbr⟩ := hrel
    by_cases hlt : k < n
    · have hq2 := Lib.hid (rightB_succ c.N who l k)
      have hq3 := Lib.hid (fun (h : wrongB c.N who l k = true) => rightB_false h hlt)
      have q3 := q2.out w.heap.size (w.heap.size + 1) (w.heap.size + 2) A n cap k l wr (hr.below hbr) hlt hn (b_keep hbr z0) (b_keep hbr z1) (b_keep hbr z2) (b_keep hbr z3) (b_keep hbr z6) (b_keep hbr z7) (b_keep hbr z4) (b_keep hbr z5)
      generalize wrongB c.N who l k = r at q3 hq2 hq3
      have q3 := Lib.hid q3
      clear q2
      cases r
      · go_wp2_with (go_at_call 49; refine (q3.out).mono ?_; rintro e w2 ⟨rfl, hb2⟩)
        go_roundw
        case rel => exact ⟨k + 1, by go_num, by omega, Lib.hid (by rw [hq2.out, hq.out]; rfl), b_step hbr hb2⟩
        case measure => simp [intOf]; omega
      · go_wp2_with (go_at_call 49; refine (q3.out).mono ?_; rintro e w2 ⟨rfl, hb2⟩)
        rw [show mayL c who l = false by rw [hm2.out]; have := hq3.out; simpa using this]
        go_ret
        exact ⟨rfl, b_step (b_step hb' hbr) hb2⟩
    · have hkn : Hid (mayL c who l = true) := Lib.hid (by
        obtain rfl : k = n := by omega
        rw [hm2.out, hq.out])
      go_wp2_with fail
      rw [hkn.out]
      go_ret
      exact ⟨rfl, b_step hb' hbr⟩
end Go.Proofs.Ytefihmfilahppaa.LineW
