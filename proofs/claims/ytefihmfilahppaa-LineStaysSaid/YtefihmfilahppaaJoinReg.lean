/- line.Join's region of open order. Printed by gen_join.py. No condition. -/
import Derived.Test.YtefihmfilahppaaLine3
namespace Go.Proofs.Ytefihmfilahppaa.LineW
open Go.RowKit Go.Proofs.Ytefihmfilahppaa.Com Go.Proofs.Ytefihmfilahppaa.StampW Go.Proofs.Ytefihmfilahppaa.RightsW Go.Proofs.Ytefihmfilahppaa.Ord
set_option linter.unusedVariables false
structure LJ (A : Option Addr) (n cap S : Nat) (cs : List Value) (r : Req) (a0 : Act) (w3 : World) (b : Nat → Bool) (a : Act) (w : World) (g31 : Nat) (v29 : Value) (v32 : Value) : Prop where
  same : Same a0 [28, 29, 30, 31, 32, 10] a
  below : Below w3.heap.size w3 w
  s28 : b 0 = true → a.tmps[28]? = some (.slice A n cap)
  s29 : b 1 = true → a.tmps[29]? = some v29
  s30 : b 2 = true → a.tmps[30]? = some (.agg #[.int .i64 r.t, .int .i64 r.o, .int .i64 r.am])
  s31 : b 3 = true → a.tmps[31]? = some (.slice (some ⟨g31, 0, none⟩) 1 1)
  s32 : b 4 = true → a.tmps[32]? = some v32
  s10 : b 5 = true → a.tmps[10]? = some v32
  W29 : b 1 = true → b 4 = false → w.ownsRow S 49 3 v29 n cs
  W31 : b 3 = true → b 4 = false → Blk w g31 49 #[.int .i64 r.t, .int .i64 r.o, .int .i64 r.am] ∧ S ≤ g31
  W32 : b 4 = true → w.ownsRow S 49 3 v32 (n + 1) (cs ++ cellsR [r])
theorem LJ_step0 (A : Option Addr) (n cap S : Nat) (cs : List Value) (r : Req) (a0 : Act) (w3 : World) {Q : Exit → Act → World → Prop} {ops : Array Oper} {oi : Oper} (hoi : ops[0]? = some oi) (ho : oi.op = .move (.tmp 2)) (hd : oi.dst = some 28) (hg : oi.guard = none) (hz : 33 ≤ a0.tmps.size) (hS : S = w3.heap.size) (h2 : a0.tmps[2]? = some (.slice A n cap)) :
    StepI Try.prog ops Q (fun b a w => ∃ g31 v29 v32, LJ A n cap S cs r a0 w3 b a w g31 v29 v32) 0 [] [1, 5] := by
  rintro b a w ⟨g31, v29, v32, f⟩ hb hon hoff
  simp only [List.forall_mem_cons, List.not_mem_nil, false_implies, implies_true, and_true] at hon hoff
  refine ⟨_, hoi, fun K hK => ?_⟩
  obtain ⟨dst, op, ty, ps, af, gd⟩ := oi
  simp only at ho hd hg
  subst ho; subst hd; subst hg
  have e2 := (f.same.2.2 2 (by decide)).trans h2
  refine value_ (w1 := w) (v := .slice A n cap) (by simp [Region.wanted]) rfl (by go_simp) ?_
  refine hK _ _ ⟨g31, v29, v32, ?_⟩
  constructor
  case same => exact f.same.put rfl _
  case below => exact f.below
  case s28 =>
    intro h0
    exact at_put (Nat.lt_of_lt_of_le (by decide : (28 : Nat) < 33) (f.same.2.1 ▸ hz))
  case s29 => intro h0; rw [upd_ne (by decide)] at h0; exact absurd h0 (by simp [hoff])
  case s30 =>
    intro h0
    rw [upd_ne (by decide)] at h0
    exact (at_ne (by decide)).trans (f.s30 h0)
  case s31 =>
    intro h0
    rw [upd_ne (by decide)] at h0
    exact (at_ne (by decide)).trans (f.s31 h0)
  case s32 =>
    intro h0
    rw [upd_ne (by decide)] at h0
    exact (at_ne (by decide)).trans (f.s32 h0)
  case s10 => intro h0; rw [upd_ne (by decide)] at h0; exact absurd h0 (by simp [hoff])
  case W29 => intro h0 h1; rw [upd_ne (by decide)] at h0; exact absurd h0 (by simp [hoff])
  case W31 =>
    intro h0 h1
    rw [upd_ne (by decide)] at h0
    rw [upd_ne (by decide)] at h1
    exact f.W31 h0 h1
  case W32 =>
    intro h0
    rw [upd_ne (by decide)] at h0
    exact f.W32 h0
theorem LJ_step1 (A : Option Addr) (n cap S : Nat) (cs : List Value) (r : Req) (a0 : Act) (w3 : World) {Q : Exit → Act → World → Prop} {ops : Array Oper} {oi : Oper} (hoi : ops[1]? = some oi) (ho : oi.op = .call { callee := .value (.func 46), args := #[.tmp 28], argTypes := #[47] }) (hd : oi.dst = some 29) (hg : oi.guard = none) (hz : 33 ≤ a0.tmps.size) (hS : S = w3.heap.size) (hc : ∀ (w : World), Below w3.heap.size w3 w → Calls Try.prog 46 #[.slice A n cap] w fun e w' => ∃ v, e = .returned v ∧ w'.ownsRow w.heap.size 49 3 v n cs ∧ Below w.heap.size w w') :
    StepI Try.prog ops Q (fun b a w => ∃ g31 v29 v32, LJ A n cap S cs r a0 w3 b a w g31 v29 v32) 1 [0] [4, 5] := by
  rintro b a w ⟨g31, v29, v32, f⟩ hb hon hoff
  simp only [List.forall_mem_cons, List.not_mem_nil, false_implies, implies_true, and_true] at hon hoff
  refine ⟨_, hoi, fun K hK => ?_⟩
  obtain ⟨dst, op, ty, ps, af, gd⟩ := oi
  simp only at ho hd hg
  subst ho; subst hd; subst hg
  have e28 := f.s28 hon
  refine call_ 46 #[.slice A n cap] (by simp [Region.wanted]) rfl (by go_simp) ?_
  refine (hc w f.below).mono ?_
  rintro e w1 ⟨v, rfl, hown, hbc⟩
  refine ⟨_, rfl, ?_⟩
  refine hK _ _ ⟨g31, v, v32, ?_⟩
  constructor
  case same => exact f.same.put rfl _
  case below => exact b_step f.below hbc
  case s28 =>
    intro h0
    rw [upd_ne (by decide)] at h0
    exact (at_ne (by decide)).trans (f.s28 h0)
  case s29 =>
    intro h0
    exact at_put (Nat.lt_of_lt_of_le (by decide : (29 : Nat) < 33) (f.same.2.1 ▸ hz))
  case s30 =>
    intro h0
    rw [upd_ne (by decide)] at h0
    exact (at_ne (by decide)).trans (f.s30 h0)
  case s31 =>
    intro h0
    rw [upd_ne (by decide)] at h0
    exact (at_ne (by decide)).trans (f.s31 h0)
  case s32 => intro h0; rw [upd_ne (by decide)] at h0; exact absurd h0 (by simp [hoff])
  case s10 => intro h0; rw [upd_ne (by decide)] at h0; exact absurd h0 (by simp [hoff])
  case W29 =>
    intro h0 h1
    rw [upd_ne (by decide)] at h1
    exact own_less hown (hS ▸ f.below.size)
  case W31 =>
    intro h0 h1
    rw [upd_ne (by decide)] at h0
    rw [upd_ne (by decide)] at h1
    have h := f.W31 h0 h1
    exact ⟨h.1.below hbc, h.2⟩
  case W32 => intro h0; rw [upd_ne (by decide)] at h0; exact absurd h0 (by simp [hoff])
theorem LJ_step2 (A : Option Addr) (n cap S : Nat) (cs : List Value) (r : Req) (a0 : Act) (w3 : World) {Q : Exit → Act → World → Prop} {ops : Array Oper} {oi : Oper} (hoi : ops[2]? = some oi) (ho : oi.op = .load 49 (.tmp 7)) (hd : oi.dst = some 30) (hg : oi.guard = none) (hz : 33 ≤ a0.tmps.size) (hS : S = w3.heap.size) (mb : Nat) (h7 : a0.tmps[7]? = some (.pointer (some ⟨mb, 0, none⟩))) (q0 : w3.cell? ⟨mb, 0, none⟩ = some (.int .i64 r.t)) (q1 : w3.cell? ⟨mb, 1, none⟩ = some (.int .i64 r.o)) (q2 : w3.cell? ⟨mb, 2, none⟩ = some (.int .i64 r.am)) :
    StepI Try.prog ops Q (fun b a w => ∃ g31 v29 v32, LJ A n cap S cs r a0 w3 b a w g31 v29 v32) 2 [] [3, 5] := by
  rintro b a w ⟨g31, v29, v32, f⟩ hb hon hoff
  simp only [List.forall_mem_cons, List.not_mem_nil, false_implies, implies_true, and_true] at hon hoff
  refine ⟨_, hoi, fun K hK => ?_⟩
  obtain ⟨dst, op, ty, ps, af, gd⟩ := oi
  simp only at ho hd hg
  subst ho; subst hd; subst hg
  have e7 := (f.same.2.2 7 (by decide)).trans h7
  have k0 := b_keep f.below q0
  have k1 := b_keep f.below q1
  have k2 := b_keep f.below q2
  refine value_ (w1 := w) (v := .agg #[.int .i64 r.t, .int .i64 r.o, .int .i64 r.am]) (by simp [Region.wanted]) rfl (by go_simp) ?_
  refine hK _ _ ⟨g31, v29, v32, ?_⟩
  constructor
  case same => exact f.same.put rfl _
  case below => exact f.below
  case s28 =>
    intro h0
    rw [upd_ne (by decide)] at h0
    exact (at_ne (by decide)).trans (f.s28 h0)
  case s29 =>
    intro h0
    rw [upd_ne (by decide)] at h0
    exact (at_ne (by decide)).trans (f.s29 h0)
  case s30 =>
    intro h0
    exact at_put (Nat.lt_of_lt_of_le (by decide : (30 : Nat) < 33) (f.same.2.1 ▸ hz))
  case s31 => intro h0; rw [upd_ne (by decide)] at h0; exact absurd h0 (by simp [hoff])
  case s32 =>
    intro h0
    rw [upd_ne (by decide)] at h0
    exact (at_ne (by decide)).trans (f.s32 h0)
  case s10 => intro h0; rw [upd_ne (by decide)] at h0; exact absurd h0 (by simp [hoff])
  case W29 =>
    intro h0 h1
    rw [upd_ne (by decide)] at h0
    rw [upd_ne (by decide)] at h1
    exact f.W29 h0 h1
  case W31 => intro h0 h1; rw [upd_ne (by decide)] at h0; exact absurd h0 (by simp [hoff])
  case W32 =>
    intro h0
    rw [upd_ne (by decide)] at h0
    exact f.W32 h0
theorem LJ_step3 (A : Option Addr) (n cap S : Nat) (cs : List Value) (r : Req) (a0 : Act) (w3 : World) {Q : Exit → Act → World → Prop} {ops : Array Oper} {oi : Oper} (hoi : ops[3]? = some oi) (ho : oi.op = .buildSlice 47 1 #[(0, .tmp 30)]) (hd : oi.dst = some 31) (hg : oi.guard = none) (hz : 33 ≤ a0.tmps.size) (hS : S = w3.heap.size)  :
    StepI Try.prog ops Q (fun b a w => ∃ g31 v29 v32, LJ A n cap S cs r a0 w3 b a w g31 v29 v32) 3 [2] [4, 5] := by
  rintro b a w ⟨g31, v29, v32, f⟩ hb hon hoff
  simp only [List.forall_mem_cons, List.not_mem_nil, false_implies, implies_true, and_true] at hon hoff
  refine ⟨_, hoi, fun K hK => ?_⟩
  obtain ⟨dst, op, ty, ps, af, gd⟩ := oi
  simp only at ho hd hg
  subst ho; subst hd; subst hg
  have e30 := f.s30 hon
  refine value_ (w1 := w.alloc (.cells #[.int .i64 r.t, .int .i64 r.o, .int .i64 r.am] 49)) (v := .slice (some ⟨w.heap.size, 0, none⟩) 1 1) (by simp [Region.wanted]) rfl (by go_simp) ?_
  refine hK _ _ ⟨w.heap.size, v29, v32, ?_⟩
  constructor
  case same => exact f.same.put rfl _
  case below => exact b_alloc f.below _
  case s28 =>
    intro h0
    rw [upd_ne (by decide)] at h0
    exact (at_ne (by decide)).trans (f.s28 h0)
  case s29 =>
    intro h0
    rw [upd_ne (by decide)] at h0
    exact (at_ne (by decide)).trans (f.s29 h0)
  case s30 =>
    intro h0
    rw [upd_ne (by decide)] at h0
    exact (at_ne (by decide)).trans (f.s30 h0)
  case s31 =>
    intro h0
    exact at_put (Nat.lt_of_lt_of_le (by decide : (31 : Nat) < 33) (f.same.2.1 ▸ hz))
  case s32 => intro h0; rw [upd_ne (by decide)] at h0; exact absurd h0 (by simp [hoff])
  case s10 => intro h0; rw [upd_ne (by decide)] at h0; exact absurd h0 (by simp [hoff])
  case W29 =>
    intro h0 h1
    rw [upd_ne (by decide)] at h0
    rw [upd_ne (by decide)] at h1
    have h := f.W29 h0 h1
    exact h.alloc _
  case W31 =>
    intro h0 h1
    rw [upd_ne (by decide)] at h1
    exact ⟨Blk.new _ _ _, hS ▸ f.below.size⟩
  case W32 => intro h0; rw [upd_ne (by decide)] at h0; exact absurd h0 (by simp [hoff])
theorem LJ_step4 (A : Option Addr) (n cap S : Nat) (cs : List Value) (r : Req) (a0 : Act) (w3 : World) {Q : Exit → Act → World → Prop} {ops : Array Oper} {oi : Oper} (hoi : ops[4]? = some oi) (ho : oi.op = .call { callee := .builtin .append, args := #[.tmp 29, .tmp 31], argTypes := #[47, 47] }) (hd : oi.dst = some 32) (hg : oi.guard = none) (hz : 33 ≤ a0.tmps.size) (hS : S = w3.heap.size) (hty : oi.type = 47) (i0 : TypeInfo) (hi0 : Try.prog.info? 49 = some i0) (hz0 : i0.zero = some (.agg #[.int .i64 0, .int .i64 0, .int .i64 0])) (hz1 : i0.size = 3) (hz2 : i0.bytes = 24) (hn : n ≤ 1000000) :
    StepI Try.prog ops Q (fun b a w => ∃ g31 v29 v32, LJ A n cap S cs r a0 w3 b a w g31 v29 v32) 4 [1, 3, 1] [5] := by
  rintro b a w ⟨g31, v29, v32, f⟩ hb hon hoff
  simp only [List.forall_mem_cons, List.not_mem_nil, false_implies, implies_true, and_true] at hon hoff
  refine ⟨_, hoi, fun K hK => ?_⟩
  obtain ⟨dst, op, ty, ps, af, gd⟩ := oi
  simp only at ho hd hg hty
  subst ho; subst hd; subst hg; subst hty
  have e29 := f.s29 hon.1
  have e31 := f.s31 hon.2.1
  refine append_ (by simp [Region.wanted]) rfl (.tmp 29) (.tmp 31) _ rfl S 49 i0 _ 3 24 Try.underlying47 hi0 hz0 hz1 hz2 rfl (by omega) v29 n cs (eval_at e29) (f.W29 hon.1 hb) (some ⟨g31, 0, none⟩) 1 1 (cellsR [r]) (eval_at e31) (reads_oneR (f.W31 hon.2.1 hb).1) (one_cellsR [r]) (by simp only [maxLen]; omega) (by omega) (hS ▸ f.below.size) fun v1 w1 hown hg1 hat => ?_
  refine hK _ _ ⟨g31, v29, v1, ?_⟩
  constructor
  case same => exact f.same.put rfl _
  case below => exact b_grown_own f.below (f.W29 hon.1 hb) (by omega) hg1
  case s28 =>
    intro h0
    rw [upd_ne (by decide)] at h0
    exact (at_ne (by decide)).trans (f.s28 h0)
  case s29 =>
    intro h0
    rw [upd_ne (by decide)] at h0
    exact (at_ne (by decide)).trans (f.s29 h0)
  case s30 =>
    intro h0
    rw [upd_ne (by decide)] at h0
    exact (at_ne (by decide)).trans (f.s30 h0)
  case s31 =>
    intro h0
    rw [upd_ne (by decide)] at h0
    exact (at_ne (by decide)).trans (f.s31 h0)
  case s32 =>
    intro h0
    exact at_put (Nat.lt_of_lt_of_le (by decide : (32 : Nat) < 33) (f.same.2.1 ▸ hz))
  case s10 => intro h0; rw [upd_ne (by decide)] at h0; exact absurd h0 (by simp [hoff])
  case W29 => intro h0 h1; exact absurd h1 (by simp [upd])
  case W31 => intro h0 h1; exact absurd h1 (by simp [upd])
  case W32 =>
    intro h0
    exact hown
theorem LJ_step5 (A : Option Addr) (n cap S : Nat) (cs : List Value) (r : Req) (a0 : Act) (w3 : World) {Q : Exit → Act → World → Prop} {ops : Array Oper} {oi : Oper} (hoi : ops[5]? = some oi) (ho : oi.op = .assign (.tmp 32)) (hd : oi.dst = some 10) (hg : oi.guard = none) (hz : 33 ≤ a0.tmps.size) (hS : S = w3.heap.size)  :
    StepI Try.prog ops Q (fun b a w => ∃ g31 v29 v32, LJ A n cap S cs r a0 w3 b a w g31 v29 v32) 5 [4, 4, 0, 1, 2, 3, 4] [] := by
  rintro b a w ⟨g31, v29, v32, f⟩ hb hon hoff
  simp only [List.forall_mem_cons, List.not_mem_nil, false_implies, implies_true, and_true] at hon hoff
  refine ⟨_, hoi, fun K hK => ?_⟩
  obtain ⟨dst, op, ty, ps, af, gd⟩ := oi
  simp only at ho hd hg
  subst ho; subst hd; subst hg
  have e32 := f.s32 hon.1
  refine value_ (w1 := w) (v := v32) (by simp [Region.wanted]) rfl (by go_simp) ?_
  refine hK _ _ ⟨g31, v29, v32, ?_⟩
  constructor
  case same => exact f.same.put rfl _
  case below => exact f.below
  case s28 =>
    intro h0
    rw [upd_ne (by decide)] at h0
    exact (at_ne (by decide)).trans (f.s28 h0)
  case s29 =>
    intro h0
    rw [upd_ne (by decide)] at h0
    exact (at_ne (by decide)).trans (f.s29 h0)
  case s30 =>
    intro h0
    rw [upd_ne (by decide)] at h0
    exact (at_ne (by decide)).trans (f.s30 h0)
  case s31 =>
    intro h0
    rw [upd_ne (by decide)] at h0
    exact (at_ne (by decide)).trans (f.s31 h0)
  case s32 =>
    intro h0
    rw [upd_ne (by decide)] at h0
    exact (at_ne (by decide)).trans (f.s32 h0)
  case s10 =>
    intro h0
    exact at_put (Nat.lt_of_lt_of_le (by decide : (10 : Nat) < 33) (f.same.2.1 ▸ hz))
  case W29 => intro h0 h1; rw [upd_ne (by decide)] at h1; exact absurd h1 (by simp [hon])
  case W31 => intro h0 h1; rw [upd_ne (by decide)] at h1; exact absurd h1 (by simp [hon])
  case W32 =>
    intro h0
    rw [upd_ne (by decide)] at h0
    exact f.W32 h0
theorem LJ.done (A : Option Addr) (n cap S : Nat) (cs : List Value) (r : Req) {a0 : Act} {w3 : World} {b : Nat → Bool} {a : Act} {w : World} {g31 : Nat} {v29 : Value} {v32 : Value} (f : LJ A n cap S cs r a0 w3 b a w g31 v29 v32) (hz : 33 ≤ a0.tmps.size) (hall : ∀ j, j < 6 → b j = true) :
    a = puts a0 [(28, (.slice A n cap)), (29, v29), (30, (.agg #[.int .i64 r.t, .int .i64 r.o, .int .i64 r.am])), (31, (.slice (some ⟨g31, 0, none⟩) 1 1)), (32, v32), (10, v32)] := by
  refine Same.eq f.same (show List.Nodup ([28, 29, 30, 31, 32, 10] : List Nat) by decide) ?_ ?_
  · simp only [List.forall_mem_cons, List.not_mem_nil, false_implies, implies_true, and_true]
    exact ⟨Nat.lt_of_lt_of_le (by decide : (28 : Nat) < 33) hz, Nat.lt_of_lt_of_le (by decide : (29 : Nat) < 33) hz, Nat.lt_of_lt_of_le (by decide : (30 : Nat) < 33) hz, Nat.lt_of_lt_of_le (by decide : (31 : Nat) < 33) hz, Nat.lt_of_lt_of_le (by decide : (32 : Nat) < 33) hz, Nat.lt_of_lt_of_le (by decide : (10 : Nat) < 33) hz⟩
  · simp only [List.forall_mem_cons, List.not_mem_nil, false_implies, implies_true, and_true]
    exact ⟨f.s28 (hall 0 (by decide)), f.s29 (hall 1 (by decide)), f.s30 (hall 2 (by decide)), f.s31 (hall 3 (by decide)), f.s32 (hall 4 (by decide)), f.s10 (hall 5 (by decide))⟩
end Go.Proofs.Ytefihmfilahppaa.LineW
