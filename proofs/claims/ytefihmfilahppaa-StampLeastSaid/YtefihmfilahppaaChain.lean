/- A region of open order of the law StampLeast: literal, append, append, call, box. Printed by gen_chain.py. No condition. -/
import Derived.Test.YtefihmfilahppaaOldest
import Derived.Test.YtefihmfilahppaaOrd
namespace Go.Proofs.Ytefihmfilahppaa.StampW
open Go.RowKit Go.Proofs.Ytefihmfilahppaa.Com Go.Proofs.Ytefihmfilahppaa.Ord
set_option linter.unusedVariables false
theorem one_cellsS (l : List (Int × Int)) : ∀ u ∈ cellsS l, u.oneCell' = true := by
  intro u hu
  obtain ⟨s, _, hs⟩ := List.mem_flatMap.1 hu
  simp only [List.mem_cons, List.not_mem_nil, or_false] at hs
  rcases hs with rfl | rfl <;> rfl
theorem reads_one {w : World} {g : Nat} {t : TypeId} {u v : Value} (h : Blk w g t #[u, v]) : Reads w 2 (some ⟨g, 0, none⟩) 1 [u, v] := by
  refine ⟨rfl, fun _ => ⟨_, rfl, fun j x hx => ?_⟩⟩
  rw [add_plain, h.cell]
  simpa using hx
theorem own_lt {w : World} {base n : Nat} {e : TypeId} {size : Nat} {v : Value} {xs : List Value} (h : w.ownsRow base e size v n xs) (k : Nat) (hk : v.ownBlock = some k) : k < w.heap.size := by
  rcases h.2 with ⟨rfl, _⟩ | ⟨g, cap, cur, rfl, hb, hg, _⟩
  · simp [Value.ownBlock] at hk
  · have : g = k := by simpa [Value.ownBlock] using hk
    subst this
    exact (Array.getElem?_eq_some_iff.1 hg).1

structure LI (A : Option Addr) (n c S : Nat) (cs : List Value) (m o : Int × Int) (r : Bool) (a0 : Act) (w3 : World) (b : Nat → Bool) (a : Act) (w : World) (g22 g26 g7 : Nat) (v24 v27 : Value) : Prop where
  same : Same a0 [22, 23, 24, 25, 26, 27, 28, 21, 29, 30, 7, 8] a
  below : Below w3.heap.size w3 w
  s22 : b 0 = true → a.tmps[22]? = some (.slice (some ⟨g22, 0, none⟩) 0 0)
  s23 : b 1 = true → a.tmps[23]? = some (.slice A n c)
  s24 : b 2 = true → a.tmps[24]? = some v24
  s25 : b 3 = true → a.tmps[25]? = some (.agg #[.int .i64 m.1, .int .i64 m.2])
  s26 : b 4 = true → a.tmps[26]? = some (.slice (some ⟨g26, 0, none⟩) 1 1)
  s27 : b 5 = true → a.tmps[27]? = some v27
  s28 : b 6 = true → a.tmps[28]? = some (.tuple #[.agg #[.int .i64 o.1, .int .i64 o.2], .bool r])
  s21 : b 7 = true → a.tmps[21]? = some (.tuple #[.agg #[.int .i64 o.1, .int .i64 o.2], .bool r])
  s29 : b 8 = true → a.tmps[29]? = some (.agg #[.int .i64 o.1, .int .i64 o.2])
  s30 : b 9 = true → a.tmps[30]? = some (.bool r)
  s7 : b 10 = true → a.tmps[7]? = some (.pointer (some ⟨g7, 0, none⟩))
  s8 : b 12 = true → a.tmps[8]? = some (.bool r)
  W22 : b 0 = true → b 2 = false → Blk w g22 30 #[] ∧ S ≤ g22
  W24 : b 2 = true → b 5 = false → w.ownsRow S 30 2 v24 (0 + n) ([] ++ cs)
  W26 : b 4 = true → b 5 = false → Blk w g26 30 #[.int .i64 m.1, .int .i64 m.2] ∧ S ≤ g26
  W27 : b 5 = true → b 6 = false → w.ownsRow S 30 2 v27 (0 + n + 1) (([] ++ cs) ++ [.int .i64 m.1, .int .i64 m.2])
  W7a : b 10 = true → b 11 = false → Blk w g7 30 #[.int .i64 0, .int .i64 0] ∧ S ≤ g7
  W7b : b 11 = true → Blk w g7 30 #[.int .i64 o.1, .int .i64 o.2] ∧ S ≤ g7
  L7 : b 10 = true → g7 < w.heap.size
  L26 : b 4 = true → g26 < w.heap.size
  L22 : b 0 = true → g22 < w.heap.size
  N22 : b 0 = true → b 10 = true → b 2 = false → g22 ≠ g7
  N26 : b 0 = true → b 4 = true → b 2 = false → g22 ≠ g26
  N24 : b 2 = true → b 10 = true → b 5 = false → v24.ownBlock ≠ some g7
theorem step0 (A : Option Addr) (n c S : Nat) (cs : List Value) (m o : Int × Int) (r : Bool) (a0 : Act) (w3 : World) {Q : Exit → Act → World → Prop} {ops : Array Oper} {oi : Oper} (hoi : ops[0]? = some oi) (ho : oi.op = .buildSlice 40 0 #[]) (hd : oi.dst = some 22) (hg : oi.guard = none) (hz : 31 ≤ a0.tmps.size) (hS : S = w3.heap.size)  :
    StepI Try.prog ops Q (fun b a w => ∃ g22 g26 g7 v24 v27, LI A n c S cs m o r a0 w3 b a w g22 g26 g7 v24 v27) 0 [] [2, 11, 12] := by
  rintro b a w ⟨g22, g26, g7, v24, v27, f⟩ hb hon hoff
  simp only [List.forall_mem_cons, List.not_mem_nil, false_implies, implies_true, and_true] at hon hoff
  refine ⟨_, hoi, fun K hK => ?_⟩
  obtain ⟨dst, op, ty, ps, af, gd⟩ := oi
  simp only at ho hd hg
  subst ho; subst hd; subst hg
  refine value_ (w1 := w.alloc (.cells #[] 30)) (v := .slice (some ⟨w.heap.size, 0, none⟩) 0 0) (by simp [Region.wanted]) rfl (by go_simp) ?_
  refine hK _ _ ⟨w.heap.size, g26, g7, v24, v27, ?_⟩
  constructor
  case same => exact f.same.put rfl _
  case below => exact b_alloc f.below _
  case s22 =>
    intro h0
    exact at_put (Nat.lt_of_lt_of_le (by decide : (22 : Nat) < 31) (f.same.2.1 ▸ hz))
  case s23 =>
    intro h0
    rw [upd_ne (by decide)] at h0
    exact (at_ne (by decide)).trans (f.s23 h0)
  case s24 => intro h0; rw [upd_ne (by decide)] at h0; exact absurd h0 (by simp [hoff])
  case s25 =>
    intro h0
    rw [upd_ne (by decide)] at h0
    exact (at_ne (by decide)).trans (f.s25 h0)
  case s26 =>
    intro h0
    rw [upd_ne (by decide)] at h0
    exact (at_ne (by decide)).trans (f.s26 h0)
  case s27 =>
    intro h0
    rw [upd_ne (by decide)] at h0
    exact (at_ne (by decide)).trans (f.s27 h0)
  case s28 =>
    intro h0
    rw [upd_ne (by decide)] at h0
    exact (at_ne (by decide)).trans (f.s28 h0)
  case s21 =>
    intro h0
    rw [upd_ne (by decide)] at h0
    exact (at_ne (by decide)).trans (f.s21 h0)
  case s29 =>
    intro h0
    rw [upd_ne (by decide)] at h0
    exact (at_ne (by decide)).trans (f.s29 h0)
  case s30 =>
    intro h0
    rw [upd_ne (by decide)] at h0
    exact (at_ne (by decide)).trans (f.s30 h0)
  case s7 =>
    intro h0
    rw [upd_ne (by decide)] at h0
    exact (at_ne (by decide)).trans (f.s7 h0)
  case s8 => intro h0; rw [upd_ne (by decide)] at h0; exact absurd h0 (by simp [hoff])
  case W22 =>
    intro h0 h1
    rw [upd_ne (by decide)] at h1
    exact ⟨Blk.new _ _ _, hS ▸ f.below.size⟩
  case W24 => intro h0 h1; rw [upd_ne (by decide)] at h0; exact absurd h0 (by simp [hoff])
  case W26 =>
    intro h0 h1
    rw [upd_ne (by decide)] at h0
    rw [upd_ne (by decide)] at h1
    have h := f.W26 h0 h1
    exact ⟨h.1.alloc _, h.2⟩
  case W27 =>
    intro h0 h1
    rw [upd_ne (by decide)] at h0
    rw [upd_ne (by decide)] at h1
    have h := f.W27 h0 h1
    exact h.alloc _
  case W7a =>
    intro h0 h1
    rw [upd_ne (by decide)] at h0
    rw [upd_ne (by decide)] at h1
    have h := f.W7a h0 h1
    exact ⟨h.1.alloc _, h.2⟩
  case W7b => intro h0; rw [upd_ne (by decide)] at h0; exact absurd h0 (by simp [hoff])
  case L7 =>
    intro h0
    rw [upd_ne (by decide)] at h0
    have h := f.L7 h0
    exact Nat.lt_of_lt_of_le h (b_alloc (b_refl _) _).size
  case L26 =>
    intro h0
    rw [upd_ne (by decide)] at h0
    have h := f.L26 h0
    exact Nat.lt_of_lt_of_le h (b_alloc (b_refl _) _).size
  case L22 =>
    intro h0
    exact (Blk.new w 30 #[]).lt
  case N22 =>
    intro h0 h1 h2
    rw [upd_ne (by decide)] at h1
    rw [upd_ne (by decide)] at h2
    have := f.L7 h1; omega
  case N26 =>
    intro h0 h1 h2
    rw [upd_ne (by decide)] at h1
    rw [upd_ne (by decide)] at h2
    have := f.L26 h1; omega
  case N24 => intro h0 h1 h2; rw [upd_ne (by decide)] at h0; exact absurd h0 (by simp [hoff])
theorem step1 (A : Option Addr) (n c S : Nat) (cs : List Value) (m o : Int × Int) (r : Bool) (a0 : Act) (w3 : World) {Q : Exit → Act → World → Prop} {ops : Array Oper} {oi : Oper} (hoi : ops[1]? = some oi) (ho : oi.op = .move (.tmp 0)) (hd : oi.dst = some 23) (hg : oi.guard = none) (hz : 31 ≤ a0.tmps.size) (hS : S = w3.heap.size) (h0 : a0.tmps[0]? = some (.slice A n c)) :
    StepI Try.prog ops Q (fun b a w => ∃ g22 g26 g7 v24 v27, LI A n c S cs m o r a0 w3 b a w g22 g26 g7 v24 v27) 1 [] [2, 11, 12] := by
  rintro b a w ⟨g22, g26, g7, v24, v27, f⟩ hb hon hoff
  simp only [List.forall_mem_cons, List.not_mem_nil, false_implies, implies_true, and_true] at hon hoff
  refine ⟨_, hoi, fun K hK => ?_⟩
  obtain ⟨dst, op, ty, ps, af, gd⟩ := oi
  simp only at ho hd hg
  subst ho; subst hd; subst hg
  have e0 := (f.same.2.2 0 (by decide)).trans h0
  refine value_ (w1 := w) (v := .slice A n c) (by simp [Region.wanted]) rfl (by go_simp) ?_
  refine hK _ _ ⟨g22, g26, g7, v24, v27, ?_⟩
  constructor
  case same => exact f.same.put rfl _
  case below => exact f.below
  case s22 =>
    intro h0
    rw [upd_ne (by decide)] at h0
    exact (at_ne (by decide)).trans (f.s22 h0)
  case s23 =>
    intro h0
    exact at_put (Nat.lt_of_lt_of_le (by decide : (23 : Nat) < 31) (f.same.2.1 ▸ hz))
  case s24 => intro h0; rw [upd_ne (by decide)] at h0; exact absurd h0 (by simp [hoff])
  case s25 =>
    intro h0
    rw [upd_ne (by decide)] at h0
    exact (at_ne (by decide)).trans (f.s25 h0)
  case s26 =>
    intro h0
    rw [upd_ne (by decide)] at h0
    exact (at_ne (by decide)).trans (f.s26 h0)
  case s27 =>
    intro h0
    rw [upd_ne (by decide)] at h0
    exact (at_ne (by decide)).trans (f.s27 h0)
  case s28 =>
    intro h0
    rw [upd_ne (by decide)] at h0
    exact (at_ne (by decide)).trans (f.s28 h0)
  case s21 =>
    intro h0
    rw [upd_ne (by decide)] at h0
    exact (at_ne (by decide)).trans (f.s21 h0)
  case s29 =>
    intro h0
    rw [upd_ne (by decide)] at h0
    exact (at_ne (by decide)).trans (f.s29 h0)
  case s30 =>
    intro h0
    rw [upd_ne (by decide)] at h0
    exact (at_ne (by decide)).trans (f.s30 h0)
  case s7 =>
    intro h0
    rw [upd_ne (by decide)] at h0
    exact (at_ne (by decide)).trans (f.s7 h0)
  case s8 => intro h0; rw [upd_ne (by decide)] at h0; exact absurd h0 (by simp [hoff])
  case W22 =>
    intro h0 h1
    rw [upd_ne (by decide)] at h0
    rw [upd_ne (by decide)] at h1
    exact f.W22 h0 h1
  case W24 => intro h0 h1; rw [upd_ne (by decide)] at h0; exact absurd h0 (by simp [hoff])
  case W26 =>
    intro h0 h1
    rw [upd_ne (by decide)] at h0
    rw [upd_ne (by decide)] at h1
    exact f.W26 h0 h1
  case W27 =>
    intro h0 h1
    rw [upd_ne (by decide)] at h0
    rw [upd_ne (by decide)] at h1
    exact f.W27 h0 h1
  case W7a =>
    intro h0 h1
    rw [upd_ne (by decide)] at h0
    rw [upd_ne (by decide)] at h1
    exact f.W7a h0 h1
  case W7b => intro h0; rw [upd_ne (by decide)] at h0; exact absurd h0 (by simp [hoff])
  case L7 =>
    intro h0
    rw [upd_ne (by decide)] at h0
    exact f.L7 h0
  case L26 =>
    intro h0
    rw [upd_ne (by decide)] at h0
    exact f.L26 h0
  case L22 =>
    intro h0
    rw [upd_ne (by decide)] at h0
    exact f.L22 h0
  case N22 =>
    intro h0 h1 h2
    rw [upd_ne (by decide)] at h0
    rw [upd_ne (by decide)] at h1
    rw [upd_ne (by decide)] at h2
    exact f.N22 h0 h1 h2
  case N26 =>
    intro h0 h1 h2
    rw [upd_ne (by decide)] at h0
    rw [upd_ne (by decide)] at h1
    rw [upd_ne (by decide)] at h2
    exact f.N26 h0 h1 h2
  case N24 => intro h0 h1 h2; rw [upd_ne (by decide)] at h0; exact absurd h0 (by simp [hoff])
theorem step2 (A : Option Addr) (n c S : Nat) (cs : List Value) (m o : Int × Int) (r : Bool) (a0 : Act) (w3 : World) {Q : Exit → Act → World → Prop} {ops : Array Oper} {oi : Oper} (hoi : ops[2]? = some oi) (ho : oi.op = .call { callee := .builtin .append, args := #[.tmp 22, .tmp 23], argTypes := #[40, 40] }) (hd : oi.dst = some 24) (hg : oi.guard = none) (hz : 31 ≤ a0.tmps.size) (hS : S = w3.heap.size) (hty : oi.type = 40) (hr : Reads w3 2 A n cs) (i0 : TypeInfo) (hi0 : Try.prog.info? 30 = some i0) (hz0 : i0.zero = some (.agg #[.int .i64 0, .int .i64 0])) (hz1 : i0.size = 2) (hz2 : i0.bytes = 16) (hn : n ≤ 1000) (h1c : ∀ u ∈ cs, u.oneCell' = true) :
    StepI Try.prog ops Q (fun b a w => ∃ g22 g26 g7 v24 v27, LI A n c S cs m o r a0 w3 b a w g22 g26 g7 v24 v27) 2 [0, 1] [5, 11, 12] := by
  rintro b a w ⟨g22, g26, g7, v24, v27, f⟩ hb hon hoff
  simp only [List.forall_mem_cons, List.not_mem_nil, false_implies, implies_true, and_true] at hon hoff
  refine ⟨_, hoi, fun K hK => ?_⟩
  obtain ⟨dst, op, ty, ps, af, gd⟩ := oi
  simp only at ho hd hg hty
  subst ho; subst hd; subst hg; subst hty
  have e22 := f.s22 hon.1
  have e23 := f.s23 hon.2
  refine append_ (by simp [Region.wanted]) rfl (.tmp 22) (.tmp 23) _ rfl S 30 i0 _ 2 16 Try.underlying40 hi0 hz0 hz1 hz2 rfl (by omega) (.slice (some ⟨g22, 0, none⟩) 0 0) 0 [] (eval_at e22) (own_empty (f.W22 hon.1 hb).1 (f.W22 hon.1 hb).2) A n c cs (eval_at e23) (hr.below f.below) h1c (by simp only [maxLen]; omega) (by omega) (hS ▸ f.below.size) fun v1 w1 hown hg1 hat => ?_
  refine hK _ _ ⟨g22, g26, g7, v1, v27, ?_⟩
  constructor
  case same => exact f.same.put rfl _
  case below => exact b_grown f.below hg1 (fun k hk => by have := (f.W22 hon.1 hb).2; simp [Value.ownBlock] at hk; omega)
  case s22 =>
    intro h0
    rw [upd_ne (by decide)] at h0
    exact (at_ne (by decide)).trans (f.s22 h0)
  case s23 =>
    intro h0
    rw [upd_ne (by decide)] at h0
    exact (at_ne (by decide)).trans (f.s23 h0)
  case s24 =>
    intro h0
    exact at_put (Nat.lt_of_lt_of_le (by decide : (24 : Nat) < 31) (f.same.2.1 ▸ hz))
  case s25 =>
    intro h0
    rw [upd_ne (by decide)] at h0
    exact (at_ne (by decide)).trans (f.s25 h0)
  case s26 =>
    intro h0
    rw [upd_ne (by decide)] at h0
    exact (at_ne (by decide)).trans (f.s26 h0)
  case s27 => intro h0; rw [upd_ne (by decide)] at h0; exact absurd h0 (by simp [hoff])
  case s28 =>
    intro h0
    rw [upd_ne (by decide)] at h0
    exact (at_ne (by decide)).trans (f.s28 h0)
  case s21 =>
    intro h0
    rw [upd_ne (by decide)] at h0
    exact (at_ne (by decide)).trans (f.s21 h0)
  case s29 =>
    intro h0
    rw [upd_ne (by decide)] at h0
    exact (at_ne (by decide)).trans (f.s29 h0)
  case s30 =>
    intro h0
    rw [upd_ne (by decide)] at h0
    exact (at_ne (by decide)).trans (f.s30 h0)
  case s7 =>
    intro h0
    rw [upd_ne (by decide)] at h0
    exact (at_ne (by decide)).trans (f.s7 h0)
  case s8 => intro h0; rw [upd_ne (by decide)] at h0; exact absurd h0 (by simp [hoff])
  case W22 => intro h0 h1; exact absurd h1 (by simp [upd])
  case W24 =>
    intro h0 h1
    rw [upd_ne (by decide)] at h1
    exact hown
  case W26 =>
    intro h0 h1
    rw [upd_ne (by decide)] at h0
    rw [upd_ne (by decide)] at h1
    have h := f.W26 h0 h1
    exact ⟨h.1.grown hg1 (by simpa [Value.ownBlock] using Ne.symm (f.N26 hon.1 h0 hb)), h.2⟩
  case W27 => intro h0 h1; rw [upd_ne (by decide)] at h0; exact absurd h0 (by simp [hoff])
  case W7a =>
    intro h0 h1
    rw [upd_ne (by decide)] at h0
    rw [upd_ne (by decide)] at h1
    have h := f.W7a h0 h1
    exact ⟨h.1.grown hg1 (by simpa [Value.ownBlock] using Ne.symm (f.N22 hon.1 h0 hb)), h.2⟩
  case W7b => intro h0; rw [upd_ne (by decide)] at h0; exact absurd h0 (by simp [hoff])
  case L7 =>
    intro h0
    rw [upd_ne (by decide)] at h0
    have h := f.L7 h0
    exact Nat.lt_of_lt_of_le h hg1.size
  case L26 =>
    intro h0
    rw [upd_ne (by decide)] at h0
    have h := f.L26 h0
    exact Nat.lt_of_lt_of_le h hg1.size
  case L22 =>
    intro h0
    rw [upd_ne (by decide)] at h0
    have h := f.L22 h0
    exact Nat.lt_of_lt_of_le h hg1.size
  case N22 => intro h0 h1 h2; exact absurd h2 (by simp [upd])
  case N26 => intro h0 h1 h2; exact absurd h2 (by simp [upd])
  case N24 =>
    intro h0 h1 h2
    rw [upd_ne (by decide)] at h1
    rw [upd_ne (by decide)] at h2
    rcases hat with e | e
    · rw [e]; intro e2; exact f.N22 hon.1 h1 hb (by simpa [Value.ownBlock] using e2)
    · rw [e]; intro e2; have := f.L7 h1; simp at e2; omega
theorem step3 (A : Option Addr) (n c S : Nat) (cs : List Value) (m o : Int × Int) (r : Bool) (a0 : Act) (w3 : World) {Q : Exit → Act → World → Prop} {ops : Array Oper} {oi : Oper} (hoi : ops[3]? = some oi) (ho : oi.op = .load 30 (.tmp 3)) (hd : oi.dst = some 25) (hg : oi.guard = none) (hz : 31 ≤ a0.tmps.size) (hS : S = w3.heap.size) (mb : Nat) (h3 : a0.tmps[3]? = some (.pointer (some ⟨mb, 0, none⟩))) (q0 : w3.cell? ⟨mb, 0, none⟩ = some (.int .i64 m.1)) (q1 : w3.cell? ⟨mb, 1, none⟩ = some (.int .i64 m.2)) :
    StepI Try.prog ops Q (fun b a w => ∃ g22 g26 g7 v24 v27, LI A n c S cs m o r a0 w3 b a w g22 g26 g7 v24 v27) 3 [] [4, 11, 12] := by
  rintro b a w ⟨g22, g26, g7, v24, v27, f⟩ hb hon hoff
  simp only [List.forall_mem_cons, List.not_mem_nil, false_implies, implies_true, and_true] at hon hoff
  refine ⟨_, hoi, fun K hK => ?_⟩
  obtain ⟨dst, op, ty, ps, af, gd⟩ := oi
  simp only at ho hd hg
  subst ho; subst hd; subst hg
  have e3 := (f.same.2.2 3 (by decide)).trans h3
  have k0 := b_keep f.below q0
  have k1 := b_keep f.below q1
  refine value_ (w1 := w) (v := .agg #[.int .i64 m.1, .int .i64 m.2]) (by simp [Region.wanted]) rfl (by go_simp) ?_
  refine hK _ _ ⟨g22, g26, g7, v24, v27, ?_⟩
  constructor
  case same => exact f.same.put rfl _
  case below => exact f.below
  case s22 =>
    intro h0
    rw [upd_ne (by decide)] at h0
    exact (at_ne (by decide)).trans (f.s22 h0)
  case s23 =>
    intro h0
    rw [upd_ne (by decide)] at h0
    exact (at_ne (by decide)).trans (f.s23 h0)
  case s24 =>
    intro h0
    rw [upd_ne (by decide)] at h0
    exact (at_ne (by decide)).trans (f.s24 h0)
  case s25 =>
    intro h0
    exact at_put (Nat.lt_of_lt_of_le (by decide : (25 : Nat) < 31) (f.same.2.1 ▸ hz))
  case s26 => intro h0; rw [upd_ne (by decide)] at h0; exact absurd h0 (by simp [hoff])
  case s27 =>
    intro h0
    rw [upd_ne (by decide)] at h0
    exact (at_ne (by decide)).trans (f.s27 h0)
  case s28 =>
    intro h0
    rw [upd_ne (by decide)] at h0
    exact (at_ne (by decide)).trans (f.s28 h0)
  case s21 =>
    intro h0
    rw [upd_ne (by decide)] at h0
    exact (at_ne (by decide)).trans (f.s21 h0)
  case s29 =>
    intro h0
    rw [upd_ne (by decide)] at h0
    exact (at_ne (by decide)).trans (f.s29 h0)
  case s30 =>
    intro h0
    rw [upd_ne (by decide)] at h0
    exact (at_ne (by decide)).trans (f.s30 h0)
  case s7 =>
    intro h0
    rw [upd_ne (by decide)] at h0
    exact (at_ne (by decide)).trans (f.s7 h0)
  case s8 => intro h0; rw [upd_ne (by decide)] at h0; exact absurd h0 (by simp [hoff])
  case W22 =>
    intro h0 h1
    rw [upd_ne (by decide)] at h0
    rw [upd_ne (by decide)] at h1
    exact f.W22 h0 h1
  case W24 =>
    intro h0 h1
    rw [upd_ne (by decide)] at h0
    rw [upd_ne (by decide)] at h1
    exact f.W24 h0 h1
  case W26 => intro h0 h1; rw [upd_ne (by decide)] at h0; exact absurd h0 (by simp [hoff])
  case W27 =>
    intro h0 h1
    rw [upd_ne (by decide)] at h0
    rw [upd_ne (by decide)] at h1
    exact f.W27 h0 h1
  case W7a =>
    intro h0 h1
    rw [upd_ne (by decide)] at h0
    rw [upd_ne (by decide)] at h1
    exact f.W7a h0 h1
  case W7b => intro h0; rw [upd_ne (by decide)] at h0; exact absurd h0 (by simp [hoff])
  case L7 =>
    intro h0
    rw [upd_ne (by decide)] at h0
    exact f.L7 h0
  case L26 => intro h0; rw [upd_ne (by decide)] at h0; exact absurd h0 (by simp [hoff])
  case L22 =>
    intro h0
    rw [upd_ne (by decide)] at h0
    exact f.L22 h0
  case N22 =>
    intro h0 h1 h2
    rw [upd_ne (by decide)] at h0
    rw [upd_ne (by decide)] at h1
    rw [upd_ne (by decide)] at h2
    exact f.N22 h0 h1 h2
  case N26 => intro h0 h1 h2; rw [upd_ne (by decide)] at h1; exact absurd h1 (by simp [hoff])
  case N24 =>
    intro h0 h1 h2
    rw [upd_ne (by decide)] at h0
    rw [upd_ne (by decide)] at h1
    rw [upd_ne (by decide)] at h2
    exact f.N24 h0 h1 h2
theorem step4 (A : Option Addr) (n c S : Nat) (cs : List Value) (m o : Int × Int) (r : Bool) (a0 : Act) (w3 : World) {Q : Exit → Act → World → Prop} {ops : Array Oper} {oi : Oper} (hoi : ops[4]? = some oi) (ho : oi.op = .buildSlice 40 1 #[(0, .tmp 25)]) (hd : oi.dst = some 26) (hg : oi.guard = none) (hz : 31 ≤ a0.tmps.size) (hS : S = w3.heap.size)  :
    StepI Try.prog ops Q (fun b a w => ∃ g22 g26 g7 v24 v27, LI A n c S cs m o r a0 w3 b a w g22 g26 g7 v24 v27) 4 [3] [5, 11, 12] := by
  rintro b a w ⟨g22, g26, g7, v24, v27, f⟩ hb hon hoff
  simp only [List.forall_mem_cons, List.not_mem_nil, false_implies, implies_true, and_true] at hon hoff
  refine ⟨_, hoi, fun K hK => ?_⟩
  obtain ⟨dst, op, ty, ps, af, gd⟩ := oi
  simp only at ho hd hg
  subst ho; subst hd; subst hg
  have e25 := f.s25 hon
  refine value_ (w1 := w.alloc (.cells #[.int .i64 m.1, .int .i64 m.2] 30)) (v := .slice (some ⟨w.heap.size, 0, none⟩) 1 1) (by simp [Region.wanted]) rfl (by go_simp) ?_
  refine hK _ _ ⟨g22, w.heap.size, g7, v24, v27, ?_⟩
  constructor
  case same => exact f.same.put rfl _
  case below => exact b_alloc f.below _
  case s22 =>
    intro h0
    rw [upd_ne (by decide)] at h0
    exact (at_ne (by decide)).trans (f.s22 h0)
  case s23 =>
    intro h0
    rw [upd_ne (by decide)] at h0
    exact (at_ne (by decide)).trans (f.s23 h0)
  case s24 =>
    intro h0
    rw [upd_ne (by decide)] at h0
    exact (at_ne (by decide)).trans (f.s24 h0)
  case s25 =>
    intro h0
    rw [upd_ne (by decide)] at h0
    exact (at_ne (by decide)).trans (f.s25 h0)
  case s26 =>
    intro h0
    exact at_put (Nat.lt_of_lt_of_le (by decide : (26 : Nat) < 31) (f.same.2.1 ▸ hz))
  case s27 => intro h0; rw [upd_ne (by decide)] at h0; exact absurd h0 (by simp [hoff])
  case s28 =>
    intro h0
    rw [upd_ne (by decide)] at h0
    exact (at_ne (by decide)).trans (f.s28 h0)
  case s21 =>
    intro h0
    rw [upd_ne (by decide)] at h0
    exact (at_ne (by decide)).trans (f.s21 h0)
  case s29 =>
    intro h0
    rw [upd_ne (by decide)] at h0
    exact (at_ne (by decide)).trans (f.s29 h0)
  case s30 =>
    intro h0
    rw [upd_ne (by decide)] at h0
    exact (at_ne (by decide)).trans (f.s30 h0)
  case s7 =>
    intro h0
    rw [upd_ne (by decide)] at h0
    exact (at_ne (by decide)).trans (f.s7 h0)
  case s8 => intro h0; rw [upd_ne (by decide)] at h0; exact absurd h0 (by simp [hoff])
  case W22 =>
    intro h0 h1
    rw [upd_ne (by decide)] at h0
    rw [upd_ne (by decide)] at h1
    have h := f.W22 h0 h1
    exact ⟨h.1.alloc _, h.2⟩
  case W24 =>
    intro h0 h1
    rw [upd_ne (by decide)] at h0
    rw [upd_ne (by decide)] at h1
    have h := f.W24 h0 h1
    exact h.alloc _
  case W26 =>
    intro h0 h1
    rw [upd_ne (by decide)] at h1
    exact ⟨Blk.new _ _ _, hS ▸ f.below.size⟩
  case W27 => intro h0 h1; rw [upd_ne (by decide)] at h0; exact absurd h0 (by simp [hoff])
  case W7a =>
    intro h0 h1
    rw [upd_ne (by decide)] at h0
    rw [upd_ne (by decide)] at h1
    have h := f.W7a h0 h1
    exact ⟨h.1.alloc _, h.2⟩
  case W7b => intro h0; rw [upd_ne (by decide)] at h0; exact absurd h0 (by simp [hoff])
  case L7 =>
    intro h0
    rw [upd_ne (by decide)] at h0
    have h := f.L7 h0
    exact Nat.lt_of_lt_of_le h (b_alloc (b_refl _) _).size
  case L26 =>
    intro h0
    exact (Blk.new w 30 #[.int .i64 m.1, .int .i64 m.2]).lt
  case L22 =>
    intro h0
    rw [upd_ne (by decide)] at h0
    have h := f.L22 h0
    exact Nat.lt_of_lt_of_le h (b_alloc (b_refl _) _).size
  case N22 =>
    intro h0 h1 h2
    rw [upd_ne (by decide)] at h0
    rw [upd_ne (by decide)] at h1
    rw [upd_ne (by decide)] at h2
    exact f.N22 h0 h1 h2
  case N26 =>
    intro h0 h1 h2
    rw [upd_ne (by decide)] at h0
    rw [upd_ne (by decide)] at h2
    have := f.L22 h0; omega
  case N24 =>
    intro h0 h1 h2
    rw [upd_ne (by decide)] at h0
    rw [upd_ne (by decide)] at h1
    rw [upd_ne (by decide)] at h2
    exact f.N24 h0 h1 h2
theorem step5 (A : Option Addr) (n c S : Nat) (cs : List Value) (m o : Int × Int) (r : Bool) (a0 : Act) (w3 : World) {Q : Exit → Act → World → Prop} {ops : Array Oper} {oi : Oper} (hoi : ops[5]? = some oi) (ho : oi.op = .call { callee := .builtin .append, args := #[.tmp 24, .tmp 26], argTypes := #[40, 40] }) (hd : oi.dst = some 27) (hg : oi.guard = none) (hz : 31 ≤ a0.tmps.size) (hS : S = w3.heap.size) (hty : oi.type = 40) (i0 : TypeInfo) (hi0 : Try.prog.info? 30 = some i0) (hz0 : i0.zero = some (.agg #[.int .i64 0, .int .i64 0])) (hz1 : i0.size = 2) (hz2 : i0.bytes = 16) (hn : n ≤ 1000) (h1c : ∀ u ∈ cs, u.oneCell' = true) :
    StepI Try.prog ops Q (fun b a w => ∃ g22 g26 g7 v24 v27, LI A n c S cs m o r a0 w3 b a w g22 g26 g7 v24 v27) 5 [2, 4, 2] [6, 11, 12] := by
  rintro b a w ⟨g22, g26, g7, v24, v27, f⟩ hb hon hoff
  simp only [List.forall_mem_cons, List.not_mem_nil, false_implies, implies_true, and_true] at hon hoff
  refine ⟨_, hoi, fun K hK => ?_⟩
  obtain ⟨dst, op, ty, ps, af, gd⟩ := oi
  simp only at ho hd hg hty
  subst ho; subst hd; subst hg; subst hty
  have e24 := f.s24 hon.1
  have e26 := f.s26 hon.2.1
  refine append_ (by simp [Region.wanted]) rfl (.tmp 24) (.tmp 26) _ rfl S 30 i0 _ 2 16 Try.underlying40 hi0 hz0 hz1 hz2 rfl (by omega) v24 (0 + n) ([] ++ cs) (eval_at e24) (f.W24 hon.1 hb) (some ⟨g26, 0, none⟩) 1 1 [.int .i64 m.1, .int .i64 m.2] (eval_at e26) (reads_one (f.W26 hon.2.1 hb).1) (by simp [Value.oneCell']) (by simp only [maxLen]; omega) (by omega) (hS ▸ f.below.size) fun v1 w1 hown hg1 hat => ?_
  refine hK _ _ ⟨g22, g26, g7, v24, v1, ?_⟩
  constructor
  case same => exact f.same.put rfl _
  case below => exact b_grown_own f.below (f.W24 hon.1 hb) (by omega) hg1
  case s22 =>
    intro h0
    rw [upd_ne (by decide)] at h0
    exact (at_ne (by decide)).trans (f.s22 h0)
  case s23 =>
    intro h0
    rw [upd_ne (by decide)] at h0
    exact (at_ne (by decide)).trans (f.s23 h0)
  case s24 =>
    intro h0
    rw [upd_ne (by decide)] at h0
    exact (at_ne (by decide)).trans (f.s24 h0)
  case s25 =>
    intro h0
    rw [upd_ne (by decide)] at h0
    exact (at_ne (by decide)).trans (f.s25 h0)
  case s26 =>
    intro h0
    rw [upd_ne (by decide)] at h0
    exact (at_ne (by decide)).trans (f.s26 h0)
  case s27 =>
    intro h0
    exact at_put (Nat.lt_of_lt_of_le (by decide : (27 : Nat) < 31) (f.same.2.1 ▸ hz))
  case s28 => intro h0; rw [upd_ne (by decide)] at h0; exact absurd h0 (by simp [hoff])
  case s21 =>
    intro h0
    rw [upd_ne (by decide)] at h0
    exact (at_ne (by decide)).trans (f.s21 h0)
  case s29 =>
    intro h0
    rw [upd_ne (by decide)] at h0
    exact (at_ne (by decide)).trans (f.s29 h0)
  case s30 =>
    intro h0
    rw [upd_ne (by decide)] at h0
    exact (at_ne (by decide)).trans (f.s30 h0)
  case s7 =>
    intro h0
    rw [upd_ne (by decide)] at h0
    exact (at_ne (by decide)).trans (f.s7 h0)
  case s8 => intro h0; rw [upd_ne (by decide)] at h0; exact absurd h0 (by simp [hoff])
  case W22 => intro h0 h1; rw [upd_ne (by decide)] at h1; exact absurd h1 (by simp [hon])
  case W24 => intro h0 h1; exact absurd h1 (by simp [upd])
  case W26 => intro h0 h1; exact absurd h1 (by simp [upd])
  case W27 =>
    intro h0 h1
    rw [upd_ne (by decide)] at h1
    exact hown
  case W7a =>
    intro h0 h1
    rw [upd_ne (by decide)] at h0
    rw [upd_ne (by decide)] at h1
    have h := f.W7a h0 h1
    exact ⟨h.1.grown hg1 (Ne.symm (f.N24 hon.1 h0 hb)), h.2⟩
  case W7b => intro h0; rw [upd_ne (by decide)] at h0; exact absurd h0 (by simp [hoff])
  case L7 =>
    intro h0
    rw [upd_ne (by decide)] at h0
    have h := f.L7 h0
    exact Nat.lt_of_lt_of_le h hg1.size
  case L26 =>
    intro h0
    rw [upd_ne (by decide)] at h0
    have h := f.L26 h0
    exact Nat.lt_of_lt_of_le h hg1.size
  case L22 =>
    intro h0
    rw [upd_ne (by decide)] at h0
    have h := f.L22 h0
    exact Nat.lt_of_lt_of_le h hg1.size
  case N22 => intro h0 h1 h2; rw [upd_ne (by decide)] at h2; exact absurd h2 (by simp [hon])
  case N26 => intro h0 h1 h2; rw [upd_ne (by decide)] at h2; exact absurd h2 (by simp [hon])
  case N24 => intro h0 h1 h2; exact absurd h2 (by simp [upd])
theorem step6 (A : Option Addr) (n c S : Nat) (cs : List Value) (m o : Int × Int) (r : Bool) (a0 : Act) (w3 : World) {Q : Exit → Act → World → Prop} {ops : Array Oper} {oi : Oper} (hoi : ops[6]? = some oi) (ho : oi.op = .call { callee := .value (.func 28), args := #[.tmp 27], argTypes := #[40] }) (hd : oi.dst = some 28) (hg : oi.guard = none) (hz : 31 ≤ a0.tmps.size) (hS : S = w3.heap.size) (hc : ∀ (w : World) (v : Value), w.ownsRow S 30 2 v (0 + n + 1) (([] ++ cs) ++ [.int .i64 m.1, .int .i64 m.2]) → Calls Try.prog 28 #[v] w fun e w' => e = .returned (.tuple #[.agg #[.int .i64 o.1, .int .i64 o.2], .bool r]) ∧ Below w.heap.size w w') :
    StepI Try.prog ops Q (fun b a w => ∃ g22 g26 g7 v24 v27, LI A n c S cs m o r a0 w3 b a w g22 g26 g7 v24 v27) 6 [5, 5] [7, 11, 12] := by
  rintro b a w ⟨g22, g26, g7, v24, v27, f⟩ hb hon hoff
  simp only [List.forall_mem_cons, List.not_mem_nil, false_implies, implies_true, and_true] at hon hoff
  refine ⟨_, hoi, fun K hK => ?_⟩
  obtain ⟨dst, op, ty, ps, af, gd⟩ := oi
  simp only at ho hd hg
  subst ho; subst hd; subst hg
  have e27 := f.s27 hon.1
  refine call_ 28 #[v27] (by simp [Region.wanted]) rfl (by go_simp) ?_
  refine (hc w v27 (f.W27 hon.1 hb)).mono ?_
  rintro e w1 ⟨rfl, hbc⟩
  refine ⟨_, rfl, ?_⟩
  refine hK _ _ ⟨g22, g26, g7, v24, v27, ?_⟩
  constructor
  case same => exact f.same.put rfl _
  case below => exact b_step f.below hbc
  case s22 =>
    intro h0
    rw [upd_ne (by decide)] at h0
    exact (at_ne (by decide)).trans (f.s22 h0)
  case s23 =>
    intro h0
    rw [upd_ne (by decide)] at h0
    exact (at_ne (by decide)).trans (f.s23 h0)
  case s24 =>
    intro h0
    rw [upd_ne (by decide)] at h0
    exact (at_ne (by decide)).trans (f.s24 h0)
  case s25 =>
    intro h0
    rw [upd_ne (by decide)] at h0
    exact (at_ne (by decide)).trans (f.s25 h0)
  case s26 =>
    intro h0
    rw [upd_ne (by decide)] at h0
    exact (at_ne (by decide)).trans (f.s26 h0)
  case s27 =>
    intro h0
    rw [upd_ne (by decide)] at h0
    exact (at_ne (by decide)).trans (f.s27 h0)
  case s28 =>
    intro h0
    exact at_put (Nat.lt_of_lt_of_le (by decide : (28 : Nat) < 31) (f.same.2.1 ▸ hz))
  case s21 => intro h0; rw [upd_ne (by decide)] at h0; exact absurd h0 (by simp [hoff])
  case s29 =>
    intro h0
    rw [upd_ne (by decide)] at h0
    exact (at_ne (by decide)).trans (f.s29 h0)
  case s30 =>
    intro h0
    rw [upd_ne (by decide)] at h0
    exact (at_ne (by decide)).trans (f.s30 h0)
  case s7 =>
    intro h0
    rw [upd_ne (by decide)] at h0
    exact (at_ne (by decide)).trans (f.s7 h0)
  case s8 => intro h0; rw [upd_ne (by decide)] at h0; exact absurd h0 (by simp [hoff])
  case W22 =>
    intro h0 h1
    rw [upd_ne (by decide)] at h0
    rw [upd_ne (by decide)] at h1
    have h := f.W22 h0 h1
    exact ⟨h.1.below hbc, h.2⟩
  case W24 => intro h0 h1; rw [upd_ne (by decide)] at h1; exact absurd h1 (by simp [hon])
  case W26 => intro h0 h1; rw [upd_ne (by decide)] at h1; exact absurd h1 (by simp [hon])
  case W27 => intro h0 h1; exact absurd h1 (by simp [upd])
  case W7a =>
    intro h0 h1
    rw [upd_ne (by decide)] at h0
    rw [upd_ne (by decide)] at h1
    have h := f.W7a h0 h1
    exact ⟨h.1.below hbc, h.2⟩
  case W7b => intro h0; rw [upd_ne (by decide)] at h0; exact absurd h0 (by simp [hoff])
  case L7 =>
    intro h0
    rw [upd_ne (by decide)] at h0
    have h := f.L7 h0
    exact Nat.lt_of_lt_of_le h hbc.size
  case L26 =>
    intro h0
    rw [upd_ne (by decide)] at h0
    have h := f.L26 h0
    exact Nat.lt_of_lt_of_le h hbc.size
  case L22 =>
    intro h0
    rw [upd_ne (by decide)] at h0
    have h := f.L22 h0
    exact Nat.lt_of_lt_of_le h hbc.size
  case N22 =>
    intro h0 h1 h2
    rw [upd_ne (by decide)] at h0
    rw [upd_ne (by decide)] at h1
    rw [upd_ne (by decide)] at h2
    exact f.N22 h0 h1 h2
  case N26 =>
    intro h0 h1 h2
    rw [upd_ne (by decide)] at h0
    rw [upd_ne (by decide)] at h1
    rw [upd_ne (by decide)] at h2
    exact f.N26 h0 h1 h2
  case N24 => intro h0 h1 h2; rw [upd_ne (by decide)] at h2; exact absurd h2 (by simp [hon])
theorem step7 (A : Option Addr) (n c S : Nat) (cs : List Value) (m o : Int × Int) (r : Bool) (a0 : Act) (w3 : World) {Q : Exit → Act → World → Prop} {ops : Array Oper} {oi : Oper} (hoi : ops[7]? = some oi) (ho : oi.op = .move (.tmp 28)) (hd : oi.dst = some 21) (hg : oi.guard = none) (hz : 31 ≤ a0.tmps.size) (hS : S = w3.heap.size)  :
    StepI Try.prog ops Q (fun b a w => ∃ g22 g26 g7 v24 v27, LI A n c S cs m o r a0 w3 b a w g22 g26 g7 v24 v27) 7 [6] [8, 9, 11, 12] := by
  rintro b a w ⟨g22, g26, g7, v24, v27, f⟩ hb hon hoff
  simp only [List.forall_mem_cons, List.not_mem_nil, false_implies, implies_true, and_true] at hon hoff
  refine ⟨_, hoi, fun K hK => ?_⟩
  obtain ⟨dst, op, ty, ps, af, gd⟩ := oi
  simp only at ho hd hg
  subst ho; subst hd; subst hg
  have e28 := f.s28 hon
  refine value_ (w1 := w) (v := .tuple #[.agg #[.int .i64 o.1, .int .i64 o.2], .bool r]) (by simp [Region.wanted]) rfl (by go_simp) ?_
  refine hK _ _ ⟨g22, g26, g7, v24, v27, ?_⟩
  constructor
  case same => exact f.same.put rfl _
  case below => exact f.below
  case s22 =>
    intro h0
    rw [upd_ne (by decide)] at h0
    exact (at_ne (by decide)).trans (f.s22 h0)
  case s23 =>
    intro h0
    rw [upd_ne (by decide)] at h0
    exact (at_ne (by decide)).trans (f.s23 h0)
  case s24 =>
    intro h0
    rw [upd_ne (by decide)] at h0
    exact (at_ne (by decide)).trans (f.s24 h0)
  case s25 =>
    intro h0
    rw [upd_ne (by decide)] at h0
    exact (at_ne (by decide)).trans (f.s25 h0)
  case s26 =>
    intro h0
    rw [upd_ne (by decide)] at h0
    exact (at_ne (by decide)).trans (f.s26 h0)
  case s27 =>
    intro h0
    rw [upd_ne (by decide)] at h0
    exact (at_ne (by decide)).trans (f.s27 h0)
  case s28 =>
    intro h0
    rw [upd_ne (by decide)] at h0
    exact (at_ne (by decide)).trans (f.s28 h0)
  case s21 =>
    intro h0
    exact at_put (Nat.lt_of_lt_of_le (by decide : (21 : Nat) < 31) (f.same.2.1 ▸ hz))
  case s29 => intro h0; rw [upd_ne (by decide)] at h0; exact absurd h0 (by simp [hoff])
  case s30 => intro h0; rw [upd_ne (by decide)] at h0; exact absurd h0 (by simp [hoff])
  case s7 =>
    intro h0
    rw [upd_ne (by decide)] at h0
    exact (at_ne (by decide)).trans (f.s7 h0)
  case s8 => intro h0; rw [upd_ne (by decide)] at h0; exact absurd h0 (by simp [hoff])
  case W22 =>
    intro h0 h1
    rw [upd_ne (by decide)] at h0
    rw [upd_ne (by decide)] at h1
    exact f.W22 h0 h1
  case W24 =>
    intro h0 h1
    rw [upd_ne (by decide)] at h0
    rw [upd_ne (by decide)] at h1
    exact f.W24 h0 h1
  case W26 =>
    intro h0 h1
    rw [upd_ne (by decide)] at h0
    rw [upd_ne (by decide)] at h1
    exact f.W26 h0 h1
  case W27 => intro h0 h1; rw [upd_ne (by decide)] at h1; exact absurd h1 (by simp [hon])
  case W7a =>
    intro h0 h1
    rw [upd_ne (by decide)] at h0
    rw [upd_ne (by decide)] at h1
    exact f.W7a h0 h1
  case W7b => intro h0; rw [upd_ne (by decide)] at h0; exact absurd h0 (by simp [hoff])
  case L7 =>
    intro h0
    rw [upd_ne (by decide)] at h0
    exact f.L7 h0
  case L26 =>
    intro h0
    rw [upd_ne (by decide)] at h0
    exact f.L26 h0
  case L22 =>
    intro h0
    rw [upd_ne (by decide)] at h0
    exact f.L22 h0
  case N22 =>
    intro h0 h1 h2
    rw [upd_ne (by decide)] at h0
    rw [upd_ne (by decide)] at h1
    rw [upd_ne (by decide)] at h2
    exact f.N22 h0 h1 h2
  case N26 =>
    intro h0 h1 h2
    rw [upd_ne (by decide)] at h0
    rw [upd_ne (by decide)] at h1
    rw [upd_ne (by decide)] at h2
    exact f.N26 h0 h1 h2
  case N24 =>
    intro h0 h1 h2
    rw [upd_ne (by decide)] at h0
    rw [upd_ne (by decide)] at h1
    rw [upd_ne (by decide)] at h2
    exact f.N24 h0 h1 h2
theorem step8 (A : Option Addr) (n c S : Nat) (cs : List Value) (m o : Int × Int) (r : Bool) (a0 : Act) (w3 : World) {Q : Exit → Act → World → Prop} {ops : Array Oper} {oi : Oper} (hoi : ops[8]? = some oi) (ho : oi.op = .extract (.tmp 21) 0) (hd : oi.dst = some 29) (hg : oi.guard = none) (hz : 31 ≤ a0.tmps.size) (hS : S = w3.heap.size)  :
    StepI Try.prog ops Q (fun b a w => ∃ g22 g26 g7 v24 v27, LI A n c S cs m o r a0 w3 b a w g22 g26 g7 v24 v27) 8 [7] [11, 12] := by
  rintro b a w ⟨g22, g26, g7, v24, v27, f⟩ hb hon hoff
  simp only [List.forall_mem_cons, List.not_mem_nil, false_implies, implies_true, and_true] at hon hoff
  refine ⟨_, hoi, fun K hK => ?_⟩
  obtain ⟨dst, op, ty, ps, af, gd⟩ := oi
  simp only at ho hd hg
  subst ho; subst hd; subst hg
  have e21 := f.s21 hon
  refine value_ (w1 := w) (v := .agg #[.int .i64 o.1, .int .i64 o.2]) (by simp [Region.wanted]) rfl (by go_simp) ?_
  refine hK _ _ ⟨g22, g26, g7, v24, v27, ?_⟩
  constructor
  case same => exact f.same.put rfl _
  case below => exact f.below
  case s22 =>
    intro h0
    rw [upd_ne (by decide)] at h0
    exact (at_ne (by decide)).trans (f.s22 h0)
  case s23 =>
    intro h0
    rw [upd_ne (by decide)] at h0
    exact (at_ne (by decide)).trans (f.s23 h0)
  case s24 =>
    intro h0
    rw [upd_ne (by decide)] at h0
    exact (at_ne (by decide)).trans (f.s24 h0)
  case s25 =>
    intro h0
    rw [upd_ne (by decide)] at h0
    exact (at_ne (by decide)).trans (f.s25 h0)
  case s26 =>
    intro h0
    rw [upd_ne (by decide)] at h0
    exact (at_ne (by decide)).trans (f.s26 h0)
  case s27 =>
    intro h0
    rw [upd_ne (by decide)] at h0
    exact (at_ne (by decide)).trans (f.s27 h0)
  case s28 =>
    intro h0
    rw [upd_ne (by decide)] at h0
    exact (at_ne (by decide)).trans (f.s28 h0)
  case s21 =>
    intro h0
    rw [upd_ne (by decide)] at h0
    exact (at_ne (by decide)).trans (f.s21 h0)
  case s29 =>
    intro h0
    exact at_put (Nat.lt_of_lt_of_le (by decide : (29 : Nat) < 31) (f.same.2.1 ▸ hz))
  case s30 =>
    intro h0
    rw [upd_ne (by decide)] at h0
    exact (at_ne (by decide)).trans (f.s30 h0)
  case s7 =>
    intro h0
    rw [upd_ne (by decide)] at h0
    exact (at_ne (by decide)).trans (f.s7 h0)
  case s8 => intro h0; rw [upd_ne (by decide)] at h0; exact absurd h0 (by simp [hoff])
  case W22 =>
    intro h0 h1
    rw [upd_ne (by decide)] at h0
    rw [upd_ne (by decide)] at h1
    exact f.W22 h0 h1
  case W24 =>
    intro h0 h1
    rw [upd_ne (by decide)] at h0
    rw [upd_ne (by decide)] at h1
    exact f.W24 h0 h1
  case W26 =>
    intro h0 h1
    rw [upd_ne (by decide)] at h0
    rw [upd_ne (by decide)] at h1
    exact f.W26 h0 h1
  case W27 =>
    intro h0 h1
    rw [upd_ne (by decide)] at h0
    rw [upd_ne (by decide)] at h1
    exact f.W27 h0 h1
  case W7a =>
    intro h0 h1
    rw [upd_ne (by decide)] at h0
    rw [upd_ne (by decide)] at h1
    exact f.W7a h0 h1
  case W7b => intro h0; rw [upd_ne (by decide)] at h0; exact absurd h0 (by simp [hoff])
  case L7 =>
    intro h0
    rw [upd_ne (by decide)] at h0
    exact f.L7 h0
  case L26 =>
    intro h0
    rw [upd_ne (by decide)] at h0
    exact f.L26 h0
  case L22 =>
    intro h0
    rw [upd_ne (by decide)] at h0
    exact f.L22 h0
  case N22 =>
    intro h0 h1 h2
    rw [upd_ne (by decide)] at h0
    rw [upd_ne (by decide)] at h1
    rw [upd_ne (by decide)] at h2
    exact f.N22 h0 h1 h2
  case N26 =>
    intro h0 h1 h2
    rw [upd_ne (by decide)] at h0
    rw [upd_ne (by decide)] at h1
    rw [upd_ne (by decide)] at h2
    exact f.N26 h0 h1 h2
  case N24 =>
    intro h0 h1 h2
    rw [upd_ne (by decide)] at h0
    rw [upd_ne (by decide)] at h1
    rw [upd_ne (by decide)] at h2
    exact f.N24 h0 h1 h2
theorem step9 (A : Option Addr) (n c S : Nat) (cs : List Value) (m o : Int × Int) (r : Bool) (a0 : Act) (w3 : World) {Q : Exit → Act → World → Prop} {ops : Array Oper} {oi : Oper} (hoi : ops[9]? = some oi) (ho : oi.op = .extract (.tmp 21) 1) (hd : oi.dst = some 30) (hg : oi.guard = none) (hz : 31 ≤ a0.tmps.size) (hS : S = w3.heap.size)  :
    StepI Try.prog ops Q (fun b a w => ∃ g22 g26 g7 v24 v27, LI A n c S cs m o r a0 w3 b a w g22 g26 g7 v24 v27) 9 [7] [12] := by
  rintro b a w ⟨g22, g26, g7, v24, v27, f⟩ hb hon hoff
  simp only [List.forall_mem_cons, List.not_mem_nil, false_implies, implies_true, and_true] at hon hoff
  refine ⟨_, hoi, fun K hK => ?_⟩
  obtain ⟨dst, op, ty, ps, af, gd⟩ := oi
  simp only at ho hd hg
  subst ho; subst hd; subst hg
  have e21 := f.s21 hon
  refine value_ (w1 := w) (v := .bool r) (by simp [Region.wanted]) rfl (by go_simp) ?_
  refine hK _ _ ⟨g22, g26, g7, v24, v27, ?_⟩
  constructor
  case same => exact f.same.put rfl _
  case below => exact f.below
  case s22 =>
    intro h0
    rw [upd_ne (by decide)] at h0
    exact (at_ne (by decide)).trans (f.s22 h0)
  case s23 =>
    intro h0
    rw [upd_ne (by decide)] at h0
    exact (at_ne (by decide)).trans (f.s23 h0)
  case s24 =>
    intro h0
    rw [upd_ne (by decide)] at h0
    exact (at_ne (by decide)).trans (f.s24 h0)
  case s25 =>
    intro h0
    rw [upd_ne (by decide)] at h0
    exact (at_ne (by decide)).trans (f.s25 h0)
  case s26 =>
    intro h0
    rw [upd_ne (by decide)] at h0
    exact (at_ne (by decide)).trans (f.s26 h0)
  case s27 =>
    intro h0
    rw [upd_ne (by decide)] at h0
    exact (at_ne (by decide)).trans (f.s27 h0)
  case s28 =>
    intro h0
    rw [upd_ne (by decide)] at h0
    exact (at_ne (by decide)).trans (f.s28 h0)
  case s21 =>
    intro h0
    rw [upd_ne (by decide)] at h0
    exact (at_ne (by decide)).trans (f.s21 h0)
  case s29 =>
    intro h0
    rw [upd_ne (by decide)] at h0
    exact (at_ne (by decide)).trans (f.s29 h0)
  case s30 =>
    intro h0
    exact at_put (Nat.lt_of_lt_of_le (by decide : (30 : Nat) < 31) (f.same.2.1 ▸ hz))
  case s7 =>
    intro h0
    rw [upd_ne (by decide)] at h0
    exact (at_ne (by decide)).trans (f.s7 h0)
  case s8 => intro h0; rw [upd_ne (by decide)] at h0; exact absurd h0 (by simp [hoff])
  case W22 =>
    intro h0 h1
    rw [upd_ne (by decide)] at h0
    rw [upd_ne (by decide)] at h1
    exact f.W22 h0 h1
  case W24 =>
    intro h0 h1
    rw [upd_ne (by decide)] at h0
    rw [upd_ne (by decide)] at h1
    exact f.W24 h0 h1
  case W26 =>
    intro h0 h1
    rw [upd_ne (by decide)] at h0
    rw [upd_ne (by decide)] at h1
    exact f.W26 h0 h1
  case W27 =>
    intro h0 h1
    rw [upd_ne (by decide)] at h0
    rw [upd_ne (by decide)] at h1
    exact f.W27 h0 h1
  case W7a =>
    intro h0 h1
    rw [upd_ne (by decide)] at h0
    rw [upd_ne (by decide)] at h1
    exact f.W7a h0 h1
  case W7b =>
    intro h0
    rw [upd_ne (by decide)] at h0
    exact f.W7b h0
  case L7 =>
    intro h0
    rw [upd_ne (by decide)] at h0
    exact f.L7 h0
  case L26 =>
    intro h0
    rw [upd_ne (by decide)] at h0
    exact f.L26 h0
  case L22 =>
    intro h0
    rw [upd_ne (by decide)] at h0
    exact f.L22 h0
  case N22 =>
    intro h0 h1 h2
    rw [upd_ne (by decide)] at h0
    rw [upd_ne (by decide)] at h1
    rw [upd_ne (by decide)] at h2
    exact f.N22 h0 h1 h2
  case N26 =>
    intro h0 h1 h2
    rw [upd_ne (by decide)] at h0
    rw [upd_ne (by decide)] at h1
    rw [upd_ne (by decide)] at h2
    exact f.N26 h0 h1 h2
  case N24 =>
    intro h0 h1 h2
    rw [upd_ne (by decide)] at h0
    rw [upd_ne (by decide)] at h1
    rw [upd_ne (by decide)] at h2
    exact f.N24 h0 h1 h2
theorem step10 (A : Option Addr) (n c S : Nat) (cs : List Value) (m o : Int × Int) (r : Bool) (a0 : Act) (w3 : World) {Q : Exit → Act → World → Prop} {ops : Array Oper} {oi : Oper} (hoi : ops[10]? = some oi) (ho : oi.op = .alloc 30) (hd : oi.dst = some 7) (hg : oi.guard = none) (hz : 31 ≤ a0.tmps.size) (hS : S = w3.heap.size)  :
    StepI Try.prog ops Q (fun b a w => ∃ g22 g26 g7 v24 v27, LI A n c S cs m o r a0 w3 b a w g22 g26 g7 v24 v27) 10 [] [11, 12] := by
  rintro b a w ⟨g22, g26, g7, v24, v27, f⟩ hb hon hoff
  simp only [List.forall_mem_cons, List.not_mem_nil, false_implies, implies_true, and_true] at hon hoff
  refine ⟨_, hoi, fun K hK => ?_⟩
  obtain ⟨dst, op, ty, ps, af, gd⟩ := oi
  simp only at ho hd hg
  subst ho; subst hd; subst hg
  refine value_ (w1 := w.alloc (.cells #[.int .i64 0, .int .i64 0] 30)) (v := .pointer (some ⟨w.heap.size, 0, none⟩)) (by simp [Region.wanted]) rfl (by go_simp) ?_
  refine hK _ _ ⟨g22, g26, w.heap.size, v24, v27, ?_⟩
  constructor
  case same => exact f.same.put rfl _
  case below => exact b_alloc f.below _
  case s22 =>
    intro h0
    rw [upd_ne (by decide)] at h0
    exact (at_ne (by decide)).trans (f.s22 h0)
  case s23 =>
    intro h0
    rw [upd_ne (by decide)] at h0
    exact (at_ne (by decide)).trans (f.s23 h0)
  case s24 =>
    intro h0
    rw [upd_ne (by decide)] at h0
    exact (at_ne (by decide)).trans (f.s24 h0)
  case s25 =>
    intro h0
    rw [upd_ne (by decide)] at h0
    exact (at_ne (by decide)).trans (f.s25 h0)
  case s26 =>
    intro h0
    rw [upd_ne (by decide)] at h0
    exact (at_ne (by decide)).trans (f.s26 h0)
  case s27 =>
    intro h0
    rw [upd_ne (by decide)] at h0
    exact (at_ne (by decide)).trans (f.s27 h0)
  case s28 =>
    intro h0
    rw [upd_ne (by decide)] at h0
    exact (at_ne (by decide)).trans (f.s28 h0)
  case s21 =>
    intro h0
    rw [upd_ne (by decide)] at h0
    exact (at_ne (by decide)).trans (f.s21 h0)
  case s29 =>
    intro h0
    rw [upd_ne (by decide)] at h0
    exact (at_ne (by decide)).trans (f.s29 h0)
  case s30 =>
    intro h0
    rw [upd_ne (by decide)] at h0
    exact (at_ne (by decide)).trans (f.s30 h0)
  case s7 =>
    intro h0
    exact at_put (Nat.lt_of_lt_of_le (by decide : (7 : Nat) < 31) (f.same.2.1 ▸ hz))
  case s8 => intro h0; rw [upd_ne (by decide)] at h0; exact absurd h0 (by simp [hoff])
  case W22 =>
    intro h0 h1
    rw [upd_ne (by decide)] at h0
    rw [upd_ne (by decide)] at h1
    have h := f.W22 h0 h1
    exact ⟨h.1.alloc _, h.2⟩
  case W24 =>
    intro h0 h1
    rw [upd_ne (by decide)] at h0
    rw [upd_ne (by decide)] at h1
    have h := f.W24 h0 h1
    exact h.alloc _
  case W26 =>
    intro h0 h1
    rw [upd_ne (by decide)] at h0
    rw [upd_ne (by decide)] at h1
    have h := f.W26 h0 h1
    exact ⟨h.1.alloc _, h.2⟩
  case W27 =>
    intro h0 h1
    rw [upd_ne (by decide)] at h0
    rw [upd_ne (by decide)] at h1
    have h := f.W27 h0 h1
    exact h.alloc _
  case W7a =>
    intro h0 h1
    rw [upd_ne (by decide)] at h1
    exact ⟨Blk.new _ _ _, hS ▸ f.below.size⟩
  case W7b => intro h0; rw [upd_ne (by decide)] at h0; exact absurd h0 (by simp [hoff])
  case L7 =>
    intro h0
    exact (Blk.new w 30 #[.int .i64 0, .int .i64 0]).lt
  case L26 =>
    intro h0
    rw [upd_ne (by decide)] at h0
    have h := f.L26 h0
    exact Nat.lt_of_lt_of_le h (b_alloc (b_refl _) _).size
  case L22 =>
    intro h0
    rw [upd_ne (by decide)] at h0
    have h := f.L22 h0
    exact Nat.lt_of_lt_of_le h (b_alloc (b_refl _) _).size
  case N22 =>
    intro h0 h1 h2
    rw [upd_ne (by decide)] at h0
    rw [upd_ne (by decide)] at h2
    have := f.L22 h0; omega
  case N26 =>
    intro h0 h1 h2
    rw [upd_ne (by decide)] at h0
    rw [upd_ne (by decide)] at h1
    rw [upd_ne (by decide)] at h2
    exact f.N26 h0 h1 h2
  case N24 =>
    intro h0 h1 h2
    rw [upd_ne (by decide)] at h0
    rw [upd_ne (by decide)] at h2
    intro e; have := own_lt (f.W24 h0 h2) _ e; omega
theorem step11 (A : Option Addr) (n c S : Nat) (cs : List Value) (m o : Int × Int) (r : Bool) (a0 : Act) (w3 : World) {Q : Exit → Act → World → Prop} {ops : Array Oper} {oi : Oper} (hoi : ops[11]? = some oi) (ho : oi.op = .store 30 (.tmp 7) (.tmp 29)) (hd : oi.dst = none) (hg : oi.guard = none) (hz : 31 ≤ a0.tmps.size) (hS : S = w3.heap.size)  :
    StepI Try.prog ops Q (fun b a w => ∃ g22 g26 g7 v24 v27, LI A n c S cs m o r a0 w3 b a w g22 g26 g7 v24 v27) 11 [10, 8, 6, 0, 1, 2, 3, 4, 5, 6, 7, 8, 10] [12] := by
  rintro b a w ⟨g22, g26, g7, v24, v27, f⟩ hb hon hoff
  simp only [List.forall_mem_cons, List.not_mem_nil, false_implies, implies_true, and_true] at hon hoff
  refine ⟨_, hoi, fun K hK => ?_⟩
  obtain ⟨dst, op, ty, ps, af, gd⟩ := oi
  simp only at ho hd hg
  subst ho; subst hd; subst hg
  have e7 := f.s7 hon.1
  have e29 := f.s29 hon.2.1
  have z := f.W7a hon.1 hb
  have c0 := z.1.cell 0
  have c1 := z.1.cell 1
  have f0 := z.1.frozen 0
  have f1 := z.1.frozen 1
  simp only [List.getElem?_toArray, List.getElem?_cons_zero, List.getElem?_cons_succ] at c0 c1
  refine skip_ (w1 := (w.setCell ⟨g7, 0, none⟩ (.int .i64 o.1)).setCell ⟨g7, 1, none⟩ (.int .i64 o.2)) (by simp [Region.wanted]) rfl (by go_simp) ?_
  refine hK _ _ ⟨g22, g26, g7, v24, v27, ?_⟩
  constructor
  case same => exact f.same
  case below => exact b_set (b_set f.below (by simp; have := z.2; omega) _) (by simp; have := z.2; omega) _
  case s22 =>
    intro h0
    rw [upd_ne (by decide)] at h0
    exact f.s22 h0
  case s23 =>
    intro h0
    rw [upd_ne (by decide)] at h0
    exact f.s23 h0
  case s24 =>
    intro h0
    rw [upd_ne (by decide)] at h0
    exact f.s24 h0
  case s25 =>
    intro h0
    rw [upd_ne (by decide)] at h0
    exact f.s25 h0
  case s26 =>
    intro h0
    rw [upd_ne (by decide)] at h0
    exact f.s26 h0
  case s27 =>
    intro h0
    rw [upd_ne (by decide)] at h0
    exact f.s27 h0
  case s28 =>
    intro h0
    rw [upd_ne (by decide)] at h0
    exact f.s28 h0
  case s21 =>
    intro h0
    rw [upd_ne (by decide)] at h0
    exact f.s21 h0
  case s29 =>
    intro h0
    rw [upd_ne (by decide)] at h0
    exact f.s29 h0
  case s30 =>
    intro h0
    rw [upd_ne (by decide)] at h0
    exact f.s30 h0
  case s7 =>
    intro h0
    rw [upd_ne (by decide)] at h0
    exact f.s7 h0
  case s8 => intro h0; rw [upd_ne (by decide)] at h0; exact absurd h0 (by simp [hoff])
  case W22 => intro h0 h1; rw [upd_ne (by decide)] at h1; exact absurd h1 (by simp [hon])
  case W24 => intro h0 h1; rw [upd_ne (by decide)] at h1; exact absurd h1 (by simp [hon])
  case W26 => intro h0 h1; rw [upd_ne (by decide)] at h1; exact absurd h1 (by simp [hon])
  case W27 => intro h0 h1; rw [upd_ne (by decide)] at h1; exact absurd h1 (by simp [hon])
  case W7a => intro h0 h1; exact absurd h1 (by simp [upd])
  case W7b =>
    intro h0
    exact ⟨by simpa using (z.1.set_ 0 (.int .i64 o.1)).set_ 1 (.int .i64 o.2), z.2⟩
  case L7 =>
    intro h0
    rw [upd_ne (by decide)] at h0
    have h := f.L7 h0
    simpa using h
  case L26 =>
    intro h0
    rw [upd_ne (by decide)] at h0
    have h := f.L26 h0
    simpa using h
  case L22 =>
    intro h0
    rw [upd_ne (by decide)] at h0
    have h := f.L22 h0
    simpa using h
  case N22 => intro h0 h1 h2; rw [upd_ne (by decide)] at h2; exact absurd h2 (by simp [hon])
  case N26 => intro h0 h1 h2; rw [upd_ne (by decide)] at h2; exact absurd h2 (by simp [hon])
  case N24 => intro h0 h1 h2; rw [upd_ne (by decide)] at h2; exact absurd h2 (by simp [hon])
theorem step12 (A : Option Addr) (n c S : Nat) (cs : List Value) (m o : Int × Int) (r : Bool) (a0 : Act) (w3 : World) {Q : Exit → Act → World → Prop} {ops : Array Oper} {oi : Oper} (hoi : ops[12]? = some oi) (ho : oi.op = .assign (.tmp 30)) (hd : oi.dst = some 8) (hg : oi.guard = none) (hz : 31 ≤ a0.tmps.size) (hS : S = w3.heap.size)  :
    StepI Try.prog ops Q (fun b a w => ∃ g22 g26 g7 v24 v27, LI A n c S cs m o r a0 w3 b a w g22 g26 g7 v24 v27) 12 [9, 11, 0, 1, 2, 3, 4, 5, 6, 7, 8, 9, 10, 11] [] := by
  rintro b a w ⟨g22, g26, g7, v24, v27, f⟩ hb hon hoff
  simp only [List.forall_mem_cons, List.not_mem_nil, false_implies, implies_true, and_true] at hon hoff
  refine ⟨_, hoi, fun K hK => ?_⟩
  obtain ⟨dst, op, ty, ps, af, gd⟩ := oi
  simp only at ho hd hg
  subst ho; subst hd; subst hg
  have e30 := f.s30 hon.1
  refine value_ (w1 := w) (v := .bool r) (by simp [Region.wanted]) rfl (by go_simp) ?_
  refine hK _ _ ⟨g22, g26, g7, v24, v27, ?_⟩
  constructor
  case same => exact f.same.put rfl _
  case below => exact f.below
  case s22 =>
    intro h0
    rw [upd_ne (by decide)] at h0
    exact (at_ne (by decide)).trans (f.s22 h0)
  case s23 =>
    intro h0
    rw [upd_ne (by decide)] at h0
    exact (at_ne (by decide)).trans (f.s23 h0)
  case s24 =>
    intro h0
    rw [upd_ne (by decide)] at h0
    exact (at_ne (by decide)).trans (f.s24 h0)
  case s25 =>
    intro h0
    rw [upd_ne (by decide)] at h0
    exact (at_ne (by decide)).trans (f.s25 h0)
  case s26 =>
    intro h0
    rw [upd_ne (by decide)] at h0
    exact (at_ne (by decide)).trans (f.s26 h0)
  case s27 =>
    intro h0
    rw [upd_ne (by decide)] at h0
    exact (at_ne (by decide)).trans (f.s27 h0)
  case s28 =>
    intro h0
    rw [upd_ne (by decide)] at h0
    exact (at_ne (by decide)).trans (f.s28 h0)
  case s21 =>
    intro h0
    rw [upd_ne (by decide)] at h0
    exact (at_ne (by decide)).trans (f.s21 h0)
  case s29 =>
    intro h0
    rw [upd_ne (by decide)] at h0
    exact (at_ne (by decide)).trans (f.s29 h0)
  case s30 =>
    intro h0
    rw [upd_ne (by decide)] at h0
    exact (at_ne (by decide)).trans (f.s30 h0)
  case s7 =>
    intro h0
    rw [upd_ne (by decide)] at h0
    exact (at_ne (by decide)).trans (f.s7 h0)
  case s8 =>
    intro h0
    exact at_put (Nat.lt_of_lt_of_le (by decide : (8 : Nat) < 31) (f.same.2.1 ▸ hz))
  case W22 => intro h0 h1; rw [upd_ne (by decide)] at h1; exact absurd h1 (by simp [hon])
  case W24 => intro h0 h1; rw [upd_ne (by decide)] at h1; exact absurd h1 (by simp [hon])
  case W26 => intro h0 h1; rw [upd_ne (by decide)] at h1; exact absurd h1 (by simp [hon])
  case W27 => intro h0 h1; rw [upd_ne (by decide)] at h1; exact absurd h1 (by simp [hon])
  case W7a => intro h0 h1; rw [upd_ne (by decide)] at h1; exact absurd h1 (by simp [hon])
  case W7b =>
    intro h0
    rw [upd_ne (by decide)] at h0
    exact f.W7b h0
  case L7 =>
    intro h0
    rw [upd_ne (by decide)] at h0
    exact f.L7 h0
  case L26 =>
    intro h0
    rw [upd_ne (by decide)] at h0
    exact f.L26 h0
  case L22 =>
    intro h0
    rw [upd_ne (by decide)] at h0
    exact f.L22 h0
  case N22 => intro h0 h1 h2; rw [upd_ne (by decide)] at h2; exact absurd h2 (by simp [hon])
  case N26 => intro h0 h1 h2; rw [upd_ne (by decide)] at h2; exact absurd h2 (by simp [hon])
  case N24 => intro h0 h1 h2; rw [upd_ne (by decide)] at h2; exact absurd h2 (by simp [hon])
theorem LI.done {A : Option Addr} {n c S : Nat} {cs : List Value} {m o : Int × Int} {r : Bool} {a0 : Act} {w3 : World} {b : Nat → Bool} {a : Act} {w : World} {g22 g26 g7 : Nat} {v24 v27 : Value} (f : LI A n c S cs m o r a0 w3 b a w g22 g26 g7 v24 v27) (hz : 31 ≤ a0.tmps.size) (hall : ∀ j, j < 13 → b j = true) :
    a = puts a0 [(22, (.slice (some ⟨g22, 0, none⟩) 0 0)), (23, (.slice A n c)), (24, v24), (25, (.agg #[.int .i64 m.1, .int .i64 m.2])), (26, (.slice (some ⟨g26, 0, none⟩) 1 1)), (27, v27), (28, (.tuple #[.agg #[.int .i64 o.1, .int .i64 o.2], .bool r])), (21, (.tuple #[.agg #[.int .i64 o.1, .int .i64 o.2], .bool r])), (29, (.agg #[.int .i64 o.1, .int .i64 o.2])), (30, (.bool r)), (7, (.pointer (some ⟨g7, 0, none⟩))), (8, (.bool r))] := by
  refine Same.eq f.same (show List.Nodup ([22, 23, 24, 25, 26, 27, 28, 21, 29, 30, 7, 8] : List Nat) by decide) ?_ ?_
  · simp only [List.forall_mem_cons, List.not_mem_nil, false_implies, implies_true, and_true]
    exact ⟨Nat.lt_of_lt_of_le (by decide : (22 : Nat) < 31) hz, Nat.lt_of_lt_of_le (by decide : (23 : Nat) < 31) hz, Nat.lt_of_lt_of_le (by decide : (24 : Nat) < 31) hz, Nat.lt_of_lt_of_le (by decide : (25 : Nat) < 31) hz, Nat.lt_of_lt_of_le (by decide : (26 : Nat) < 31) hz, Nat.lt_of_lt_of_le (by decide : (27 : Nat) < 31) hz, Nat.lt_of_lt_of_le (by decide : (28 : Nat) < 31) hz, Nat.lt_of_lt_of_le (by decide : (21 : Nat) < 31) hz, Nat.lt_of_lt_of_le (by decide : (29 : Nat) < 31) hz, Nat.lt_of_lt_of_le (by decide : (30 : Nat) < 31) hz, Nat.lt_of_lt_of_le (by decide : (7 : Nat) < 31) hz, Nat.lt_of_lt_of_le (by decide : (8 : Nat) < 31) hz⟩
  · simp only [List.forall_mem_cons, List.not_mem_nil, false_implies, implies_true, and_true]
    exact ⟨f.s22 (hall 0 (by decide)), f.s23 (hall 1 (by decide)), f.s24 (hall 2 (by decide)), f.s25 (hall 3 (by decide)), f.s26 (hall 4 (by decide)), f.s27 (hall 5 (by decide)), f.s28 (hall 6 (by decide)), f.s21 (hall 7 (by decide)), f.s29 (hall 8 (by decide)), f.s30 (hall 9 (by decide)), f.s7 (hall 10 (by decide)), f.s8 (hall 12 (by decide))⟩
end Go.Proofs.Ytefihmfilahppaa.StampW
