/- Layer 3's walks: stamps that are compared. No condition. -/
import Derived.Test.YtefihmfilahppaaCom
namespace Go.Proofs.Ytefihmfilahppaa.StampW
open Go.RowKit Go.Proofs.Ytefihmfilahppaa.Com
set_option linter.unusedVariables false

/-- Of two numbers: -1, 0, 1. -/
def cmpI (a b : Int) : Int := if a < b then -1 else if b < a then 1 else 0
def older (a b c d : Int) : Bool := decide (a < c ∨ a = c ∧ b < d)
theorem cmpI_lt {a b : Int} (h : a < b) : cmpI a b = -1 := by unfold cmpI; rw [if_pos h]
theorem cmpI_gt {a b : Int} (h : b < a) : cmpI a b = 1 := by unfold cmpI; rw [if_neg (by omega), if_pos h]
theorem cmpI_eq {a b : Int} (h : a = b) : cmpI a b = 0 := by unfold cmpI; rw [if_neg (by omega), if_neg (by omega)]

theorem isNaN64 (a : Int) (w : World) : Calls Try.prog 59 #[.int .i64 a] w fun e w' => e = .returned (.bool false) ∧ w' = w := by
  go_enter Try.func59, Try.ntmps59
  go_wp2
  go_ret
  exact ⟨by simp, rfl⟩
theorem isNaN (a : Int) (w : World) : Calls Try.prog 60 #[.int .i64 a] w fun e w' => e = .returned (.bool false) ∧ w' = w := by
  go_enter Try.func60, Try.ntmps60
  go_wp2
  go_ret
  exact ⟨by simp, rfl⟩
theorem Compare64 (a b : Int) (w : World) : Calls Try.prog 56 #[.int .i64 a, .int .i64 b] w fun e w' => e = .returned (.int .i64 (cmpI a b)) ∧ w' = w := by
  rcases Int.lt_trichotomy a b with h | h | h
  · rw [cmpI_lt h]
    go_enter Try.func56, Try.ntmps56
    go_wp2_with (go_at_call 59; refine (isNaN64 _ _).mono ?_; rintro e w' ⟨rfl, rfl⟩)
    go_ret
    exact ⟨rfl, rfl⟩
  · rw [cmpI_eq h]
    go_enter Try.func56, Try.ntmps56
    go_wp2_with (go_at_call 59; refine (isNaN64 _ _).mono ?_; rintro e w' ⟨rfl, rfl⟩)
    go_ret
    exact ⟨rfl, rfl⟩
  · rw [cmpI_gt h]
    go_enter Try.func56, Try.ntmps56
    go_wp2_with (go_at_call 59; refine (isNaN64 _ _).mono ?_; rintro e w' ⟨rfl, rfl⟩)
    go_ret
    exact ⟨rfl, rfl⟩
theorem Compare (a b : Int) (w : World) : Calls Try.prog 57 #[.int .i64 a, .int .i64 b] w fun e w' => e = .returned (.int .i64 (cmpI a b)) ∧ w' = w := by
  rcases Int.lt_trichotomy a b with h | h | h
  · rw [cmpI_lt h]
    go_enter Try.func57, Try.ntmps57
    go_wp2_with (go_at_call 60; refine (isNaN _ _).mono ?_; rintro e w' ⟨rfl, rfl⟩)
    go_ret
    exact ⟨rfl, rfl⟩
  · rw [cmpI_eq h]
    go_enter Try.func57, Try.ntmps57
    go_wp2_with (go_at_call 60; refine (isNaN _ _).mono ?_; rintro e w' ⟨rfl, rfl⟩)
    go_ret
    exact ⟨rfl, rfl⟩
  · rw [cmpI_gt h]
    go_enter Try.func57, Try.ntmps57
    go_wp2_with (go_at_call 60; refine (isNaN _ _).mono ?_; rintro e w' ⟨rfl, rfl⟩)
    go_ret
    exact ⟨rfl, rfl⟩

theorem Or_two (x y : Int) (g c : Nat) (w : World) (h0 : w.cell? ⟨g, 0, none⟩ = some (.int .i64 x)) (h1 : w.cell? ⟨g, 1, none⟩ = some (.int .i64 y)) :
    Calls Try.prog 55 #[.slice (some ⟨g, 0, none⟩) 2 c] w fun e w' => e = .returned (.int .i64 (if x = 0 then y else x)) ∧ w' = w := by
  by_cases hx : x = 0
  · subst hx
    by_cases hy : y = 0
    · subst hy
      rw [if_pos rfl]
      go_enter Try.func55, Try.ntmps55
      go_wp2
      refine wp_loop_rounds 3 ?_
      rw [rounds_succ]; go_wp2
      rw [rounds_succ]; go_wp2
      rw [rounds_succ]; go_wp2
      go_ret
      exact ⟨rfl, rfl⟩
    · have hb : (y != 0) = true := by rw [bne_iff_ne]; exact hy
      rw [if_pos rfl]
      go_enter Try.func55, Try.ntmps55
      go_wp2
      refine wp_loop_rounds 2 ?_
      rw [rounds_succ]; go_wp2
      rw [rounds_succ]; go_wp2
      go_ret
      exact ⟨rfl, rfl⟩
  · have hb : (x != 0) = true := by rw [bne_iff_ne]; exact hx
    rw [if_neg hx]
    go_enter Try.func55, Try.ntmps55
    go_wp2
    refine wp_loop_rounds 1 ?_
    rw [rounds_succ]; go_wp2
    go_ret
    exact ⟨rfl, rfl⟩

theorem cmp_or (a b c d : Int) : decide ((if cmpI a c = 0 then cmpI b d else cmpI a c) < 0) = older a b c d := by
  unfold older cmpI
  rw [decide_eq_decide]
  constructor
  · intro h
    repeat' split at h
    all_goals omega
  · intro h
    repeat' split
    all_goals omega

/-- What a comparison leaves: the answer; below the call's own blocks nothing has turned. -/
theorem before (a b c d : Int) (w : World) :
    Calls Try.prog 43 #[.agg #[.int .i64 a, .int .i64 b], .agg #[.int .i64 c, .int .i64 d]] w fun e w' => e = .returned (.bool (older a b c d)) ∧ Below w.heap.size w w' := by
  rw [← cmp_or a b c d]
  generalize hx : cmpI a c = x
  generalize hy : cmpI b d = y
  have c1 := Lib.hid (fun w => hx ▸ Compare64 a c w)
  have c2 := Lib.hid (fun w => hy ▸ Compare b d w)
  clear hx hy
  have c3 := Or_two x y
  generalize (if x = 0 then y else x) = z at c3 ⊢
  have c3 := Lib.hid c3
  go_enter Try.func43, Try.ntmps43
  go_wp2
  go_region_held3 (fun w' => w'.cell? ⟨w.heap.size, 0, none⟩ = some (.int .i64 a) ∧ w'.cell? ⟨w.heap.size, 1, none⟩ = some (.int .i64 b) ∧ w'.cell? ⟨w.heap.size + 1, 0, none⟩ = some (.int .i64 c) ∧ w'.cell? ⟨w.heap.size + 1, 1, none⟩ = some (.int .i64 d)) (go_keep)
    (first
      | (go_at_call 56; refine (c1.out _).mono ?_; rintro e w' ⟨rfl, rfl⟩)
      | (go_at_call 57; refine (c2.out _).mono ?_; rintro e w' ⟨rfl, rfl⟩)
      | (go_at_call 55; refine (c3.out _ _ _ (by go_simp) (by go_simp)).mono ?_; rintro e w' ⟨rfl, rfl⟩))
  go_wp2
  go_ret
  exact ⟨rfl, by repeat (first | exact b_refl _ | apply b_drew | apply b_drewN | apply b_alloc)⟩

theorem Older_calls (a b c d : Int) (w : World) :
    Calls Try.prog 22 #[.agg #[.int .i64 a, .int .i64 b], .agg #[.int .i64 c, .int .i64 d]] w fun e w' => e = .returned (.bool (older a b c d)) ∧ Below w.heap.size w w' := by
  go_enter Try.func22, Try.ntmps22
  go_wp2_with (go_at_call 43; refine (before _ _ _ _ _).mono ?_; rintro e w' ⟨rfl, hb⟩)
  go_ret
  exact ⟨rfl, b_step (by repeat (first | exact b_refl _ | apply b_drew | apply b_drewN | apply b_alloc)) hb⟩

theorem ROlder_calls (a b c d : Int) (w : World) :
    Calls Try.prog 23 #[.agg #[.int .i64 a, .int .i64 b], .agg #[.int .i64 c, .int .i64 d]] w fun e w' => e = .returned (.bool (older a b c d)) ∧ Below w.heap.size w w' := by
  rcases Int.lt_trichotomy a c with h | h | h
  · rw [show older a b c d = true by simp [older, h]]
    go_enter Try.func23, Try.ntmps23
    go_wp2
    go_ret
    exact ⟨rfl, by repeat (first | exact b_refl _ | apply b_drew | apply b_drewN | apply b_alloc)⟩
  · rw [show older a b c d = decide (b < d) by simp [older, h]]
    have e1 : (a == c) = true := beq_iff_eq.2 h
    go_enter Try.func23, Try.ntmps23
    go_wp2
    go_ret
    exact ⟨rfl, by repeat (first | exact b_refl _ | apply b_drew | apply b_drewN | apply b_alloc)⟩
  · rw [show older a b c d = false by simp only [older, decide_eq_false_iff_not]; omega]
    have e1 : (a == c) = false := beq_eq_false_iff_ne.2 (by omega)
    have e2 : decide (a < c) = false := decide_eq_false (by omega)
    go_enter Try.func23, Try.ntmps23
    go_wp2
    go_ret
    exact ⟨rfl, by repeat (first | exact b_refl _ | apply b_drew | apply b_drewN | apply b_alloc)⟩

/-- May it be a stamp, among n? -/
def mayS (t o n : Int) : Bool := decide (1 ≤ t ∧ t ≤ 1125899906842624 ∧ 0 ≤ o ∧ o < n)
theorem May_calls (t o n : Int) (w : World) :
    Calls Try.prog 24 #[.agg #[.int .i64 t, .int .i64 o], .int .i64 n] w fun e w' => e = .returned (.bool (mayS t o n)) ∧ Below w.heap.size w w' := by
  by_cases h1 : 1 ≤ t
  all_goals by_cases h2 : t ≤ 1125899906842624
  all_goals by_cases h3 : 0 ≤ o
  all_goals by_cases h4 : o < n
  all_goals try (exfalso; omega)
  all_goals
    first
      | rw [show mayS t o n = true by simp only [mayS, decide_eq_true_eq]; omega]
      | rw [show mayS t o n = false by simp only [mayS, decide_eq_false_iff_not]; omega]
    go_enter Try.func24, Try.ntmps24
    go_wp2
    go_ret
    exact ⟨rfl, by repeat (first | exact b_refl _ | apply b_drew | apply b_drewN | apply b_alloc)⟩
theorem RMay_calls (t o n : Int) (w : World) :
    Calls Try.prog 25 #[.agg #[.int .i64 t, .int .i64 o], .int .i64 n] w fun e w' => e = .returned (.bool (mayS t o n)) ∧ Below w.heap.size w w' := by
  by_cases h1 : 1 ≤ t
  all_goals by_cases h2 : t ≤ 1125899906842624
  all_goals by_cases h3 : 0 ≤ o
  all_goals by_cases h4 : o < n
  all_goals try (exfalso; omega)
  all_goals
    first
      | rw [show mayS t o n = true by simp only [mayS, decide_eq_true_eq]; omega]
      | rw [show mayS t o n = false by simp only [mayS, decide_eq_false_iff_not]; omega]
    go_enter Try.func25, Try.ntmps25
    go_wp2
    go_ret
    exact ⟨rfl, by repeat (first | exact b_refl _ | apply b_drew | apply b_drewN | apply b_alloc)⟩

/-- What ticks: the time, and the code. -/
def tickT (a b : Int) : Int := if min a b < 0 then 0 else if 1125899906842624 ≤ max a b then 0 else max a b + 1
def tickC (a b : Int) : Int := if min a b < 0 then 1 else if 1125899906842624 ≤ max a b then 6 else 0
theorem Tick_calls (a b : Int) (w : World) :
    Calls Try.prog 26 #[.int .i64 a, .int .i64 b] w fun e w' => e = .returned (.tuple #[.int .i64 (tickT a b), .int .i64 (tickC a b)]) ∧ w' = w := by
  by_cases h1 : a < 0
  · have e1 : tickT a b = 0 := by unfold tickT; rw [if_pos (by omega)]
    have e2 : tickC a b = 1 := by unfold tickC; rw [if_pos (by omega)]
    rw [e1, e2]
    clear e1 e2
    rcases Int.lt_trichotomy a b with h | h | h
    all_goals
      go_enter Try.func26, Try.ntmps26
      go_wp2
      go_ret2
      exact ⟨rfl, rfl⟩
  · by_cases h2 : b < 0
    · have e1 : tickT a b = 0 := by unfold tickT; rw [if_pos (by omega)]
      have e2 : tickC a b = 1 := by unfold tickC; rw [if_pos (by omega)]
      rw [e1, e2]
      clear e1 e2
      go_enter Try.func26, Try.ntmps26
      go_wp2
      go_ret2
      exact ⟨rfl, rfl⟩
    · by_cases h3 : 1125899906842624 ≤ max a b
      · have e1 : tickT a b = 0 := by unfold tickT; rw [if_neg (by omega), if_pos h3]
        have e2 : tickC a b = 6 := by unfold tickC; rw [if_neg (by omega), if_pos h3]
        rw [e1, e2]
        clear e1 e2
        rcases Int.lt_trichotomy a b with h | h | h
        all_goals
          have h4 : 1125899906842624 ≤ a ∨ 1125899906842624 ≤ b := by omega
          have h5 : (a < b → 1125899906842624 ≤ b) ∧ (b ≤ a → 1125899906842624 ≤ a) := by omega
          obtain ⟨h5, h6⟩ := h5
          clear h3 h4
          first | (have := h5 (by omega)) | (have := h6 (by omega))
          clear h5 h6
          go_enter Try.func26, Try.ntmps26
          go_wp2
          go_ret2
          exact ⟨rfl, rfl⟩
      · have e2 : tickC a b = 0 := by unfold tickC; rw [if_neg (by omega), if_neg h3]
        rw [e2]
        rcases Int.lt_trichotomy a b with h | h | h
        · have e1 : tickT a b = b + 1 := by unfold tickT; rw [if_neg (by omega), if_neg h3]; omega
          have : b < 1125899906842624 := by omega
          rw [e1]
          clear e1 e2 h3
          go_enter Try.func26, Try.ntmps26
          go_wp2
          go_ret2
          exact ⟨rfl, rfl⟩
        · have e1 : tickT a b = a + 1 := by unfold tickT; rw [if_neg (by omega), if_neg h3]; omega
          have : a < 1125899906842624 := by omega
          rw [e1]
          clear e1 e2 h3
          subst h
          go_enter Try.func26, Try.ntmps26
          go_wp2
          go_ret2
          exact ⟨rfl, rfl⟩
        · have e1 : tickT a b = a + 1 := by unfold tickT; rw [if_neg (by omega), if_neg h3]; omega
          have : a < 1125899906842624 := by omega
          rw [e1]
          clear e1 e2 h3
          go_enter Try.func26, Try.ntmps26
          go_wp2
          go_ret2
          exact ⟨rfl, rfl⟩

theorem awake_calls (w : World) : Calls Try.prog 21 #[] w fun e w' => e = .returned (.bool true) ∧ Below w.heap.size w w' := by
  have c1 := Lib.hid (fun w => (show tickT 3 7 = 8 by decide) ▸ (show tickC 3 7 = 0 by decide) ▸ Tick_calls 3 7 w)
  have c2 := Lib.hid (fun w => (show older 5 1 5 2 = true by decide) ▸ Older_calls 5 1 5 2 w)
  have c3 := Lib.hid (fun w => (show mayS 1 0 1 = true by decide) ▸ May_calls 1 0 1 w)
  go_enter Try.func21, Try.ntmps21
  go_wp2_with (first
    | (go_at_call 26; refine (c1.out _).mono ?_; rintro e w' ⟨rfl, rfl⟩)
    | (go_at_call 22; refine (c2.out _).mono ?_; rintro e w1 ⟨rfl, hb1⟩)
    | (go_at_call 24; refine (c3.out _).mono ?_; rintro e w2 ⟨rfl, hb2⟩))
  go_ret
  exact ⟨rfl, b_step hb1 hb2⟩
end Go.Proofs.Ytefihmfilahppaa.StampW
