/- Layer 10's walks: a wait's bound. -/
import Derived.Test.YtefihmfilahppaaProg
import Derived.WalkKit
import Derived.WalkMore
import Derived.KernelRfl
import Derived.Below
import Derived.Lib.Hide
import Derived.WalkLawsBesides
import Derived.WideLaws
import Derived.Deep.LoopGhost
import Derived.Deep.QuietTactic
import Derived.BigQuiet
namespace Go.Proofs.Ytefihmfilahppaa.WaitW
open Go.RowKit
set_option linter.unusedVariables false

/-- What a bound is. -/
def bound (p t : Int) : Int := if p < 1 ∨ 16 < p then 0 else min (2 ^ (min t 10).toNat) p

theorem ret_int {k : IntKind} {a b : Int} (h : a = b) : Ending.returned (.int k a) = .returned (.int k b) := by rw [h]

theorem Bound_no1 (p t : Int) (w : World) (h : p < 1) :
    Calls Try.prog 17 #[.int .i64 p, .int .i64 t] w fun e w' => e = .returned (.int .i64 0) ∧ w' = w := by
  go_enter Try.func17, Try.ntmps17
  go_wp2; go_step3; go_wp2
  rw [Exit.noGoto_ret]
  go_ret
  exact ⟨rfl, rfl⟩
theorem Bound_no2 (p t : Int) (w : World) (h : 16 < p) :
    Calls Try.prog 17 #[.int .i64 p, .int .i64 t] w fun e w' => e = .returned (.int .i64 0) ∧ w' = w := by
  go_enter Try.func17, Try.ntmps17
  go_wp2; go_step3; go_wp2
  rw [Exit.noGoto_ret]
  go_ret
  exact ⟨rfl, rfl⟩
theorem min_pow_done (p t : Int) (k : Nat) (h10 : k ≤ 10) (hk : k = 0 ∨ (k : Int) ≤ t) (hd : 10 ≤ k ∨ t ≤ k) : min ((2 : Int) ^ k) p = min (2 ^ (min t 10).toNat) p := by
  have : (min t 10).toNat = k := by omega
  rw [this]
theorem min_pow_more (p t : Int) (k : Nat) (b : Int) (hb : b = 2 ^ k) (h : p ≤ b * 2) (hk : (k : Int) < t) (h10 : k < 10) : p = min ((2 : Int) ^ (min t 10).toNat) p := by
  have h1 : k + 1 ≤ (min t 10).toNat := by omega
  have h2 : (2 : Int) ^ (k + 1) ≤ 2 ^ (min t 10).toNat := by
    have := Nat.pow_le_pow_right (show 0 < 2 by decide) h1
    exact_mod_cast this
  rw [Int.pow_succ, ← hb] at h2
  omega
theorem Bound_yes (p t : Int) (w : World) (h : 1 ≤ p) (h2 : p ≤ 16) :
    Calls Try.prog 17 #[.int .i64 p, .int .i64 t] w fun e w' => e = .returned (.int .i64 (min (2 ^ (min t 10).toNat) p)) ∧ w' = w := by
  go_enter Try.func17, Try.ntmps17
  go_wp2; go_step3; go_wp2; go_step3; go_wp2
  all_goals
    go_loop [5, 14] (fun b i => ∃ (k : Nat) (x : Int), i = .int .i64 k ∧ b = .int .i64 x ∧ Hid (x = 2 ^ k) ∧ 1 ≤ x ∧ x ≤ 16 ∧ x ≤ p ∧ k ≤ 10 ∧ Hid (k = 0 ∨ (k : Int) ≤ t)) (fun _ i => 10 - (intOf i).toNat)
    case atStart => exact ⟨0, 1, rfl, rfl, Lib.hid rfl, by omega, by omega, by omega, by omega, Lib.hid (.inl rfl)⟩
    case round =>
      obtain ⟨k, x, rfl, rfl, hx, h1, h16, hxp, h10, hk⟩ := hrel
      have hk' := hk.out
      go_wp2
      all_goals first
        | (go_round
           case rel => exact ⟨k + 1, x * 2, by go_num, rfl, Lib.hid (by rw [hx.out]; rfl), by omega, by omega, by omega, by omega, Lib.hid (.inr (by omega))⟩
           case measure => simp [intOf]; omega)
        | (go_ret
           exact ⟨ret_int (min_pow_more p t k x hx.out (by omega) (by omega) (by omega)), rfl⟩)
        | (go_ret
           exact ⟨ret_int (by rw [← min_pow_done p t k (by omega) hk' (by omega), ← hx.out]; omega), rfl⟩)

theorem Bound_calls (p t : Int) (w : World) : Calls Try.prog 17 #[.int .i64 p, .int .i64 t] w fun e w' => e = .returned (.int .i64 (bound p t)) ∧ w' = w := by
  unfold bound
  by_cases h : p < 1
  · rw [if_pos (.inl h)]; exact Bound_no1 p t w h
  · by_cases h2 : 16 < p
    · rw [if_pos (.inr h2)]; exact Bound_no2 p t w h2
    · rw [if_neg (by omega)]; exact Bound_yes p t w (by omega) (by omega)

theorem bound_lo (p t : Int) (h : 1 ≤ p) (h2 : p ≤ 16) : 1 ≤ bound p t ∧ bound p t ≤ p := by
  unfold bound
  rw [if_neg (by omega)]
  have : (1 : Int) ≤ 2 ^ (min t 10).toNat := by
    have := Nat.one_le_two_pow (n := (min t 10).toNat)
    exact_mod_cast this
  omega
theorem bound_out (p t : Int) (h : p < 1 ∨ 16 < p) : bound p t = 0 := by
  unfold bound
  rw [if_pos h]

/-- The document's bound. -/
theorem RBound_yes (p t : Int) (w : World) (h : 1 ≤ p) (h2 : p ≤ 16) :
    Calls Try.prog 18 #[.int .i64 p, .int .i64 t] w fun e w' => e = .returned (.int .i64 (min (2 ^ (min t 10).toNat) p)) ∧ w' = w := by
  go_enter Try.func18, Try.ntmps18
  go_wp2
  go_loop [5, 6] (fun b i => ∃ (k : Nat) (x : Int), i = .int .i64 k ∧ b = .int .i64 x ∧ Hid (x = 2 ^ k) ∧ 1 ≤ x ∧ x ≤ 1024 ∧ k ≤ 10 ∧ Hid (k = 0 ∨ (k : Int) ≤ t)) (fun _ i => 10 - (intOf i).toNat)
  case atStart => exact ⟨0, 1, rfl, rfl, Lib.hid rfl, by omega, by omega, by omega, Lib.hid (.inl rfl)⟩
  case round =>
    obtain ⟨k, x, rfl, rfl, hx, h1, h16, h10, hk⟩ := hrel
    have hk' := hk.out
    have hpow : k < 10 → x ≤ 512 := fun hlt => by
      have := Nat.pow_le_pow_right (show 0 < 2 by decide) (show k ≤ 9 by omega)
      have h9 : (2 : Int) ^ k ≤ 2 ^ 9 := by exact_mod_cast this
      rw [← hx.out] at h9
      omega
    by_cases hkt : (k : Int) < t
    · by_cases hk10 : k < 10
      · have := hpow hk10
        clear hpow hk'
        go_wp2
        go_round
        case rel => exact ⟨k + 1, 2 * x, by go_num, rfl, Lib.hid (by rw [hx.out, Int.pow_succ]; omega), by omega, by omega, by omega, Lib.hid (.inr (by omega))⟩
        case measure => simp [intOf]; omega
      · have HF : Hid (x = 2 ^ (min t 10).toNat) := Lib.hid (by rw [hx.out]; congr 1; omega)
        clear hpow hk' hx
        go_wp2
        all_goals
          go_ret
          exact ⟨ret_int (by rw [← HF.out]; omega), rfl⟩
    · have HF : Hid (x = 2 ^ (min t 10).toNat) := Lib.hid (by rw [hx.out]; congr 1; omega)
      clear hpow hk' hx
      go_wp2
      all_goals
        go_ret
        exact ⟨ret_int (by rw [← HF.out]; omega), rfl⟩
theorem RBound_calls (p t : Int) (w : World) : Calls Try.prog 18 #[.int .i64 p, .int .i64 t] w fun e w' => e = .returned (.int .i64 (bound p t)) ∧ w' = w := by
  unfold bound
  by_cases h : p < 1
  · rw [if_pos (.inl h)]
    go_enter Try.func18, Try.ntmps18
    go_wp2
    go_ret
    exact ⟨rfl, rfl⟩
  · by_cases h2 : 16 < p
    · rw [if_pos (.inr h2)]
      go_enter Try.func18, Try.ntmps18
      go_wp2
      go_ret
      exact ⟨rfl, rfl⟩
    · rw [if_neg (by omega)]; exact RBound_yes p t w (by omega) (by omega)

/-- What a wait is. -/
def waitf (p t d : Int) : Int := if bound p t = 0 then 0 else 1 + d % bound p t

theorem bound_zero (p t : Int) : bound p t = 0 ∨ (1 ≤ bound p t ∧ bound p t ≤ 16) := by
  by_cases h : 1 ≤ p ∧ p ≤ 16
  · have := bound_lo p t h.1 h.2
    omega
  · exact .inl (bound_out p t (by omega))

theorem Wait_calls (p t d : Int) (w : World) (hd : 0 ≤ d) (hd2 : d < 4294967296) :
    Calls Try.prog 19 #[.int .i64 p, .int .i64 t, .int .u32 d] w fun e w' => e = .returned (.int .i64 (waitf p t d)) ∧ w' = w := by
  have hb := Bound_calls p t
  have hz := bound_zero p t
  unfold waitf
  generalize bound p t = b at hb hz ⊢
  have hb := Lib.hid hb
  rcases hz with rfl | ⟨h1, h2⟩
  · rw [if_pos rfl]
    go_enter Try.func19, Try.ntmps19
    go_wp2_with (go_at_call 17; refine (hb.out _).mono ?_; rintro e w' ⟨rfl, rfl⟩)
    go_ret
    exact ⟨rfl, rfl⟩
  · rw [if_neg (by omega)]
    have h0 : (b == 0) = false := beq_eq_false_iff_ne.2 (by omega)
    have hm1 : 0 ≤ d % b := Int.emod_nonneg _ (by omega)
    have hm2 : d % b < b := Int.emod_lt_of_pos _ (by omega)
    go_enter Try.func19, Try.ntmps19
    go_wp2_with (go_at_call 17; refine (hb.out _).mono ?_; rintro e w' ⟨rfl, rfl⟩)
    go_ret
    exact ⟨rfl, rfl⟩

theorem RWait_calls (p t d : Int) (w : World) (hd : 0 ≤ d) (hd2 : d < 4294967296) :
    Calls Try.prog 20 #[.int .i64 p, .int .i64 t, .int .u32 d] w fun e w' => e = .returned (.int .i64 (waitf p t d)) ∧ w' = w := by
  have hb := RBound_calls p t
  have hz := bound_zero p t
  unfold waitf
  generalize bound p t = b at hb hz ⊢
  have hb := Lib.hid hb
  rcases hz with rfl | ⟨h1, h2⟩
  · rw [if_pos rfl]
    go_enter Try.func20, Try.ntmps20
    go_wp2_with (go_at_call 18; refine (hb.out _).mono ?_; rintro e w' ⟨rfl, rfl⟩)
    go_ret
    exact ⟨rfl, rfl⟩
  · rw [if_neg (by omega)]
    have h0 : (b == 0) = false := beq_eq_false_iff_ne.2 (by omega)
    go_enter Try.func20, Try.ntmps20
    go_wp2_with (go_at_call 18; refine (hb.out _).mono ?_; rintro e w' ⟨rfl, rfl⟩)
    go_loop [2] (fun s => ∃ x : Int, s = .int .u32 x ∧ 0 ≤ x ∧ x < 4294967296 ∧ Hid (x % b = d % b)) (fun s => (intOf s).toNat)
    case atStart => exact ⟨d, rfl, hd, hd2, Lib.hid rfl⟩
    case round =>
      obtain ⟨x, rfl, hx0, hx1, hx⟩ := hrel
      have hm1 : 0 ≤ x % b := Int.emod_nonneg _ (by omega)
      have hm2 : x % b < b := Int.emod_lt_of_pos _ (by omega)
      by_cases hlt : x < b
      · have HE : Hid (x = d % b) := Lib.hid (by rw [← hx.out, Int.emod_eq_of_lt hx0 hlt])
        clear hx hm1 hm2
        go_wp2
        go_ret
        exact ⟨ret_int (by rw [← HE.out]; omega), rfl⟩
      · go_wp2
        go_round
        case rel => exact ⟨x % b, rfl, by omega, by omega, Lib.hid (by rw [Int.emod_emod_of_dvd _ (Int.dvd_refl b)]; exact hx.out)⟩
        case measure => simp [intOf]; omega

theorem at_bound {p t r : Int} (h : bound p t = r) (w : World) : Calls Try.prog 17 #[.int .i64 p, .int .i64 t] w fun e w' => e = .returned (.int .i64 r) ∧ w' = w := h ▸ Bound_calls p t w
theorem at_wait {p t d r : Int} (h : waitf p t d = r) (w : World) (hd : 0 ≤ d) (hd2 : d < 4294967296) : Calls Try.prog 19 #[.int .i64 p, .int .i64 t, .int .u32 d] w fun e w' => e = .returned (.int .i64 r) ∧ w' = w := h ▸ Wait_calls p t d w hd hd2

theorem awake_calls (w : World) : Calls Try.prog 16 #[] w fun e w' => e = .returned (.bool true) ∧ w' = w := by
  have b0 := Lib.hid (at_bound (p := 5) (t := 0) (r := 1) (by decide))
  have b2 := Lib.hid (at_bound (p := 5) (t := 2) (r := 4) (by decide))
  have b3 := Lib.hid (at_bound (p := 5) (t := 3) (r := 5) (by decide))
  go_enter Try.func16, Try.ntmps16
  go_wp2_with (first
    | (go_at_call 17; ((with_reducible refine (b0.out _).mono ?_); rintro e w' ⟨rfl, rfl⟩))
    | (go_at_call 17; ((with_reducible refine (b2.out _).mono ?_); rintro e w' ⟨rfl, rfl⟩))
    | (go_at_call 17; ((with_reducible refine (b3.out _).mono ?_); rintro e w' ⟨rfl, rfl⟩))
    | (go_at_call 19; refine (at_wait (r := 4) (by decide) _ (by decide) (by decide)).mono ?_; rintro e w' ⟨rfl, rfl⟩))
  go_ret
  exact ⟨rfl, rfl⟩

/-- WaitTells, walked. -/
theorem tells_walk (p t d : Int) (w : World) (hd : 0 ≤ d) (hd2 : d < 4294967296) :
    Calls Try.prog 3 #[.int .i64 p, .int .i64 t, .int .u32 d] w fun e w' => e = .returned (.bool true) ∧ w' = w := by
  have b1 := Bound_calls p t
  have b2 := RBound_calls p t
  have c1 := fun w => Wait_calls p t d w hd hd2
  have c2 := fun w => RWait_calls p t d w hd hd2
  generalize bound p t = x at b1 b2
  generalize waitf p t d = y at c1 c2
  have b1 := Lib.hid b1
  have b2 := Lib.hid b2
  have c1 := Lib.hid c1
  have c2 := Lib.hid c2
  go_enter Try.func3, Try.ntmps3
  go_wp2_with (first
    | (go_at_call 16; refine (awake_calls _).mono ?_; rintro e w' ⟨rfl, rfl⟩)
    | (go_at_call 17; refine (b1.out _).mono ?_; rintro e w' ⟨rfl, rfl⟩)
    | (go_at_call 18; refine (b2.out _).mono ?_; rintro e w' ⟨rfl, rfl⟩)
    | (go_at_call 19; refine (c1.out _).mono ?_; rintro e w' ⟨rfl, rfl⟩)
    | (go_at_call 20; refine (c2.out _).mono ?_; rintro e w' ⟨rfl, rfl⟩))
  go_ret
  exact ⟨rfl, rfl⟩

theorem bound_mono (p a b : Int) (h : a ≤ b) (h1 : 1 ≤ p) (h2 : p ≤ 16) : bound p a ≤ bound p b := by
  unfold bound
  rw [if_neg (by omega), if_neg (by omega)]
  have hm : (min a 10).toNat ≤ (min b 10).toNat := by omega
  have := Nat.pow_le_pow_right (show 0 < 2 by decide) hm
  have h3 : (2 : Int) ^ (min a 10).toNat ≤ 2 ^ (min b 10).toNat := by exact_mod_cast this
  omega
theorem waitf_in (p t d : Int) (h1 : 1 ≤ p) (h2 : p ≤ 16) (hd : 0 ≤ d) : 1 ≤ waitf p t d ∧ waitf p t d ≤ bound p t := by
  have hb := bound_lo p t h1 h2
  unfold waitf
  rw [if_neg (by omega)]
  have hm1 : 0 ≤ d % bound p t := Int.emod_nonneg _ (by omega)
  have hm2 : d % bound p t < bound p t := Int.emod_lt_of_pos _ (by omega)
  omega

/-- WaitGrows, walked: where there is no such longest wait. -/
theorem grows_no (p a b d : Int) (w : World) (hd : 0 ≤ d) (hd2 : d < 4294967296) (h : p < 1 ∨ 16 < p) :
    Calls Try.prog 4 #[.int .i64 p, .int .i64 a, .int .i64 b, .int .u32 d] w fun e w' => e = .returned (.bool true) ∧ w' = w := by
  have c1 : ∀ w, Calls Try.prog 19 #[.int .i64 p, .int .i64 a, .int .u32 d] w fun e w' => e = .returned (.int .i64 0) ∧ w' = w := fun w =>
    at_wait (by unfold waitf; rw [bound_out p a h, if_pos rfl]) w hd hd2
  have c1 := Lib.hid c1
  rcases h with h | h
  all_goals
    go_enter Try.func4, Try.ntmps4
    go_wp2_with (first
      | (go_at_call 16; refine (awake_calls _).mono ?_; rintro e w' ⟨rfl, rfl⟩)
      | (go_at_call 19; refine (c1.out _).mono ?_; rintro e w' ⟨rfl, rfl⟩))
    go_ret
    exact ⟨rfl, rfl⟩
/-- .. and where there is one. -/
theorem grows_yes (p a b d : Int) (w : World) (hd : 0 ≤ d) (hd2 : d < 4294967296) (h1 : 1 ≤ p) (h2 : p ≤ 16) :
    Calls Try.prog 4 #[.int .i64 p, .int .i64 a, .int .i64 b, .int .u32 d] w fun e w' => e = .returned (.bool true) ∧ w' = w := by
  have f1 : bound p (min a b) ≤ bound p (max a b) := bound_mono p _ _ (by omega) h1 h2
  have f2 := waitf_in p (max a b) d h1 h2 hd
  have f3 := (bound_lo p (max a b) h1 h2).2
  obtain ⟨f4, f5⟩ := f2
  have f6 : waitf p (max a b) d ≤ p := by omega
  rcases Int.lt_trichotomy a b with hab | rfl | hab
  · skip
    have e1 : min a b = a := by omega
    have e2 : max a b = b := by omega
    rw [e2] at f1 f3 f4 f5 f6
    rw [e1] at f1
    clear e1 e2
    generalize hx : bound p a = x at f1
    generalize hy : bound p b = y at f1 f3 f5
    generalize hz : waitf p b d = z at f4 f5 f6
    have b1 := Lib.hid (at_bound hx)
    have b2 := Lib.hid (at_bound hy)
    have c1 := Lib.hid (fun w => at_wait hz w hd hd2)
    clear hx hy hz
    go_enter Try.func4, Try.ntmps4
    go_wp2_with (first
      | (go_at_call 16; refine (awake_calls _).mono ?_; rintro e w' ⟨rfl, rfl⟩)
      | (go_at_call 17; ((with_reducible refine (b1.out _).mono ?_); rintro e w' ⟨rfl, rfl⟩))
      | (go_at_call 17; ((with_reducible refine (b2.out _).mono ?_); rintro e w' ⟨rfl, rfl⟩))
      | (go_at_call 19; ((with_reducible refine (c1.out _).mono ?_); rintro e w' ⟨rfl, rfl⟩)))
    all_goals
      go_ret
      exact ⟨rfl, rfl⟩
  · rw [show min a a = a by omega, show max a a = a by omega] at f1
    rw [show max a a = a by omega] at f3 f4 f5 f6
    clear f1
    generalize hy : bound p a = y at f3 f5
    generalize hz : waitf p a d = z at f4 f5 f6
    have b1 := Lib.hid (at_bound hy)
    have b2 := Lib.hid (at_bound hy)
    have c1 := Lib.hid (fun w => at_wait hz w hd hd2)
    clear hy hz
    go_enter Try.func4, Try.ntmps4
    go_wp2_with (first
      | (go_at_call 16; refine (awake_calls _).mono ?_; rintro e w' ⟨rfl, rfl⟩)
      | (go_at_call 17; ((with_reducible refine (b1.out _).mono ?_); rintro e w' ⟨rfl, rfl⟩))
      | (go_at_call 17; ((with_reducible refine (b2.out _).mono ?_); rintro e w' ⟨rfl, rfl⟩))
      | (go_at_call 19; ((with_reducible refine (c1.out _).mono ?_); rintro e w' ⟨rfl, rfl⟩)))
    all_goals
      go_ret
      exact ⟨rfl, rfl⟩
  · skip
    have e1 : min a b = b := by omega
    have e2 : max a b = a := by omega
    rw [e2] at f1 f3 f4 f5 f6
    rw [e1] at f1
    clear e1 e2
    generalize hx : bound p b = x at f1
    generalize hy : bound p a = y at f1 f3 f5
    generalize hz : waitf p a d = z at f4 f5 f6
    have b1 := Lib.hid (at_bound hx)
    have b2 := Lib.hid (at_bound hy)
    have c1 := Lib.hid (fun w => at_wait hz w hd hd2)
    clear hx hy hz
    go_enter Try.func4, Try.ntmps4
    go_wp2_with (first
      | (go_at_call 16; refine (awake_calls _).mono ?_; rintro e w' ⟨rfl, rfl⟩)
      | (go_at_call 17; ((with_reducible refine (b1.out _).mono ?_); rintro e w' ⟨rfl, rfl⟩))
      | (go_at_call 17; ((with_reducible refine (b2.out _).mono ?_); rintro e w' ⟨rfl, rfl⟩))
      | (go_at_call 19; ((with_reducible refine (c1.out _).mono ?_); rintro e w' ⟨rfl, rfl⟩)))
    all_goals
      go_ret
      exact ⟨rfl, rfl⟩

/-- WaitAll, walked. -/
theorem all_walk (p t n : Int) (w : World) (hp : 0 ≤ p) (hp2 : p < 256) (ht : 0 ≤ t) (ht2 : t < 256) (hn : 0 ≤ n) (hn2 : n < 256) :
    Calls Try.prog 5 #[.int .u8 p, .int .u8 t, .int .u8 n] w fun e w' => e = .returned (.bool true) ∧ w' = w := by
  have hk : 1 ≤ 1 + p % 16 ∧ 1 + p % 16 ≤ 16 := by omega
  have hb := bound_lo (1 + p % 16) t hk.1 hk.2
  obtain ⟨h1, h2⟩ := hb
  generalize hx : bound (1 + p % 16) t = b at h1 h2
  have hb16 : b ≤ 16 := by omega
  have hm1 : 0 ≤ n % b := Int.emod_nonneg _ (by omega)
  have hm2 : n % b < b := Int.emod_lt_of_pos _ (by omega)
  have w1 : waitf (1 + p % 16) t (n % b) = 1 + n % b := by
    unfold waitf
    rw [hx, if_neg (by omega), Int.emod_emod_of_dvd _ (Int.dvd_refl b)]
  have w2 : waitf (1 + p % 16) t (n % b + b) = 1 + n % b := by
    unfold waitf
    rw [hx, if_neg (by omega), Int.add_emod_right, Int.emod_emod_of_dvd _ (Int.dvd_refl b)]
  generalize hv : n % b = v at hm1 hm2 w1 w2
  have b1 := Lib.hid (at_bound hx)
  have c1 := Lib.hid (fun w => at_wait w1 w (by omega) (by omega))
  have c2 := Lib.hid (fun w => at_wait w2 w (by omega) (by omega))
  have c1' : ∀ (w : World), Calls Try.prog 19 #[.int .i64 (1 + p % 16), .int .i64 t, .int .u32 (1 + v - 1)] w fun e w' => e = .returned (.int .i64 (1 + v)) ∧ w' = w := fun w => by
    rw [show 1 + v - 1 = v by omega]; exact c1.out w
  have c2' : ∀ (w : World), Calls Try.prog 19 #[.int .i64 (1 + p % 16), .int .i64 t, .int .u32 (1 + v - 1 + b)] w fun e w' => e = .returned (.int .i64 (1 + v)) ∧ w' = w := fun w => by
    rw [show 1 + v - 1 + b = v + b by omega]; exact c2.out w
  clear w1 w2 c1 c2 hx
  have c1 := Lib.hid c1'
  have c2 := Lib.hid c2'
  clear c1' c2'
  go_enter Try.func5, Try.ntmps5
  go_wp2_with (first
    | (go_at_call 16; refine (awake_calls _).mono ?_; rintro e w' ⟨rfl, rfl⟩)
    | (go_at_call 17; ((with_reducible refine (b1.out _).mono ?_); rintro e w' ⟨rfl, rfl⟩))
    | (go_at_call 19; ((with_reducible refine (c1.out _).mono ?_); rintro e w' ⟨rfl, rfl⟩))
    | (go_at_call 19; ((with_reducible refine (c2.out _).mono ?_); rintro e w' ⟨rfl, rfl⟩)))
  all_goals
    go_ret
    exact ⟨rfl, rfl⟩

theorem grows_walk (p a b d : Int) (w : World) (hd : 0 ≤ d) (hd2 : d < 4294967296) :
    Calls Try.prog 4 #[.int .i64 p, .int .i64 a, .int .i64 b, .int .u32 d] w fun e w' => e = .returned (.bool true) ∧ w' = w := by
  by_cases h : p < 1 ∨ 16 < p
  · exact grows_no p a b d w hd hd2 h
  · exact grows_yes p a b d w hd hd2 (by omega) (by omega)
end Go.Proofs.Ytefihmfilahppaa.WaitW
