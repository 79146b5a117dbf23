/- Layer 5's configs: which may be. No condition. -/
import Derived.Test.YtefihmfilahppaaCom
namespace Go.Proofs.Ytefihmfilahppaa.RightsW
open Go.RowKit Go.Proofs.Ytefihmfilahppaa.Com
set_option linter.unusedVariables false
/-- A config. -/
structure Cfg where
  N : Int
  Q : Int
  R : Int
  P : Int
  K : Int
  C : Int
def cfgV (c : Cfg) : Value := .agg #[.int .i64 c.N, .int .i64 c.Q, .int .i64 c.R, .int .i64 c.P, .int .i64 c.K, .int .i64 c.C]
/-- May it be a config? -/
def leftC (c : Cfg) : Bool := decide (c.K ≤ 1099511627776 ∧ c.C ≤ 1099511627776 ∧ c.K + c.N * c.C ≤ 1099511627776)
def mayC (c : Cfg) : Bool := decide (1 ≤ c.N ∧ c.N ≤ 16 ∧ 1 ≤ c.Q ∧ c.Q ≤ 8 ∧ 0 ≤ c.R ∧ c.R ≤ 8 ∧ 1 ≤ c.P ∧ c.P ≤ 16 ∧ 0 ≤ c.K ∧ 0 ≤ c.C ∧ c.K ≤ 1099511627776 ∧ c.C ≤ 1099511627776 ∧ c.K + c.N * c.C ≤ 1099511627776)
theorem May_no0 (c : Cfg)  (h : c.N < 1) (w : World) :
    Calls Try.prog 48 #[cfgV c] w fun e w' => e = .returned (.bool false) ∧ Below w.heap.size w w' := by
  unfold cfgV
  go_enter Try.func48, Try.ntmps48
  go_wp2
  refine wp_scope_fwd 0 rfl ?_
  go_wp2
  go_step3
  refine ⟨rfl, ?_⟩
  go_wp2
  try rw [Exit.noGoto_ret]
  go_ret
  exact ⟨rfl, by repeat (first | exact b_refl _ | apply b_drew | apply b_drewN | apply b_alloc)⟩
theorem May_no1 (c : Cfg) (h0 : 1 ≤ c.N) (h : 16 < c.N) (w : World) :
    Calls Try.prog 48 #[cfgV c] w fun e w' => e = .returned (.bool false) ∧ Below w.heap.size w w' := by
  unfold cfgV
  go_enter Try.func48, Try.ntmps48
  go_wp2
  refine wp_scope_fwd 0 rfl ?_
  go_wp2
  go_step3
  refine ⟨rfl, ?_⟩
  go_wp2
  try rw [Exit.noGoto_ret]
  go_ret
  exact ⟨rfl, by repeat (first | exact b_refl _ | apply b_drew | apply b_drewN | apply b_alloc)⟩
theorem May_no2 (c : Cfg) (h0 : 1 ≤ c.N) (h1 : c.N ≤ 16) (h : c.Q < 1) (w : World) :
    Calls Try.prog 48 #[cfgV c] w fun e w' => e = .returned (.bool false) ∧ Below w.heap.size w w' := by
  unfold cfgV
  go_enter Try.func48, Try.ntmps48
  go_wp2
  refine wp_scope_fwd 0 rfl ?_
  go_wp2
  go_step3
  refine ⟨rfl, ?_⟩
  go_wp2
  try rw [Exit.noGoto_ret]
  go_ret
  exact ⟨rfl, by repeat (first | exact b_refl _ | apply b_drew | apply b_drewN | apply b_alloc)⟩
theorem May_no3 (c : Cfg) (h0 : 1 ≤ c.N) (h1 : c.N ≤ 16) (h2 : 1 ≤ c.Q) (h : 8 < c.Q) (w : World) :
    Calls Try.prog 48 #[cfgV c] w fun e w' => e = .returned (.bool false) ∧ Below w.heap.size w w' := by
  unfold cfgV
  go_enter Try.func48, Try.ntmps48
  go_wp2
  refine wp_scope_fwd 0 rfl ?_
  go_wp2
  go_step3
  refine ⟨rfl, ?_⟩
  go_wp2
  try rw [Exit.noGoto_ret]
  go_ret
  exact ⟨rfl, by repeat (first | exact b_refl _ | apply b_drew | apply b_drewN | apply b_alloc)⟩
theorem May_no4 (c : Cfg) (h0 : 1 ≤ c.N) (h1 : c.N ≤ 16) (h2 : 1 ≤ c.Q) (h3 : c.Q ≤ 8) (h : c.R < 0) (w : World) :
    Calls Try.prog 48 #[cfgV c] w fun e w' => e = .returned (.bool false) ∧ Below w.heap.size w w' := by
  unfold cfgV
  go_enter Try.func48, Try.ntmps48
  go_wp2
  refine wp_scope_fwd 0 rfl ?_
  go_wp2
  go_step3
  refine ⟨rfl, ?_⟩
  go_wp2
  try rw [Exit.noGoto_ret]
  go_ret
  exact ⟨rfl, by repeat (first | exact b_refl _ | apply b_drew | apply b_drewN | apply b_alloc)⟩
theorem May_no5 (c : Cfg) (h0 : 1 ≤ c.N) (h1 : c.N ≤ 16) (h2 : 1 ≤ c.Q) (h3 : c.Q ≤ 8) (h4 : 0 ≤ c.R) (h : 8 < c.R) (w : World) :
    Calls Try.prog 48 #[cfgV c] w fun e w' => e = .returned (.bool false) ∧ Below w.heap.size w w' := by
  unfold cfgV
  go_enter Try.func48, Try.ntmps48
  go_wp2
  refine wp_scope_fwd 0 rfl ?_
  go_wp2
  go_step3
  refine ⟨rfl, ?_⟩
  go_wp2
  try rw [Exit.noGoto_ret]
  go_ret
  exact ⟨rfl, by repeat (first | exact b_refl _ | apply b_drew | apply b_drewN | apply b_alloc)⟩
theorem May_no6 (c : Cfg) (h0 : 1 ≤ c.N) (h1 : c.N ≤ 16) (h2 : 1 ≤ c.Q) (h3 : c.Q ≤ 8) (h4 : 0 ≤ c.R) (h5 : c.R ≤ 8) (h : c.P < 1) (w : World) :
    Calls Try.prog 48 #[cfgV c] w fun e w' => e = .returned (.bool false) ∧ Below w.heap.size w w' := by
  unfold cfgV
  go_enter Try.func48, Try.ntmps48
  go_wp2
  refine wp_scope_fwd 0 rfl ?_
  go_wp2
  go_step3
  refine ⟨rfl, ?_⟩
  go_wp2
  try rw [Exit.noGoto_ret]
  go_ret
  exact ⟨rfl, by repeat (first | exact b_refl _ | apply b_drew | apply b_drewN | apply b_alloc)⟩
theorem May_no7 (c : Cfg) (h0 : 1 ≤ c.N) (h1 : c.N ≤ 16) (h2 : 1 ≤ c.Q) (h3 : c.Q ≤ 8) (h4 : 0 ≤ c.R) (h5 : c.R ≤ 8) (h6 : 1 ≤ c.P) (h : 16 < c.P) (w : World) :
    Calls Try.prog 48 #[cfgV c] w fun e w' => e = .returned (.bool false) ∧ Below w.heap.size w w' := by
  unfold cfgV
  go_enter Try.func48, Try.ntmps48
  go_wp2
  refine wp_scope_fwd 0 rfl ?_
  go_wp2
  go_step3
  refine ⟨rfl, ?_⟩
  go_wp2
  try rw [Exit.noGoto_ret]
  go_ret
  exact ⟨rfl, by repeat (first | exact b_refl _ | apply b_drew | apply b_drewN | apply b_alloc)⟩
theorem May_no8 (c : Cfg) (h0 : 1 ≤ c.N) (h1 : c.N ≤ 16) (h2 : 1 ≤ c.Q) (h3 : c.Q ≤ 8) (h4 : 0 ≤ c.R) (h5 : c.R ≤ 8) (h6 : 1 ≤ c.P) (h7 : c.P ≤ 16) (h : c.K < 0) (w : World) :
    Calls Try.prog 48 #[cfgV c] w fun e w' => e = .returned (.bool false) ∧ Below w.heap.size w w' := by
  unfold cfgV
  go_enter Try.func48, Try.ntmps48
  go_wp2
  refine wp_scope_fwd 0 rfl ?_
  go_wp2
  go_step3
  refine ⟨rfl, ?_⟩
  go_wp2
  try rw [Exit.noGoto_ret]
  go_ret
  exact ⟨rfl, by repeat (first | exact b_refl _ | apply b_drew | apply b_drewN | apply b_alloc)⟩
theorem May_no9 (c : Cfg) (h0 : 1 ≤ c.N) (h1 : c.N ≤ 16) (h2 : 1 ≤ c.Q) (h3 : c.Q ≤ 8) (h4 : 0 ≤ c.R) (h5 : c.R ≤ 8) (h6 : 1 ≤ c.P) (h7 : c.P ≤ 16) (h8 : 0 ≤ c.K) (h : c.C < 0) (w : World) :
    Calls Try.prog 48 #[cfgV c] w fun e w' => e = .returned (.bool false) ∧ Below w.heap.size w w' := by
  unfold cfgV
  go_enter Try.func48, Try.ntmps48
  go_wp2
  refine wp_scope_fwd 0 rfl ?_
  go_wp2
  go_step3
  refine ⟨rfl, ?_⟩
  go_wp2
  try rw [Exit.noGoto_ret]
  go_ret
  exact ⟨rfl, by repeat (first | exact b_refl _ | apply b_drew | apply b_drewN | apply b_alloc)⟩
theorem May_no10 (c : Cfg) (h0 : 1 ≤ c.N) (h1 : c.N ≤ 16) (h2 : 1 ≤ c.Q) (h3 : c.Q ≤ 8) (h4 : 0 ≤ c.R) (h5 : c.R ≤ 8) (h6 : 1 ≤ c.P) (h7 : c.P ≤ 16) (h8 : 0 ≤ c.K) (h9 : 0 ≤ c.C) (h : 1099511627776 < c.K) (w : World) :
    Calls Try.prog 48 #[cfgV c] w fun e w' => e = .returned (.bool false) ∧ Below w.heap.size w w' := by
  unfold cfgV
  go_enter Try.func48, Try.ntmps48
  go_wp2
  refine wp_scope_fwd 0 rfl ?_
  go_wp2
  go_step3
  refine ⟨rfl, ?_⟩
  go_wp2
  try rw [Exit.noGoto_ret]
  go_ret
  exact ⟨rfl, by repeat (first | exact b_refl _ | apply b_drew | apply b_drewN | apply b_alloc)⟩
theorem May_no11 (c : Cfg) (h0 : 1 ≤ c.N) (h1 : c.N ≤ 16) (h2 : 1 ≤ c.Q) (h3 : c.Q ≤ 8) (h4 : 0 ≤ c.R) (h5 : c.R ≤ 8) (h6 : 1 ≤ c.P) (h7 : c.P ≤ 16) (h8 : 0 ≤ c.K) (h9 : 0 ≤ c.C) (h10 : c.K ≤ 1099511627776) (h : 1099511627776 < c.C) (w : World) :
    Calls Try.prog 48 #[cfgV c] w fun e w' => e = .returned (.bool false) ∧ Below w.heap.size w w' := by
  unfold cfgV
  go_enter Try.func48, Try.ntmps48
  go_wp2
  refine wp_scope_fwd 0 rfl ?_
  go_wp2
  go_step3
  refine ⟨rfl, ?_⟩
  go_wp2
  try rw [Exit.noGoto_ret]
  go_ret
  exact ⟨rfl, by repeat (first | exact b_refl _ | apply b_drew | apply b_drewN | apply b_alloc)⟩
theorem May_yes (c : Cfg) (h0 : 1 ≤ c.N) (h1 : c.N ≤ 16) (h2 : 1 ≤ c.Q) (h3 : c.Q ≤ 8) (h4 : 0 ≤ c.R) (h5 : c.R ≤ 8) (h6 : 1 ≤ c.P) (h7 : c.P ≤ 16) (h8 : 0 ≤ c.K) (h9 : 0 ≤ c.C) (h10 : c.K ≤ 1099511627776) (h11 : c.C ≤ 1099511627776) (w : World) :
    Calls Try.prog 48 #[cfgV c] w fun e w' => e = .returned (.bool (decide (c.K + c.N * c.C ≤ 1099511627776))) ∧ Below w.heap.size w w' := by
  have n0 : 0 ≤ c.N * c.C := Int.mul_nonneg (by omega) h9
  have n1 : c.N * c.C ≤ 17592186044416 := by
    have := Int.mul_le_mul h1 h11 h9 (by omega)
    omega
  unfold cfgV
  go_enter Try.func48, Try.ntmps48
  go_wp2
  refine wp_scope_fwd 0 rfl ?_
  go_wp2
  rw [Exit.fwd_ret]
  go_ret
  exact ⟨rfl, by repeat (first | exact b_refl _ | apply b_drew | apply b_drewN | apply b_alloc)⟩
theorem May_calls (c : Cfg) (w : World) : Calls Try.prog 48 #[cfgV c] w fun e w' => e = .returned (.bool (mayC c)) ∧ Below w.heap.size w w' := by
  by_cases g0 : c.N < 1
  · rw [show mayC c = false by simp only [mayC, decide_eq_false_iff_not]; omega]
    exact May_no0 c  g0 w
  by_cases g1 : 16 < c.N
  · rw [show mayC c = false by simp only [mayC, decide_eq_false_iff_not]; omega]
    exact May_no1 c (by omega) g1 w
  by_cases g2 : c.Q < 1
  · rw [show mayC c = false by simp only [mayC, decide_eq_false_iff_not]; omega]
    exact May_no2 c (by omega) (by omega) g2 w
  by_cases g3 : 8 < c.Q
  · rw [show mayC c = false by simp only [mayC, decide_eq_false_iff_not]; omega]
    exact May_no3 c (by omega) (by omega) (by omega) g3 w
  by_cases g4 : c.R < 0
  · rw [show mayC c = false by simp only [mayC, decide_eq_false_iff_not]; omega]
    exact May_no4 c (by omega) (by omega) (by omega) (by omega) g4 w
  by_cases g5 : 8 < c.R
  · rw [show mayC c = false by simp only [mayC, decide_eq_false_iff_not]; omega]
    exact May_no5 c (by omega) (by omega) (by omega) (by omega) (by omega) g5 w
  by_cases g6 : c.P < 1
  · rw [show mayC c = false by simp only [mayC, decide_eq_false_iff_not]; omega]
    exact May_no6 c (by omega) (by omega) (by omega) (by omega) (by omega) (by omega) g6 w
  by_cases g7 : 16 < c.P
  · rw [show mayC c = false by simp only [mayC, decide_eq_false_iff_not]; omega]
    exact May_no7 c (by omega) (by omega) (by omega) (by omega) (by omega) (by omega) (by omega) g7 w
  by_cases g8 : c.K < 0
  · rw [show mayC c = false by simp only [mayC, decide_eq_false_iff_not]; omega]
    exact May_no8 c (by omega) (by omega) (by omega) (by omega) (by omega) (by omega) (by omega) (by omega) g8 w
  by_cases g9 : c.C < 0
  · rw [show mayC c = false by simp only [mayC, decide_eq_false_iff_not]; omega]
    exact May_no9 c (by omega) (by omega) (by omega) (by omega) (by omega) (by omega) (by omega) (by omega) (by omega) g9 w
  by_cases g10 : 1099511627776 < c.K
  · rw [show mayC c = false by simp only [mayC, decide_eq_false_iff_not]; omega]
    exact May_no10 c (by omega) (by omega) (by omega) (by omega) (by omega) (by omega) (by omega) (by omega) (by omega) (by omega) g10 w
  by_cases g11 : 1099511627776 < c.C
  · rw [show mayC c = false by simp only [mayC, decide_eq_false_iff_not]; omega]
    exact May_no11 c (by omega) (by omega) (by omega) (by omega) (by omega) (by omega) (by omega) (by omega) (by omega) (by omega) (by omega) g11 w
  rw [show mayC c = decide (c.K + c.N * c.C ≤ 1099511627776) by simp only [mayC, decide_eq_decide]; omega]
  exact May_yes c (by omega) (by omega) (by omega) (by omega) (by omega) (by omega) (by omega) (by omega) (by omega) (by omega) (by omega) (by omega) w
theorem RMay_no0 (c : Cfg)  (h : c.N < 1) (w : World) :
    Calls Try.prog 51 #[cfgV c] w fun e w' => e = .returned (.bool false) ∧ Below w.heap.size w w' := by
  unfold cfgV
  go_enter Try.func51, Try.ntmps51
  go_wp2
  go_ret
  exact ⟨rfl, by repeat (first | exact b_refl _ | apply b_drew | apply b_drewN | apply b_alloc)⟩
theorem RMay_no1 (c : Cfg) (h0 : 1 ≤ c.N) (h : 16 < c.N) (w : World) :
    Calls Try.prog 51 #[cfgV c] w fun e w' => e = .returned (.bool false) ∧ Below w.heap.size w w' := by
  unfold cfgV
  go_enter Try.func51, Try.ntmps51
  go_wp2
  go_ret
  exact ⟨rfl, by repeat (first | exact b_refl _ | apply b_drew | apply b_drewN | apply b_alloc)⟩
theorem RMay_no2 (c : Cfg) (h0 : 1 ≤ c.N) (h1 : c.N ≤ 16) (h : c.Q < 1) (w : World) :
    Calls Try.prog 51 #[cfgV c] w fun e w' => e = .returned (.bool false) ∧ Below w.heap.size w w' := by
  unfold cfgV
  go_enter Try.func51, Try.ntmps51
  go_wp2
  go_ret
  exact ⟨rfl, by repeat (first | exact b_refl _ | apply b_drew | apply b_drewN | apply b_alloc)⟩
theorem RMay_no3 (c : Cfg) (h0 : 1 ≤ c.N) (h1 : c.N ≤ 16) (h2 : 1 ≤ c.Q) (h : 8 < c.Q) (w : World) :
    Calls Try.prog 51 #[cfgV c] w fun e w' => e = .returned (.bool false) ∧ Below w.heap.size w w' := by
  unfold cfgV
  go_enter Try.func51, Try.ntmps51
  go_wp2
  go_ret
  exact ⟨rfl, by repeat (first | exact b_refl _ | apply b_drew | apply b_drewN | apply b_alloc)⟩
theorem RMay_no4 (c : Cfg) (h0 : 1 ≤ c.N) (h1 : c.N ≤ 16) (h2 : 1 ≤ c.Q) (h3 : c.Q ≤ 8) (h : c.R < 0) (w : World) :
    Calls Try.prog 51 #[cfgV c] w fun e w' => e = .returned (.bool false) ∧ Below w.heap.size w w' := by
  unfold cfgV
  go_enter Try.func51, Try.ntmps51
  go_wp2
  go_ret
  exact ⟨rfl, by repeat (first | exact b_refl _ | apply b_drew | apply b_drewN | apply b_alloc)⟩
theorem RMay_no5 (c : Cfg) (h0 : 1 ≤ c.N) (h1 : c.N ≤ 16) (h2 : 1 ≤ c.Q) (h3 : c.Q ≤ 8) (h4 : 0 ≤ c.R) (h : 8 < c.R) (w : World) :
    Calls Try.prog 51 #[cfgV c] w fun e w' => e = .returned (.bool false) ∧ Below w.heap.size w w' := by
  unfold cfgV
  go_enter Try.func51, Try.ntmps51
  go_wp2
  go_ret
  exact ⟨rfl, by repeat (first | exact b_refl _ | apply b_drew | apply b_drewN | apply b_alloc)⟩
theorem RMay_no6 (c : Cfg) (h0 : 1 ≤ c.N) (h1 : c.N ≤ 16) (h2 : 1 ≤ c.Q) (h3 : c.Q ≤ 8) (h4 : 0 ≤ c.R) (h5 : c.R ≤ 8) (h : c.P < 1) (w : World) :
    Calls Try.prog 51 #[cfgV c] w fun e w' => e = .returned (.bool false) ∧ Below w.heap.size w w' := by
  unfold cfgV
  go_enter Try.func51, Try.ntmps51
  go_wp2
  go_ret
  exact ⟨rfl, by repeat (first | exact b_refl _ | apply b_drew | apply b_drewN | apply b_alloc)⟩
theorem RMay_no7 (c : Cfg) (h0 : 1 ≤ c.N) (h1 : c.N ≤ 16) (h2 : 1 ≤ c.Q) (h3 : c.Q ≤ 8) (h4 : 0 ≤ c.R) (h5 : c.R ≤ 8) (h6 : 1 ≤ c.P) (h : 16 < c.P) (w : World) :
    Calls Try.prog 51 #[cfgV c] w fun e w' => e = .returned (.bool false) ∧ Below w.heap.size w w' := by
  unfold cfgV
  go_enter Try.func51, Try.ntmps51
  go_wp2
  go_ret
  exact ⟨rfl, by repeat (first | exact b_refl _ | apply b_drew | apply b_drewN | apply b_alloc)⟩
theorem RMay_no8 (c : Cfg) (h0 : 1 ≤ c.N) (h1 : c.N ≤ 16) (h2 : 1 ≤ c.Q) (h3 : c.Q ≤ 8) (h4 : 0 ≤ c.R) (h5 : c.R ≤ 8) (h6 : 1 ≤ c.P) (h7 : c.P ≤ 16) (h : c.K < 0) (w : World) :
    Calls Try.prog 51 #[cfgV c] w fun e w' => e = .returned (.bool false) ∧ Below w.heap.size w w' := by
  unfold cfgV
  go_enter Try.func51, Try.ntmps51
  go_wp2
  go_ret
  exact ⟨rfl, by repeat (first | exact b_refl _ | apply b_drew | apply b_drewN | apply b_alloc)⟩
theorem RMay_no9 (c : Cfg) (h0 : 1 ≤ c.N) (h1 : c.N ≤ 16) (h2 : 1 ≤ c.Q) (h3 : c.Q ≤ 8) (h4 : 0 ≤ c.R) (h5 : c.R ≤ 8) (h6 : 1 ≤ c.P) (h7 : c.P ≤ 16) (h8 : 0 ≤ c.K) (h : c.C < 0) (w : World) :
    Calls Try.prog 51 #[cfgV c] w fun e w' => e = .returned (.bool false) ∧ Below w.heap.size w w' := by
  unfold cfgV
  go_enter Try.func51, Try.ntmps51
  go_wp2
  go_ret
  exact ⟨rfl, by repeat (first | exact b_refl _ | apply b_drew | apply b_drewN | apply b_alloc)⟩
theorem RMay_yes (c : Cfg) (h0 : 1 ≤ c.N) (h1 : c.N ≤ 16) (h2 : 1 ≤ c.Q) (h3 : c.Q ≤ 8) (h4 : 0 ≤ c.R) (h5 : c.R ≤ 8) (h6 : 1 ≤ c.P) (h7 : c.P ≤ 16) (h8 : 0 ≤ c.K) (h9 : 0 ≤ c.C) (w : World) (hC : c.C ≤ 9223372036854775807) (hK : c.K ≤ 9223372036854775807) :
    Calls Try.prog 51 #[cfgV c] w fun e w' => e = .returned (.bool (leftC c)) ∧ Below w.heap.size w w' := by
  have b0 := b_alloc (b_refl w) (.cells #[.int .i64 c.N, .int .i64 c.Q, .int .i64 c.R, .int .i64 c.P, .int .i64 c.K, .int .i64 c.C] 46)
  unfold cfgV
  go_enter Try.func51, Try.ntmps51
  go_wp2
  go_loop [3, 4] (fun s i => ∃ (k : Nat) (q : Int), i = .int .i64 k ∧ s = .int .i64 (1099511627776 - q) ∧ (k : Int) ≤ c.N ∧ 0 ≤ q ∧ q ≤ 1099511627776 ∧ Hid (q = k * c.C) ∧ Hid (0 < k → c.C ≤ 1099511627776)) (fun _ i => 16 - (intOf i).toNat)
  case atStart => exact ⟨0, 0, rfl, rfl, by omega, by omega, by omega, Lib.hid (by simp), Lib.hid (fun h => absurd h (by omega))⟩
  case round =>
    obtain ⟨k, q, rfl, rfl, hk, q0, q1, hq, hc⟩ := hrel
    by_cases hlt : (k : Int) < c.N
    · by_cases hf : 1099511627776 - q < c.C
      · have e : leftC c = false := by
          unfold leftC
          rw [decide_eq_false_iff_not]
          rintro ⟨_, _, h3⟩
          have h4 : ((k : Int) + 1) * c.C ≤ c.N * c.C := Int.mul_le_mul_of_nonneg_right (by omega) h9
          rw [Int.add_mul, ← hq.out] at h4
          omega
        have he := Lib.hid e
        clear e
        go_wp2
        go_ret
        exact ⟨by rw [he.out]; rfl, b0⟩
      · go_wp2
        go_round
        case rel => exact ⟨k + 1, q + c.C, by go_num, by go_num, by omega, by omega, by omega, Lib.hid (by rw [hq.out]; push_cast; rw [Int.add_mul]; omega), Lib.hid (fun _ => by omega)⟩
        case measure => simp [intOf]; omega
    · have e : leftC c = decide (c.K ≤ 1099511627776 - q) := by
        unfold leftC
        have hkn : (k : Int) = c.N := by omega
        have h1 := hq.out
        rw [hkn] at h1
        have h2 := hc.out (by omega)
        rw [decide_eq_decide, ← h1]
        omega
      have he := Lib.hid e
      clear e
      go_wp2
      go_ret
      exact ⟨by rw [he.out]; rfl, b0⟩
theorem RMay_calls (c : Cfg) (w : World) (hC : c.C ≤ 9223372036854775807) (hK : c.K ≤ 9223372036854775807) : Calls Try.prog 51 #[cfgV c] w fun e w' => e = .returned (.bool (mayC c)) ∧ Below w.heap.size w w' := by
  by_cases g0 : c.N < 1
  · rw [show mayC c = false by simp only [mayC, decide_eq_false_iff_not]; omega]
    exact RMay_no0 c  g0 w
  by_cases g1 : 16 < c.N
  · rw [show mayC c = false by simp only [mayC, decide_eq_false_iff_not]; omega]
    exact RMay_no1 c (by omega) g1 w
  by_cases g2 : c.Q < 1
  · rw [show mayC c = false by simp only [mayC, decide_eq_false_iff_not]; omega]
    exact RMay_no2 c (by omega) (by omega) g2 w
  by_cases g3 : 8 < c.Q
  · rw [show mayC c = false by simp only [mayC, decide_eq_false_iff_not]; omega]
    exact RMay_no3 c (by omega) (by omega) (by omega) g3 w
  by_cases g4 : c.R < 0
  · rw [show mayC c = false by simp only [mayC, decide_eq_false_iff_not]; omega]
    exact RMay_no4 c (by omega) (by omega) (by omega) (by omega) g4 w
  by_cases g5 : 8 < c.R
  · rw [show mayC c = false by simp only [mayC, decide_eq_false_iff_not]; omega]
    exact RMay_no5 c (by omega) (by omega) (by omega) (by omega) (by omega) g5 w
  by_cases g6 : c.P < 1
  · rw [show mayC c = false by simp only [mayC, decide_eq_false_iff_not]; omega]
    exact RMay_no6 c (by omega) (by omega) (by omega) (by omega) (by omega) (by omega) g6 w
  by_cases g7 : 16 < c.P
  · rw [show mayC c = false by simp only [mayC, decide_eq_false_iff_not]; omega]
    exact RMay_no7 c (by omega) (by omega) (by omega) (by omega) (by omega) (by omega) (by omega) g7 w
  by_cases g8 : c.K < 0
  · rw [show mayC c = false by simp only [mayC, decide_eq_false_iff_not]; omega]
    exact RMay_no8 c (by omega) (by omega) (by omega) (by omega) (by omega) (by omega) (by omega) (by omega) g8 w
  by_cases g9 : c.C < 0
  · rw [show mayC c = false by simp only [mayC, decide_eq_false_iff_not]; omega]
    exact RMay_no9 c (by omega) (by omega) (by omega) (by omega) (by omega) (by omega) (by omega) (by omega) (by omega) g9 w
  rw [show mayC c = leftC c by simp only [mayC, leftC, decide_eq_decide]; omega]
  exact RMay_yes c (by omega) (by omega) (by omega) (by omega) (by omega) (by omega) (by omega) (by omega) (by omega) (by omega) w hC hK
end Go.Proofs.Ytefihmfilahppaa.RightsW
