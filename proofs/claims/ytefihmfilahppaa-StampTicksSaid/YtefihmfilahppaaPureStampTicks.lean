/- The law StampTicks, over numbers alone: what ticks is what the document says, and above all that it saw. No condition. -/
import Derived.Test.YtefihmfilahppaaPStampTicksx2
namespace Go.Proofs.Ytefihmfilahppaa.Pure
open Go.RowKit Go.Proofs.Ytefihmfilahppaa.PStampTicks Go.Proofs.YtefihmfilahppaaW.PrintWords Go.Proofs.YtefihmfilahppaaW.PrintLast

theorem awake_true : cofferslaw03_awake.f 9 = some true := by decide +kernel

theorem wrap_tick {a : Int} (h0 : 0 ≤ a) (h1 : a < 1125899906842624) : wrap64 (a + 1) = a + 1 := by
  unfold wrap64
  omega

theorem ticks_alike (a b : Int) (k : Nat) :
    ∃ t c, stamp_Tick.f a b = some (t, c) ∧ coffersref03_Tick.f (k + 1) a b = some (t, c) ∧ (c = 0 → t > a ∧ t > b) := by
  unfold stamp_Tick.f coffersref03_Tick.f mx mn
  simp only [coffersref03_Tick.j0]
  by_cases ha : a < 0
  · refine ⟨0, 1, ?_, ?_, by omega⟩
    · rw [if_pos (by split <;> omega)]
    · rw [if_pos ha, if_pos trivial]
  · rw [if_neg ha]
    by_cases hb : b < 0
    · refine ⟨0, 1, ?_, ?_, by omega⟩
      · rw [if_pos (by split <;> omega)]
      · rw [if_pos (by simp [hb])]
    · rw [if_neg (by split <;> omega), if_neg (show ¬ decide (b < 0) = true by simp; omega)]
      by_cases hab : b > a
      · rw [if_pos (show a < b by omega), if_pos hab]
        by_cases hm : b ≥ 1125899906842624
        · exact ⟨0, 6, by rw [if_pos hm], by rw [if_pos hm], by omega⟩
        · exact ⟨_, 0, by rw [if_neg hm], by rw [if_neg hm], fun _ => by rw [wrap_tick (by omega) (by omega)]; omega⟩
      · have e : (if a < b then b else a) = a := by split <;> omega
        rw [e, if_neg hab]
        by_cases hm : a ≥ 1125899906842624
        · exact ⟨0, 6, by rw [if_pos hm], by rw [if_pos hm], by omega⟩
        · exact ⟨_, 0, by rw [if_neg hm], by rw [if_neg hm], fun _ => by rw [wrap_tick (by omega) (by omega)]; omega⟩

/-- ∀ (a0 : Int) (a1 : Int), (Lit.int .i64 a0).wf = true → (Lit.int .i64 a1).wf = true → ∃ k, cofferslaw03_StampTicks.f k a0 a1 = some true -/
theorem StampTicks : cofferslaw03_StampTicks.Pure := by
  intro a b _ _
  refine ⟨9, ?_⟩
  obtain ⟨t, c, h1, h2, h3⟩ := ticks_alike a b 8
  unfold cofferslaw03_StampTicks.f
  rw [awake_true]
  simp only [Option.bind_some]
  rw [if_pos trivial, h1, h2]
  simp only [Option.bind_some]
  rw [if_pos trivial, if_pos trivial]
  by_cases hc : c = 0
  · obtain ⟨g1, g2⟩ := h3 hc
    rw [if_pos hc, if_pos g1]
    simp [g2]
  · rw [if_neg hc]

end Go.Proofs.Ytefihmfilahppaa.Pure
