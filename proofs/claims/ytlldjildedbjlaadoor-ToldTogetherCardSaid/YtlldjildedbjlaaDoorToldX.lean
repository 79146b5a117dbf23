/- The reference's act of a line, walked. No condition. -/
import Derived.Test.YtlldjildedbjlaaDoorToldV
import Derived.Test.YtlldjildedbjlaaDoorToldS
namespace Go.Proofs.YtlldjildedbjlaaDoor.ToldW
open Go.RowKit Go.Proofs.YtlldjildedbjlaaDoor.Com Go.Proofs.YtlldjildedbjlaaDoor.Ord Go.Proofs.YtlldjildedbjlaaDoor.ToldP
set_option linter.unusedVariables false
attribute [local go_sem] ext_take ext_drop
theorem numR_in64 (neg : Bool) (s r1 : List UInt8) : In64 (numR neg s r1).1 := by
  unfold numR
  split
  · exact ⟨by show (-9223372036854775808 : Int) ≤ 0; omega, by show (0 : Int) ≤ _; omega⟩
  · rename_i h
    simp only [not_or, not_and, Nat.not_lt] at h
    obtain ⟨_, h1, h2⟩ := h
    cases neg
    · have h3 : (digF 19 0 r1).1 ≠ 9223372036854775808 := fun e => h2 e rfl
      show In64 (((digF 19 0 r1).1 : Int))
      constructor <;> omega
    · show In64 (-((digF 19 0 r1).1 : Int))
      constructor <;> omega
theorem number_in64 (s name : List UInt8) : In64 (numberP s name).1 := by
  unfold numberP
  split
  · exact ⟨by show (-9223372036854775808 : Int) ≤ 0; omega, by show (0 : Int) ≤ _; omega⟩
  · exact numR_in64 _ _ _
theorem digF_len : ∀ (k acc : Nat) (r : List UInt8), (digF k acc r).2.length ≤ r.length
  | 0, _, _ => Nat.le_refl _
  | _ + 1, _, [] => Nat.le_refl _
  | k + 1, acc, c :: r => by
    rw [digF]
    split
    · have := digF_len k (10 * acc + (c.toNat - 48)) r; simp; omega
    · exact Nat.le_refl _
theorem numR_len (neg : Bool) (s r1 : List UInt8) (h : r1.length ≤ s.length) : (numR neg s r1).2.length ≤ s.length := by
  unfold numR
  split
  · exact Nat.le_refl _
  · exact Nat.le_trans (digF_len _ _ _) h
theorem number_len (s name : List UInt8) : (numberP s name).2.length ≤ s.length := by
  unfold numberP
  split
  · exact Nat.le_refl _
  · refine numR_len _ _ _ ?_
    split <;> simp only [List.length_drop] <;> omega
/-- The act of a line, its kind given. -/
def readA (k : Nat) (r : List UInt8) : DoA :=
  ⟨k + 1, (numberP r [119, 104, 111]).1,
    (numberP (numberP r [119, 104, 111]).2 [97, 109, 111, 117, 110, 116]).1,
    IntKind.u32.wrap (numberP (numberP (numberP r [119, 104, 111]).2 [97, 109, 111, 117, 110, 116]).2 [100, 114, 97, 119]).1,
    (numberP (numberP (numberP (numberP r [119, 104, 111]).2 [97, 109, 111, 117, 110, 116]).2 [100, 114, 97, 119]).2 [97, 116]).1,
    (numberP (numberP (numberP (numberP (numberP r [119, 104, 111]).2 [97, 109, 111, 117, 110, 116]).2 [100, 114, 97, 119]).2 [97, 116]).2 [102, 97, 117, 108, 116]).1,
    (numberP (numberP (numberP (numberP (numberP (numberP r [119, 104, 111]).2 [97, 109, 111, 117, 110, 116]).2 [100, 114, 97, 119]).2 [97, 116]).2 [102, 97, 117, 108, 116]).2 [107, 101, 101, 112]).1⟩
def refStep (s : List UInt8) (k : Nat) : Option DoA :=
  if s.take (kinds9.getD k []).length = kinds9.getD k [] then
    if textA (readA k (s.drop (kinds9.getD k []).length)) = s then some (readA k (s.drop (kinds9.getD k []).length)) else none
  else none
def refFrom (s : List UInt8) : Nat → Nat → Option DoA
  | 0, _ => none
  | n + 1, k => match refStep s k with
    | some a => some a
    | none => refFrom s n (k + 1)
def refAct (s : List UInt8) : Option DoA := refFrom s 9 0
theorem wrap32 (v : Int) : 0 ≤ IntKind.u32.wrap v ∧ IntKind.u32.wrap v < 4294967296 := by
  simp [IntKind.wrap, IntKind.bits, IntKind.signed]; omega
theorem readA_tell (k : Nat) (hk : k < 9) (r : List UInt8) : Valid (readA k r) := by
  refine ⟨?_, ?_, number_in64 _ _, number_in64 _ _, (wrap32 _).1, (wrap32 _).2, number_in64 _ _, number_in64 _ _, number_in64 _ _⟩
  · show (1 : Int) ≤ (k : Int) + 1; omega
  · show (k : Int) + 1 ≤ 9; omega
/-! It is the act of the line. -/
theorem refStep_some {s : List UInt8} {k : Nat} (hk : k < 9) {a : DoA} (h : refStep s k = some a) : actP s = some a := by
  unfold refStep at h
  split at h
  · split at h
    · rename_i ht
      injection h with h
      have := actP_text (readA_tell k hk (s.drop (kinds9.getD k []).length))
      rw [ht] at this
      rw [this, h]
    · cases h
  · cases h
theorem refFrom_some : ∀ (n k : Nat) {s : List UInt8} {a : DoA}, k + n ≤ 9 → refFrom s n k = some a → actP s = some a
  | 0, k, s, a, _, h => by cases h
  | n + 1, k, s, a, hk, h => by
    rw [refFrom] at h
    cases hs : refStep s k with
    | some b =>
      rw [hs] at h
      have := refStep_some (by omega) hs
      rw [this]; exact h
    | none =>
      rw [hs] at h
      exact refFrom_some n (k + 1) (by omega) h
end Go.Proofs.YtlldjildedbjlaaDoor.ToldW
