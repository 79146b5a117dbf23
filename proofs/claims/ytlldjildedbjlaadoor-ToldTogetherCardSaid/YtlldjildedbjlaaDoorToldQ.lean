/- The reference's act is the act: the plain law. No condition. -/
import Derived.Test.YtlldjildedbjlaaDoorToldX
namespace Go.Proofs.YtlldjildedbjlaaDoor.ToldW
open Go.Proofs.YtlldjildedbjlaaDoor.ToldP
set_option linter.unusedVariables false
theorem digF_end (m u : Nat) (r : List UInt8) (h : ∀ c, r.head? = some c → ¬ (48 ≤ c.toNat ∧ c.toNat ≤ 57)) : digF m u r = (u, r) := by
  cases m with
  | zero => rfl
  | succ m =>
    cases r with
    | nil => rfl
    | cons c r => rw [digF, if_neg (h c rfl)]
theorem digF_dec (u : Nat) : ∀ (m : Nat) (r : List UInt8), (Lib.decDigits u).length ≤ m → digF m 0 (Lib.decDigits u ++ r) = digF (m - (Lib.decDigits u).length) u r := by
  induction u using Nat.strongRecOn with
  | _ u ih =>
    intro m r hm
    by_cases h : u / 10 = 0
    · rw [dec_last u h] at hm ⊢
      have hd := dig_toNat (u % 10) (by omega)
      obtain ⟨n, rfl⟩ : ∃ n, m = n + 1 := ⟨m - 1, by simp at hm; omega⟩
      rw [List.singleton_append, digF, hd, if_pos (by omega)]
      simp only [List.length_cons, List.length_nil, Nat.zero_add, Nat.add_sub_cancel]
      congr 1
      omega
    · rw [dec_step u h] at hm ⊢
      rw [List.length_append] at hm ⊢
      simp only [List.length_cons, List.length_nil, Nat.zero_add] at hm ⊢
      have hd := dig_toNat (u % 10) (by omega)
      rw [List.append_assoc, ih (u / 10) (by omega) m _ (by omega), List.singleton_append]
      obtain ⟨n, hn⟩ : ∃ n, m - (Lib.decDigits (u / 10)).length = n + 1 := ⟨m - (Lib.decDigits (u / 10)).length - 1, by omega⟩
      rw [hn, digF, hd, if_pos (by omega), show m - ((Lib.decDigits (u / 10)).length + 1) = n by omega]
      congr 1
      omega
theorem dec_len19 : ∀ (k u : Nat), u < 10 ^ k → 1 ≤ k → (Lib.decDigits u).length ≤ k
  | 0, u, _, h => by omega
  | k + 1, u, hu, _ => by
    by_cases h : u / 10 = 0
    · rw [dec_last u h]; simp
    · rw [dec_step u h, List.length_append]
      have h1 : u / 10 < 10 ^ k := by rw [Nat.pow_succ] at hu; omega
      have h2 : 1 ≤ k := by
        rcases Nat.eq_zero_or_pos k with rfl | h2
        · simp at h1; omega
        · exact h2
      have := dec_len19 k (u / 10) h1 h2
      simp; omega
theorem neg_of_dec (u : Nat) (r : List UInt8) : negOf (Lib.decDigits u ++ r) = false := by
  have hne := dec_ne u
  have hd := dec_dig u
  unfold negOf
  cases h : Lib.decDigits u with
  | nil => exact absurd h hne
  | cons c l =>
    rw [h] at hd
    have := hd c List.mem_cons_self
    unfold isDig at this
    have := of_decide_eq_true this
    refine decide_eq_false fun e => ?_
    have e : c = 45 := by simpa using e
    subst e
    have e45 : (45 : UInt8).toNat = 45 := by decide
    omega
theorem number_hit (name : List UInt8) (v : Int) (hv : In64 v) (rest : List UInt8) (hr : ∀ c, rest.head? = some c → ¬ (48 ≤ c.toNat ∧ c.toNat ≤ 57)) : numberP (headOf name ++ (Lib.itoa v ++ rest)) name = (v, rest) := by
  have hp : (headOf name).isPrefixOf (headOf name ++ (Lib.itoa v ++ rest)) = true := by
    rw [List.isPrefixOf_iff_prefix]; exact List.prefix_append _ _
  unfold numberP
  rw [if_neg (by rw [hp]; simp), List.drop_left]
  obtain ⟨h0, h1⟩ := hv
  by_cases hn : v < 0
  · obtain ⟨u, rfl⟩ : ∃ u : Nat, v = -(u : Int) := ⟨v.natAbs, by omega⟩
    rw [Lib.itoa_neg u (by omega)]
    have hneg : negOf (45 :: Lib.decDigits u ++ rest) = true := by unfold negOf; simp
    rw [hneg, if_pos rfl, show (45 :: Lib.decDigits u ++ rest).drop 1 = Lib.decDigits u ++ rest from rfl]
    have hl := dec_len19 19 u (by omega) (by omega)
    unfold numR
    rw [digF_dec u 19 rest hl, digF_end _ u rest hr]
    have hdn : 0 < (Lib.decDigits u).length := List.length_pos_iff.2 (dec_ne u)
    rw [if_neg (by
      dsimp only
      rw [List.length_append]
      rintro (h | h | ⟨_, h⟩)
      · omega
      · omega
      · cases h)]
    rfl
  · obtain ⟨u, rfl⟩ : ∃ u : Nat, v = (u : Int) := ⟨v.toNat, by omega⟩
    rw [Lib.itoa_nonneg, neg_of_dec, if_neg (by simp)]
    have hl := dec_len19 19 u (by omega) (by omega)
    unfold numR
    rw [digF_dec u 19 rest hl, digF_end _ u rest hr]
    have hdn : 0 < (Lib.decDigits u).length := List.length_pos_iff.2 (dec_ne u)
    rw [if_neg (by
      dsimp only
      rw [List.length_append]
      rintro (h | h | ⟨h, _⟩) <;> omega)]
    rfl
theorem number_miss (s name : List UInt8) (h : ¬ headOf name <+: s) : numberP s name = (0, s) := by
  unfold numberP
  rw [if_pos (by rw [← Bool.not_eq_true, List.isPrefixOf_iff_prefix]; exact h)]
end Go.Proofs.YtlldjildedbjlaaDoor.ToldW
