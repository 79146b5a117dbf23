/- Floats that are halves of whole numbers: exact. No condition. -/
import Derived.Laws.FloatArith
import Derived.Laws.ComplexArith
namespace Go.Proofs.Ytefihmfilahppaa.Half
set_option linter.unusedVariables false
open Ieee
/-- The word of v / 2. -/
def H (v : Nat) : Nat := double.nearest false v (-1)
theorem H_zero : H 0 = 0 := by
  unfold H Format.nearest
  rw [if_pos rfl]; rfl
theorem lp : double.leastPlace = -1074 := by decide
theorem pow52 : (2 : Nat) ^ 52 = 4503599627370496 := by decide
theorem log_le {v : Nat} (h : v < 2 ^ 53) : v.log2 ≤ 52 := by
  rcases Nat.eq_zero_or_pos v with h0 | h0
  · subst h0; simp
  · have := (Nat.log2_lt (by omega)).2 h
    omega
theorem log_mul {v : Nat} (h0 : 0 < v) (k : Nat) : (v * 2 ^ k).log2 = v.log2 + k := by
  have hv := Nat.log2_self_le (n := v) (by omega)
  have hv2 := Nat.lt_log2_self (n := v)
  have hpos : v * 2 ^ k ≠ 0 := by
    have := Nat.two_pow_pos k
    exact Nat.ne_of_gt (Nat.mul_pos h0 this)
  have a : v.log2 + k ≤ (v * 2 ^ k).log2 := (Nat.le_log2 hpos).2 (by rw [Nat.pow_add]; exact Nat.mul_le_mul_right _ hv)
  have b : (v * 2 ^ k).log2 < v.log2 + k + 1 := (Nat.log2_lt hpos).2 (by
    rw [show v.log2 + k + 1 = (v.log2 + 1) + k by omega, Nat.pow_add]
    exact Nat.mul_lt_mul_of_pos_right hv2 (Nat.two_pow_pos k))
  omega
/-- What is kept is the number, its last place moved. -/
theorem cut_exact (way : Toward) (neg : Bool) (m d : Nat) (hd : d ≤ (m * 2 ^ d).log2 + 2) : way.cut neg (m * 2 ^ d) d = m := by
  unfold Toward.cut
  have hp := Nat.two_pow_pos d
  rw [Nat.min_eq_left hd, Nat.shiftLeft_eq, Nat.one_mul]
  dsimp only
  rw [Nat.mul_div_cancel _ hp, Nat.mul_mod_left]
  generalize 2 ^ d = g at hp
  have h1 : decide (g < 2 * 0) = false := decide_eq_false (by omega)
  have h2 : (g == 2 * 0) = false := beq_eq_false_iff_ne.2 (by omega)
  cases way
  · dsimp only; rw [h1, h2]; rfl
  · cases neg <;> rfl
  · cases neg <;> rfl
  · rfl
theorem cut_zero (way : Toward) (neg : Bool) (n : Nat) : way.cut neg n 0 = n := by
  have := cut_exact way neg n 0 (by omega)
  simpa using this
/-- The word, written out. -/
theorem nearest_val {v : Nat} {p : Int} (h0 : 0 < v) (h : v < 2 ^ 53) (hp : -1000 ≤ p) (k : Nat) :
    double.nearest false (v * 2 ^ k) (p - k) = double.word false (min ((p + v.log2 - 52 + 1074).toNat * 2 ^ 52 + v * 2 ^ (52 - v.log2)) double.infRung) := by
  have hl := log_le h
  have hm := log_mul h0 k
  have hpos : v * 2 ^ k ≠ 0 := Nat.ne_of_gt (Nat.mul_pos h0 (Nat.two_pow_pos k))
  unfold Format.nearest
  rw [if_neg hpos]
  dsimp only
  rw [hm, lp, show (double.fractionBits : Int) = 52 from rfl, show double.binade = 2 ^ 52 from rfl]
  have hlast : max (p - (k : Int) + ((v.log2 + k : Nat) : Int) - 52) (-1074) = p + v.log2 - 52 := by omega
  rw [hlast]
  rw [show p + (v.log2 : Int) - 52 - -1074 = p + v.log2 - 52 + 1074 by omega]
  have hk : Toward.even.cut false ((v * 2 ^ k) <<< (p - (k : Int) - (p + (v.log2 : Int) - 52)).toNat) (p + (v.log2 : Int) - 52 - (p - (k : Int))).toNat = v * 2 ^ (52 - v.log2) := by
    rw [Nat.shiftLeft_eq]
    by_cases hc : k ≤ 52 - v.log2
    · rw [show (p - (k : Int) - (p + (v.log2 : Int) - 52)).toNat = 52 - v.log2 - k by omega, show (p + (v.log2 : Int) - 52 - (p - (k : Int))).toNat = 0 by omega, cut_zero, Nat.mul_assoc, ← Nat.pow_add]
      congr 2; omega
    · rw [show (p - (k : Int) - (p + (v.log2 : Int) - 52)).toNat = 0 by omega, show (p + (v.log2 : Int) - 52 - (p - (k : Int))).toNat = k - (52 - v.log2) by omega, Nat.pow_zero, Nat.mul_one]
      have e : v * 2 ^ k = (v * 2 ^ (52 - v.log2)) * 2 ^ (k - (52 - v.log2)) := by
        rw [Nat.mul_assoc, ← Nat.pow_add]; congr 2; omega
      rw [e]
      refine cut_exact _ _ _ _ ?_
      rw [← e, hm]; omega
  rw [hk]
theorem nearest_move {v : Nat} {p : Int} (h : v < 2 ^ 53) (hp : -1000 ≤ p) (k : Nat) : double.nearest false (v * 2 ^ k) (p - k) = double.nearest false v p := by
  rcases Nat.eq_zero_or_pos v with h0 | h0
  · subst h0
    unfold Format.nearest
    rw [if_pos (by simp), if_pos rfl]
  · rw [nearest_val h0 h hp k]
    have := nearest_val h0 h hp 0
    simpa using this.symm
/-- A number of halves, wherever its last place stands. -/
theorem H_of {v m : Nat} {p : Int} (h : v < 2 ^ 53) (hp : p ≤ -1) (hm : m = v * 2 ^ ((-1 - p).toNat)) : double.nearest false m p = H v := by
  subst hm
  have := nearest_move (p := -1) h (by omega) (-1 - p).toNat
  rw [show (-1 : Int) - ((-1 - p).toNat : Int) = p by omega] at this
  exact this
theorem H_whole {x : Nat} (h : 2 * x < 2 ^ 53) : double.nearest false x 0 = H (2 * x) := by
  have := nearest_move (v := x) (p := 0) (by omega) (by omega) 1
  unfold H
  rw [← this]
  congr 1
  omega
theorem H_read {v : Nat} (h : v < 2 ^ 53) : ∃ (K : Nat) (i : Int), double.read (H v) = .number false K i ∧ -1074 ≤ i ∧ i ≤ -1 ∧ K = v * 2 ^ ((-1 - i).toNat) := by
  rcases Nat.eq_zero_or_pos v with h0 | h0
  · subst h0
    refine ⟨0, -1074, ?_, by omega, by omega, (Nat.zero_mul _).symm⟩
    rw [H_zero]
    decide
  · have hl := log_le h
    have hv := nearest_val h0 h (show (-1000 : Int) ≤ -1 by omega) 0
    rw [Nat.pow_zero, Nat.mul_one, show (-1 : Int) - ((0 : Nat) : Int) = -1 by omega] at hv
    have h1 := Nat.log2_self_le (n := v) (by omega)
    have h2 := Nat.lt_log2_self (n := v)
    have k1 : 2 ^ 52 ≤ v * 2 ^ (52 - v.log2) := by
      have : 2 ^ 52 = 2 ^ v.log2 * 2 ^ (52 - v.log2) := by rw [← Nat.pow_add]; congr 1; omega
      rw [this]; exact Nat.mul_le_mul_right _ h1
    have k2 : v * 2 ^ (52 - v.log2) < 2 ^ 53 := by
      have : 2 ^ 53 = 2 ^ (v.log2 + 1) * 2 ^ (52 - v.log2) := by rw [← Nat.pow_add]; congr 1; omega
      rw [this]; exact Nat.mul_lt_mul_of_pos_right h2 (Nat.two_pow_pos _)
    refine ⟨v * 2 ^ (52 - v.log2), -1 + v.log2 - 52, ?_, by omega, by omega, by congr 2; omega⟩
    unfold H
    rw [hv]
    have hE : ((-1 : Int) + v.log2 - 52 + 1074).toNat = 1021 + v.log2 := by omega
    rw [hE]
    generalize v * 2 ^ (52 - v.log2) = K at *
    generalize v.log2 = L at *
    rw [pow52] at *
    have hinf : double.infRung = 9218868437227405312 := by decide
    have hmin : min ((1021 + L) * 4503599627370496 + K) double.infRung = (1021 + L) * 4503599627370496 + K := by rw [hinf]; omega
    rw [hmin]
    unfold Format.word Format.read
    rw [hinf, show double.signWeight = 9223372036854775808 by decide, show double.binade = 4503599627370496 by decide, lp]
    simp only [Bool.false_eq_true, if_false]
    have a1 : ((1021 + L) * 4503599627370496 + K) / 9223372036854775808 = 0 := by omega
    have a2 : ((1021 + L) * 4503599627370496 + K) % 9223372036854775808 = (1021 + L) * 4503599627370496 + K := by omega
    have a3 : ((1021 + L) * 4503599627370496 + K) % 4503599627370496 = K - 4503599627370496 := by omega
    have a4 : ((1021 + L) * 4503599627370496 + K) / 4503599627370496 = 1022 + L := by omega
    rw [a1, a2, a3, a4, if_neg (by omega), if_pos (by omega)]
    simp only [Datum.number.injEq]
    refine ⟨by decide, by omega, by omega⟩
theorem signed_pos (m u : Nat) : signed false m u = ((m * 2 ^ u : Nat) : Int) := by simp [signed, Nat.shiftLeft_eq]
theorem signed_zero (s : Bool) (u : Nat) : signed s 0 u = 0 := by cases s <;> simp [signed]
theorem H_add {a b : Nat} (h : a + b < 2 ^ 53) : double.add (H a) (H b) = some (H (a + b)) := by
  obtain ⟨K1, i, r1, i1, i2, hK1⟩ := H_read (v := a) (by omega)
  obtain ⟨K2, j, r2, j1, j2, hK2⟩ := H_read (v := b) (by omega)
  unfold Format.add
  rw [r1, r2]
  simp only [Datum.sum, Option.map_some, Format.write, signed_pos]
  have e : K1 * 2 ^ (i - min i j).toNat + K2 * 2 ^ (j - min i j).toNat = (a + b) * 2 ^ (-1 - min i j).toNat := by
    rw [hK1, hK2, Nat.mul_assoc, Nat.mul_assoc, ← Nat.pow_add, ← Nat.pow_add, Nat.add_mul]
    congr 3 <;> omega
  have e2 : ((K1 * 2 ^ (i - min i j).toNat : Nat) : Int) + ((K2 * 2 ^ (j - min i j).toNat : Nat) : Int) = (((a + b) * 2 ^ (-1 - min i j).toNat : Nat) : Int) := by rw [← e]; simp
  rw [e2]
  have hneg : ∀ X : Nat, (if (X : Int) = 0 then (false && false) else decide ((X : Int) < 0)) = false := by
    intro X
    split
    · rfl
    · exact decide_eq_false (by omega)
  rw [hneg, Int.natAbs_natCast, H_of (v := a + b) h (by omega) rfl]
theorem H_sub_zero {a : Nat} (h : a < 2 ^ 53) : double.sub (H a) (H 0) = some (H a) := by
  obtain ⟨K1, i, r1, i1, i2, hK1⟩ := H_read (v := a) h
  have r2 : double.read (H 0) = .number false 0 (-1074) := by rw [H_zero]; decide
  unfold Format.sub
  rw [r1, r2]
  simp only [Datum.opposite, Datum.sum, Option.map_some, Format.write, signed_pos, signed_zero, Bool.not_false, Int.add_zero]
  rw [show min i (-1074) = -1074 by omega]
  have e : K1 * 2 ^ (i - -1074).toNat = a * 2 ^ (-1 - -1074 : Int).toNat := by
    rw [hK1, Nat.mul_assoc, ← Nat.pow_add]; congr 2; omega
  rw [e]
  have hneg : ∀ X : Nat, (if (X : Int) = 0 then (false && true) else decide ((X : Int) < 0)) = false := by
    intro X
    split
    · rfl
    · exact decide_eq_false (by omega)
  rw [hneg, Int.natAbs_natCast, H_of (v := a) h (by omega) rfl]
theorem H_mul {a b c : Nat} (ha : a < 2 ^ 53) (hb : b < 2 ^ 53) (hc : c < 2 ^ 53) (h : a * b = 2 * c) : double.mul (H a) (H b) = some (H c) := by
  obtain ⟨K1, i, r1, i1, i2, hK1⟩ := H_read ha
  obtain ⟨K2, j, r2, j1, j2, hK2⟩ := H_read hb
  unfold Format.mul
  rw [r1, r2]
  simp only [Datum.product, Option.map_some, Format.write, Bool.xor_false]
  refine congrArg some (H_of hc (by omega) ?_)
  rw [hK1, hK2, show a * 2 ^ (-1 - i).toNat * (b * 2 ^ (-1 - j).toNat) = (a * b) * (2 ^ (-1 - i).toNat * 2 ^ (-1 - j).toNat) by rw [Nat.mul_mul_mul_comm], h, ← Nat.pow_add, Nat.mul_comm 2 c, Nat.mul_assoc, ← Nat.pow_succ']
  congr 2; omega
theorem H_integral (way : Toward) (hw : way = .down ∨ way = .zero) {v : Nat} (h : v < 2 ^ 53) : (double.read (H v)).integral way = .number false (v / 2) 0 := by
  obtain ⟨K, i, r, i1, i2, hK⟩ := H_read h
  rw [r]
  simp only [Datum.integral]
  have hi : i.toNat = 0 := by omega
  rw [hi, Nat.shiftLeft_zero]
  congr 1
  have hcut : way.cut false K (-i).toNat = K / 2 ^ min (-i).toNat (K.log2 + 2) := by
    unfold Toward.cut
    rcases hw with rfl | rfl <;> simp [Nat.shiftLeft_eq]
  rw [hcut]
  have hd : K / 2 ^ (-i).toNat = v / 2 := by
    rw [hK, show (-i).toNat = (-1 - i).toNat + 1 by omega, Nat.pow_succ, ← Nat.div_div_eq_div_mul, Nat.mul_div_cancel _ (Nat.two_pow_pos _)]
  by_cases hc : (-i).toNat ≤ K.log2 + 2
  · rw [Nat.min_eq_left hc, hd]
  · rw [Nat.min_eq_right (by omega)]
    have l1 := Nat.lt_log2_self (n := K)
    have l2 : 2 ^ (K.log2 + 1) ≤ 2 ^ (K.log2 + 2) := Nat.pow_le_pow_right (by omega) (by omega)
    have l3 : 2 ^ (K.log2 + 2) ≤ 2 ^ (-i).toNat := Nat.pow_le_pow_right (by omega) (by omega)
    rw [Nat.div_eq_of_lt (by omega), ← hd, Nat.div_eq_of_lt (by omega)]
theorem H_one : H 2 = 4607182418800017408 := by decide +kernel
theorem H_half : H 1 = 4602678819172646912 := by decide +kernel
/-- A whole number as a float. -/
theorem H_int {n : Int} (h0 : 0 ≤ n) (h : n < 2 ^ 52) : floatOfInt .f64 n = H (2 * n.toNat) := by
  have e : floatOfInt .f64 n = double.nearest (decide (n < 0)) n.natAbs 0 := rfl
  rw [e, decide_eq_false (by omega), show n.natAbs = n.toNat by omega, H_whole (by omega)]
theorem H_toInt {x : Nat} (h : 2 * x < 2 ^ 53) : floatToIntVal .f64 (H (2 * x)) .i64 = some (x : Int) := by
  unfold floatToIntVal
  have : (FloatKind.f64.decode (H (2 * x))).toInt .zero = some (x : Int) := by
    show (double.read (H (2 * x))).toInt .zero = _
    unfold Datum.toInt
    rw [H_integral .zero (.inr rfl) h]
    simp [signed_pos]
  rw [this]
  have h1 : IntKind.min .i64 = -9223372036854775808 := by decide
  have h2 : IntKind.max .i64 = 9223372036854775807 := by decide
  simp only [h1, h2]
  rw [if_pos (by omega)]
/-- Complex numbers of whole parts: halved, and summed. -/
theorem H_cmul {a b : Nat} (ha : 2 * a < 2 ^ 53) (hb : 2 * b < 2 ^ 53) : cMulBits (H (2 * a)) (H (2 * b)) 4602678819172646912 0 = some (H a, H b) := by
  have m1 : double.mul (H (2 * a)) (H 1) = some (H a) := H_mul ha (by omega) (by omega) (by omega)
  have m2 : double.mul (H (2 * b)) (H 0) = some (H 0) := H_mul hb (by omega) (by omega) (by omega)
  have m3 : double.mul (H (2 * a)) (H 0) = some (H 0) := H_mul ha (by omega) (by omega) (by omega)
  have m4 : double.mul (H (2 * b)) (H 1) = some (H b) := H_mul hb (by omega) (by omega) (by omega)
  have s1 : double.sub (H a) (H 0) = some (H a) := H_sub_zero (by omega)
  have s2 : double.add (H 0) (H b) = some (H b) := by simpa using H_add (a := 0) (b := b) (by omega)
  rw [H_half] at m1 m4
  rw [H_zero] at m2 m3 s1 s2
  have f : FloatKind.f64.format = double := rfl
  simp only [cMulBits, floatBits, f, m1, m2, m3, m4, s1, s2, Option.bind_some]
theorem H_cadd {a b c d : Nat} (h1 : a + c < 2 ^ 53) (h2 : b + d < 2 ^ 53) : cSumBits .add .f64 (H a) (H b) (H c) (H d) = some (H (a + c), H (b + d)) := by
  have f : FloatKind.f64.format = double := rfl
  simp only [cSumBits, floatBits, f, H_add h1, H_add h2, Option.bind_some]
end Go.Proofs.Ytefihmfilahppaa.Half
