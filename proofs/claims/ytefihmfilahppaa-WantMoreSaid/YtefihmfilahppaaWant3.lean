/- Layer 12's walks: the estimate. No condition. -/
import Derived.Test.YtefihmfilahppaaWant2
namespace Go.Proofs.Ytefihmfilahppaa.WantW
open Go.RowKit Go.Proofs.Ytefihmfilahppaa.Com Go.Proofs.Ytefihmfilahppaa.Ord Go.Proofs.Ytefihmfilahppaa.Tok Go.Proofs.Ytefihmfilahppaa.Half Go.Proofs.Ytefihmfilahppaa.Flat
set_option linter.unusedVariables false
/-- How much, and how often, behind one more. -/
def stepZ (z : Nat × Nat) (v : Int) : Nat × Nat := if v = 0 then (z.1 / 2, z.2 / 2) else if 0 < v ∧ v ≤ 1099511627776 then (z.1 + v.toNat, z.2 + 1) else z
def sumZ (l : List Int) : Nat × Nat := l.foldl stepZ (0, 0)
def estL (l : List Int) : Nat × Nat := sumZ (lateL l)
theorem sumZ_snoc (l : List Int) (k : Nat) (h : k < l.length) : sumZ (l.take (k + 1)) = stepZ (sumZ (l.take k)) l[k] := by
  unfold sumZ
  rw [List.take_succ_eq_append_getElem h, List.foldl_append]
  rfl
theorem sumZ_bound (l : List Int) : (sumZ l).1 ≤ l.length * 1099511627776 ∧ (sumZ l).2 ≤ l.length := by
  unfold sumZ
  have : ∀ (l : List Int) (z : Nat × Nat), (l.foldl stepZ z).1 ≤ z.1 + l.length * 1099511627776 ∧ (l.foldl stepZ z).2 ≤ z.2 + l.length := by
    intro l
    induction l with
    | nil => intro z; simp
    | cons v l ih =>
      intro z
      rw [List.foldl_cons]
      have h := ih (stepZ z v)
      have h2 : (stepZ z v).1 ≤ z.1 + 1099511627776 ∧ (stepZ z v).2 ≤ z.2 + 1 := by
        unfold stepZ
        split
        · dsimp only; omega
        · split
          · rename_i h3; dsimp only; omega
          · omega
      rw [List.length_cons]
      omega
  simpa using this l (0, 0)
theorem lateL_len (l : List Int) : (lateL l).length ≤ 64 := by unfold lateL; rw [List.length_drop]; omega
set_option maxRecDepth 100000 in
set_option maxHeartbeats 1000000 in
theorem Estimate_calls (A : Option Addr) (n cap : Nat) (l : List Int) (w : World) (hr : Reads w 1 A n (nums l)) (hc : n ≤ cap) (hn : n ≤ 1000000) :
    Calls Try.prog 38 #[.slice A n cap] w fun e w' => e = .returned (.tuple #[.int .i64 (estL l).1, .int .i64 (estL l).2]) ∧ w' = w := by
  have q1 := Lib.hid (late_calls A n cap l w hr hc hn)
  have hlate := lateL_len l
  unfold estL
  generalize lateL l = L at *
  have hz := H_zero
  go_enter Try.func38, Try.ntmps38
  go_wp2_with fail
  refine q1.out.mono ?_
  rintro e w1 ⟨A', c', rfl, h1, hr2, rfl⟩
  clear q1 hr
  generalize hm : L.length = m at *
  go_wp2_with fail
  go_loop [4, 10] (fun s4 s10 => ∃ k : Nat, k ≤ m ∧ s10 = .int .i64 k ∧ s4 = .complex .f64 (H (2 * (sumZ (L.take k)).1)) (H (2 * (sumZ (L.take k)).2))) (fun _ s10 => m - (intOf s10).toNat)
  case atStart => exact ⟨0, by omega, rfl, by simp [sumZ, hz]⟩
  case round =>
    obtain ⟨k, hk, rfl, rfl⟩ := hrel
    have hB := sumZ_bound (L.take k)
    have hlk : (L.take k).length ≤ 64 := by rw [List.length_take]; omega
    by_cases hlt : k < m
    · have hs := Lib.hid (sumZ_snoc L k (by omega))
      obtain ⟨ad, rfl, _⟩ := hr2.2 (by omega)
      have x0 := Reads.num hr2 (k := k) (by omega)
      generalize L[k] = v at *
      generalize sumZ (L.take k) = z at *
      obtain ⟨a, b⟩ := z
      dsimp only at hB ⊢
      have q2 := Lib.hid (halved_calls a b (by omega) (by omega))
      by_cases hv0 : v = 0
      · have hs2 : Hid (sumZ (L.take (k + 1)) = (a / 2, b / 2)) := Lib.hid (by rw [hs.out]; unfold stepZ; rw [if_pos hv0])
        have e1 : (v == 0) = true := beq_iff_eq.2 hv0
        clear hv0 hs
        have HM := Lib.hid hm
        clear hm
        go_wp2_with (go_at_call 53; with_reducible refine (q2.out _).mono ?_; rintro e w3 ⟨rfl, rfl⟩)
        go_round
        case rel => exact ⟨k + 1, by omega, by go_num, by rw [hs2.out]⟩
        case measure => simp [intOf]; omega
      · have e1 : (v == 0) = false := beq_eq_false_iff_ne.2 hv0
        have HM := Lib.hid hm
        clear hm
        by_cases hv1 : 0 < v
        · have e2 : decide (v > 0) = true := decide_eq_true hv1
          by_cases hv2 : v ≤ 1099511627776
          · have e3 : decide (v ≤ 1099511627776) = true := decide_eq_true hv2
            have hs2 : Hid (sumZ (L.take (k + 1)) = (a + v.toNat, b + 1)) := Lib.hid (by rw [hs.out]; unfold stepZ; rw [if_neg hv0, if_pos ⟨hv1, hv2⟩])
            have e4 := H_int (n := v) (by omega) (by omega)
            have e5 := fun w => run_complex_sum (P := Try.prog) w .add (.inl rfl) 80 .f64 _ _ _ _ _ _ (H_cadd (a := 2 * a) (b := 2 * b) (c := 2 * v.toNat) (d := 2) (by omega) (by omega))
            rw [H_one] at e5
            have e6 : 2 * a + 2 * v.toNat = 2 * (a + v.toNat) := by omega
            have e7 : 2 * b + 2 = 2 * (b + 1) := by omega
            rw [e6, e7] at e5
            generalize a + v.toNat = a2 at *
            generalize H (2 * a) = ha at *
            generalize H (2 * b) = hb at *
            generalize H (2 * v.toNat) = hv at *
            clear hs hv0 hv1 hv2 q2 e6 e7
            go_wp2_with fail
            go_round
            case rel => exact ⟨k + 1, by omega, by go_num, by rw [hs2.out]⟩
            case measure => simp [intOf]; omega
          · have e3 : decide (v ≤ 1099511627776) = false := decide_eq_false hv2
            have hs2 : Hid (sumZ (L.take (k + 1)) = (a, b)) := Lib.hid (by rw [hs.out]; unfold stepZ; rw [if_neg hv0, if_neg (by omega)])
            clear hs hv0 hv1 hv2 q2
            go_wp2_with fail
            go_round
            case rel => exact ⟨k + 1, by omega, by go_num, by rw [hs2.out]⟩
            case measure => simp [intOf]; omega
        · have e2 : decide (v > 0) = false := decide_eq_false hv1
          have hs2 : Hid (sumZ (L.take (k + 1)) = (a, b)) := Lib.hid (by rw [hs.out]; unfold stepZ; rw [if_neg hv0, if_neg (by omega)])
          clear hs hv0 hv1 q2
          go_wp2_with fail
          go_round
          case rel => exact ⟨k + 1, by omega, by go_num, by rw [hs2.out]⟩
          case measure => simp [intOf]; omega
    · have e0 : L.take k = L := List.take_of_length_le (by omega)
      rw [e0] at hB ⊢
      have e1 := fun w => run_convert_float_int (P := Try.prog) w 83 2 .f64 .i64 _ _ rfl Try.underlying2 (H_toInt (x := (sumZ L).1) (by omega))
      have e2 := fun w => run_convert_float_int (P := Try.prog) w 83 2 .f64 .i64 _ _ rfl Try.underlying2 (H_toInt (x := (sumZ L).2) (by omega))
      have HM := Lib.hid hm
      clear hm e0
      generalize hzz : sumZ L = z at *
      have HZ := Lib.hid hzz
      clear hzz
      generalize H (2 * z.1) = h1 at *
      generalize H (2 * z.2) = h2 at *
      go_wp2_with fail
      go_ret2
      exact ⟨by rw [HZ.out]; rfl, rfl⟩
end Go.Proofs.Ytefihmfilahppaa.WantW
