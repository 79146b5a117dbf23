/- The law WantGoes, walked. No condition. -/
import Derived.Test.YtefihmfilahppaaWantLaw
namespace Go.Proofs.Ytefihmfilahppaa.WantW
open Go.RowKit Go.Proofs.Ytefihmfilahppaa.Com Go.Proofs.Ytefihmfilahppaa.Ord Go.Proofs.Ytefihmfilahppaa.Tok Go.Proofs.Ytefihmfilahppaa.Half Go.Proofs.Ytefihmfilahppaa.Flat
set_option linter.unusedVariables false
theorem keepL_late (m : List Int) (v : Int) : keepL (lateL m) v = lateL (m ++ [v]) := by
  unfold keepL lateL
  by_cases h : m.length ≤ 64
  · rw [show m.length - 64 = 0 by omega]; rfl
  · obtain ⟨d, hd⟩ : ∃ d, m.length = d + 64 := ⟨m.length - 64, by omega⟩
    have e1 : m.length - 64 = d := by omega
    rw [e1]
    have e2 : (m.drop d ++ [v]).length - 64 = 1 := by simp; omega
    have e3 : (m ++ [v]).length - 64 = d + 1 := by simp; omega
    rw [e2, e3, List.drop_append_of_le_length (by simp; omega), List.drop_append_of_le_length (by omega), List.drop_drop]
theorem lateL_late (l : List Int) : lateL (lateL l) = lateL l := by
  have := lateL_len l
  have h : ∀ m : List Int, m.length ≤ 64 → lateL m = m := fun m hm => by unfold lateL; rw [show m.length - 64 = 0 by omega]; rfl
  exact h _ this
theorem estL_late (l : List Int) : estL (lateL l) = estL l := by unfold estL; rw [lateL_late]
theorem sumZ_ratio (l : List Int) : (sumZ l).1 ≤ ((sumZ l).2 + 1) * 1099511627776 := by
  unfold sumZ
  have : ∀ (l : List Int) (z : Nat × Nat), z.1 ≤ (z.2 + 1) * 1099511627776 → (l.foldl stepZ z).1 ≤ ((l.foldl stepZ z).2 + 1) * 1099511627776 := by
    intro l
    induction l with
    | nil => intro z h; exact h
    | cons v l ih =>
      intro z h
      rw [List.foldl_cons]
      refine ih _ ?_
      unfold stepZ
      split
      · dsimp only; omega
      · split
        · rename_i h3; dsimp only; omega
        · exact h
  exact this l (0, 0) (by omega)
theorem lateL_zeros (l : List Int) : estL (lateL (l ++ List.replicate 64 0)) = (0, 0) := by
  rw [estL_late]
  have e : lateL (l ++ List.replicate 64 0) = List.replicate 64 0 := by
    unfold lateL
    rw [show (l ++ List.replicate 64 (0 : Int)).length - 64 = l.length by simp, List.drop_left']
    rfl
  unfold estL
  rw [e]
  decide
set_option maxRecDepth 100000 in
set_option maxHeartbeats 2000000 in
theorem goes_walk (A : Option Addr) (n cap : Nat) (l : List Int) (w : World) (hr : Reads w 1 A n (nums l)) (hc : n ≤ cap) :
    Calls Try.prog 14 #[.slice A n cap] w fun e w' => e = .returned (.bool true) ∧ Below w.heap.size w w' := by
  by_cases hn : n ≤ 300
  · have d0 : decide ((n : Int) > 300) = false := decide_eq_false (by omega)
    go_enter Try.func14, Try.ntmps14
    go_wp2_with fail
    refine (awake12 _).mono ?_
    rintro e w1 ⟨rfl, hB⟩
    replace hr := hr.below hB
    have hl := Reads.len1 hr
    go_wp2_with fail
    go_loopw [3, 4] (fun s3 s4 wr => ∃ (k m : Nat) (A' : Option Addr) (c' : Nat), k ≤ n ∧ m ≤ 64 ∧ m ≤ c' ∧ s4 = .int .i64 k ∧ s3 = .slice A' m c' ∧ Hid (m = (lateL (l.take k)).length) ∧ Reads wr 1 A' m (nums (lateL (l.take k))) ∧ Below w1.heap.size w1 wr) (fun _ s4 _ => n - (intOf s4).toNat)
    case atStart => exact ⟨0, 0, none, 0, by omega, by omega, by omega, rfl, rfl, Lib.hid rfl, Reads.none_, b_refl _⟩
    case round =>
      obtain ⟨k, m, A', c', hk, hm, hmc, rfl, rfl, hml, hrk, hbr⟩ := hrel
      by_cases hlt : k < n
      · have q1 := Keep_calls A' m c' (lateL (l.take k)) (l[k]'(by omega)) wr hrk (by omega)
        rw [keepL_late, ← List.take_succ_eq_append_getElem (by omega)] at q1
        replace q1 := Lib.hid q1
        obtain ⟨ad, rfl, _⟩ := hr.2 (by omega)
        have x0 := Reads.num (hr.below hbr) (k := k) (by omega)
        generalize l[k]'(by omega) = v at *
        have hlen := lateL_len (l.take (k + 1))
        have HL := Lib.hid hl
        clear hrk hml hl
        go_wp2_with fail
        refine q1.out.mono ?_
        rintro e w3 ⟨A2, c2, rfl, h2, hx, hb⟩
        clear q1
        go_wp2_with fail
        go_roundw
        case rel => exact ⟨k + 1, _, A2, c2, by omega, hlen, h2, by go_num, rfl, Lib.hid rfl, hx, b_step hbr hb⟩
        case measure => simp [intOf]; omega
      · have e0 : l.take k = l := List.take_of_length_le (by omega)
        rw [e0] at hrk hml
        have q1 := Estimate_calls A' m c' (lateL l) wr hrk hmc (by omega)
        rw [estL_late] at q1
        have q2 := Estimate_calls A n cap l wr (hr.below hbr) hc (by omega)
        replace q1 := Lib.hid q1
        replace q2 := Lib.hid q2
        have hB2 := b_step hB hbr
        have b1 := sumZ_bound (lateL l)
        have b2 := sumZ_ratio (lateL l)
        have b3 := lateL_len l
        rw [show sumZ (lateL l) = estL l from rfl] at b1 b2
        generalize estL l = z at *
        obtain ⟨a, b⟩ := z
        dsimp only at *
        have HL := Lib.hid hl
        clear hl e0
        have a0 : (0 : Int) ≤ (a : Int) := by omega
        have a1 : (a : Int) ≤ 100000000000000 := by omega
        have a2 : (0 : Int) ≤ (b : Int) := by omega
        have a3 : (b : Int) ≤ 64 := by omega
        have a4 : (a : Int) ≤ ((b : Int) + 1) * 1099511627776 := by omega
        have c0 : ((a : Int) != (a : Int)) = false := by simp
        have c1 : ((b : Int) != (b : Int)) = false := by simp
        have c2 : decide ((a : Int) < 0) = false := decide_eq_false (by omega)
        have c3 : decide ((b : Int) < 0) = false := decide_eq_false (by omega)
        have c4 : decide ((b : Int) > 64) = false := decide_eq_false (by omega)
        go_wp2_with fail
        refine q1.out.mono ?_
        rintro e w3 ⟨rfl, rfl⟩
        clear q1
        go_wp2_with fail
        refine q2.out.mono ?_
        rintro e w3 ⟨rfl, rfl⟩
        clear q2
        go_upto_region 14 with fail
        replace hrk := hrk
        clear a0 a1 a2 a3 a4 c0 c1 c2 c3 c4 b1 b2 b3 hr
        go_wp2_with fail
        go_loopw [3, 9] (fun s3 s9 wx => ∃ (j m2 : Nat) (A2 : Option Addr) (c2 : Nat), j ≤ 64 ∧ m2 ≤ 64 ∧ m2 ≤ c2 ∧ s9 = .int .i64 j ∧ s3 = .slice A2 m2 c2 ∧ Hid (m2 = (lateL (l ++ List.replicate j 0)).length) ∧ Reads wx 1 A2 m2 (nums (lateL (l ++ List.replicate j 0))) ∧ Below w3.heap.size w3 wx) (fun _ s9 _ => 64 - (intOf s9).toNat)
        case atStart => exact ⟨0, m, A', c', by omega, hm, hmc, rfl, rfl, Lib.hid (by simpa using hml.out), by simpa using hrk, b_refl _⟩
        case round =>
          obtain ⟨j, m2, A2, c2, hj, hm2, hmc2, rfl, rfl, hml2, hrk2, hbr2⟩ := hrel
          by_cases hlt2 : j < 64
          · have q1 := Keep_calls A2 m2 c2 (lateL (l ++ List.replicate j 0)) 0 wr hrk2 (by omega)
            rw [keepL_late, show l ++ List.replicate j 0 ++ [0] = l ++ List.replicate (j + 1) 0 by rw [List.replicate_succ', List.append_assoc]] at q1
            replace q1 := Lib.hid q1
            have hlen := lateL_len (l ++ List.replicate (j + 1) 0)
            clear hrk2 hml2 hml
            go_wp2_with fail
            refine q1.out.mono ?_
            rintro e w5 ⟨A4, c4, rfl, h2, hx, hb⟩
            clear q1
            go_wp2_with fail
            go_roundw
            case rel => exact ⟨j + 1, _, A4, c4, by omega, hlen, h2, by go_num, rfl, Lib.hid rfl, hx, b_step hbr2 hb⟩
            case measure => simp [intOf]; omega
          · obtain rfl : j = 64 := by omega
            have q1 := Estimate_calls A2 m2 c2 (lateL (l ++ List.replicate 64 0)) wr hrk2 hmc2 (by omega)
            rw [lateL_zeros] at q1
            replace q1 := Lib.hid q1
            have hB3 := b_step hB2 hbr2
            clear hrk2 hml2 hml
            go_wp2_with fail
            refine q1.out.mono ?_
            rintro e w5 ⟨rfl, rfl⟩
            clear q1
            go_wp2_with fail
            go_ret
            exact ⟨rfl, hB3⟩
  · have d0 : decide ((n : Int) > 300) = true := decide_eq_true (by omega)
    go_enter Try.func14, Try.ntmps14
    go_wp2_with fail
    refine (awake12 _).mono ?_
    rintro e w1 ⟨rfl, hB⟩
    go_wp2_with fail
    go_ret
    exact ⟨rfl, hB⟩
end Go.Proofs.Ytefihmfilahppaa.WantW
