/- Layer 12's reference, walked. No condition. -/
import Derived.Test.YtefihmfilahppaaWant3
namespace Go.Proofs.Ytefihmfilahppaa.WantW
open Go.RowKit Go.Proofs.Ytefihmfilahppaa.Com Go.Proofs.Ytefihmfilahppaa.Ord Go.Proofs.Ytefihmfilahppaa.Tok Go.Proofs.Ytefihmfilahppaa.Half Go.Proofs.Ytefihmfilahppaa.Flat
set_option linter.unusedVariables false
theorem ival {a b : Int} (h : a = b) : Value.int .i64 a = Value.int .i64 b := by rw [h]
set_option maxRecDepth 100000 in
set_option maxHeartbeats 1000000 in
theorem REstimate_calls (A : Option Addr) (n cap : Nat) (l : List Int) (w : World) (hr : Reads w 1 A n (nums l)) (hn : n ≤ 1000000) :
    Calls Try.prog 39 #[.slice A n cap] w fun e w' => e = .returned (.tuple #[.int .i64 (estL l).1, .int .i64 (estL l).2]) ∧ w' = w := by
  have hl := Reads.len1 hr
  obtain ⟨f, m, hf, hm, hL⟩ : ∃ f m, n = f + m ∧ m ≤ 64 ∧ Hid ((n ≤ 64 → f = 0) ∧ (64 < n → f = n - 64) ∧ lateL l = l.drop f) := by
    by_cases h : n ≤ 64
    · exact ⟨0, n, by omega, h, Lib.hid ⟨fun _ => rfl, fun h2 => by omega, by unfold lateL; rw [show l.length - 64 = 0 by omega]⟩⟩
    · exact ⟨n - 64, 64, by omega, by omega, Lib.hid ⟨fun h2 => by omega, fun _ => rfl, by unfold lateL; rw [show l.length - 64 = n - 64 by omega]⟩⟩
  have hlen : Hid ((lateL l).length = m) := Lib.hid (by rw [hL.out.2.2, List.length_drop]; omega)
  have hat : Hid (∀ k (h : k < m), ∃ (h1 : k < (lateL l).length) (h2 : f + k < l.length), (lateL l)[k] = l[f + k]) := Lib.hid (by
    intro k hk
    have h1 := hlen.out
    refine ⟨by omega, by omega, ?_⟩
    have : ∀ (L : List Int) (e : L = l.drop f) (hk : k < L.length), L[k] = l[f + k]'(by omega) := by
      intro L e hk; subst e; rw [List.getElem_drop]
    exact this _ hL.out.2.2 _)
  have hfa : n ≤ f + m := by omega
  have hfb : f + m ≤ n := by omega
  unfold estL
  by_cases h : n ≤ 64
  · have e0 : decide ((n : Int) > 64) = false := decide_eq_false (by omega)
    have hf0 := hL.out.1 h
    clear h hL hf
    go_enter Try.func39, Try.ntmps39
    go_wp2_with fail
    generalize hLL : lateL l = L at *
    have HLL := Lib.hid hLL
    clear hLL
    go_loop [4, 5, 7] (fun s4 s5 s7 => ∃ (i k : Nat), i = f + k ∧ k ≤ m ∧ s7 = .int .i64 i ∧ s4 = .int .i64 (sumZ (L.take k)).1 ∧ s5 = .int .i64 (sumZ (L.take k)).2) (fun _ _ s7 => n - (intOf s7).toNat)
    case atStart => exact ⟨0, 0, by omega, by omega, rfl, rfl, rfl⟩
    case round =>
      obtain ⟨i, k, hi, hk, rfl, rfl, rfl⟩ := hrel
      have hB := sumZ_bound (L.take k)
      have hlk : (L.take k).length ≤ k := by rw [List.length_take]; omega
      by_cases hlt : k < m
      · obtain ⟨h1, h2, hv⟩ := hat.out k hlt
        have hs := Lib.hid (sumZ_snoc L k h1)
        obtain ⟨ad, rfl, _⟩ := hr.2 (by omega)
        have x0 := Reads.num hr h2
        rw [hv] at hs
        have hin : i < n := by omega
        generalize l[f + k] = v at *
        rw [← hi] at x0
        generalize sumZ (L.take k) = z at *
        obtain ⟨a, b⟩ := z
        dsimp only at hB ⊢
        have HI := Lib.hid hi
        clear hi h1 h2 hv
        have b0 : (0 : Int) ≤ (a : Int) := by omega
        have b1 : (a : Int) ≤ 100000000000000 := by omega
        have b2 : (0 : Int) ≤ (b : Int) := by omega
        have b3 : (b : Int) ≤ 64 := by omega
        by_cases hv0 : v = 0
        · have hs2 : Hid (sumZ (L.take (k + 1)) = (a / 2, b / 2)) := Lib.hid (by rw [hs.out]; unfold stepZ; rw [if_pos hv0])
          have e1 : (v == 0) = true := beq_iff_eq.2 hv0
          have e2 : decide (v ≥ 1) = false := decide_eq_false (by omega)
          clear hv0 hs
          go_wp2_with fail
          go_round
          case rel => exact ⟨i + 1, k + 1, by have := HI.out; omega, by omega, by go_num, by rw [hs2.out]; exact ival (by omega), by rw [hs2.out]; exact ival (by omega)⟩
          case measure => simp [intOf]; omega
        · have e1 : (v == 0) = false := beq_eq_false_iff_ne.2 hv0
          by_cases hv1 : 0 < v
          · have e2 : decide (v ≥ 1) = true := decide_eq_true (by omega)
            by_cases hv2 : v ≤ 1099511627776
            · have e3 : decide (v ≤ 1099511627776) = true := decide_eq_true hv2
              have hs2 : Hid (sumZ (L.take (k + 1)) = (a + v.toNat, b + 1)) := Lib.hid (by rw [hs.out]; unfold stepZ; rw [if_neg hv0, if_pos ⟨hv1, hv2⟩])
              clear hs hv0
              go_wp2_with fail
              go_round
              case rel => exact ⟨i + 1, k + 1, by have := HI.out; omega, by omega, by go_num, by rw [hs2.out]; exact ival (by omega), by rw [hs2.out]; exact ival (by omega)⟩
              case measure => simp [intOf]; omega
            · have e3 : decide (v ≤ 1099511627776) = false := decide_eq_false hv2
              have hs2 : Hid (sumZ (L.take (k + 1)) = (a, b)) := Lib.hid (by rw [hs.out]; unfold stepZ; rw [if_neg hv0, if_neg (by omega)])
              clear hs hv0 hv1 hv2
              go_wp2_with fail
              go_round
              case rel => exact ⟨i + 1, k + 1, by have := HI.out; omega, by omega, by go_num, by rw [hs2.out], by rw [hs2.out]⟩
              case measure => simp [intOf]; omega
          · have e2 : decide (v ≥ 1) = false := decide_eq_false (by omega)
            have hs2 : Hid (sumZ (L.take (k + 1)) = (a, b)) := Lib.hid (by rw [hs.out]; unfold stepZ; rw [if_neg hv0, if_neg (by omega)])
            clear hs hv0 hv1
            go_wp2_with fail
            go_round
            case rel => exact ⟨i + 1, k + 1, by have := HI.out; omega, by omega, by go_num, by rw [hs2.out], by rw [hs2.out]⟩
            case measure => simp [intOf]; omega
      · have e0 : L.take k = L := List.take_of_length_le (by have := hlen.out; omega)
        rw [e0]
        have hin : ¬ i < n := by omega
        have HI := Lib.hid hi
        clear hi e0
        go_wp2_with fail
        go_ret2
        exact ⟨by rw [HLL.out]; rfl, rfl⟩
  · have e0 : decide ((n : Int) > 64) = true := decide_eq_true (by omega)
    have hf0 := hL.out.2.1 (by omega)
    have hf1 : (n : Int) - 64 = (f : Int) := by omega
    clear h hL hf0 hf
    go_enter Try.func39, Try.ntmps39
    go_wp2_with fail
    generalize hLL : lateL l = L at *
    have HLL := Lib.hid hLL
    clear hLL
    go_loop [4, 5, 7] (fun s4 s5 s7 => ∃ (i k : Nat), i = f + k ∧ k ≤ m ∧ s7 = .int .i64 i ∧ s4 = .int .i64 (sumZ (L.take k)).1 ∧ s5 = .int .i64 (sumZ (L.take k)).2) (fun _ _ s7 => n - (intOf s7).toNat)
    case atStart => exact ⟨f, 0, by omega, by omega, rfl, rfl, rfl⟩
    case round =>
      obtain ⟨i, k, hi, hk, rfl, rfl, rfl⟩ := hrel
      have hB := sumZ_bound (L.take k)
      have hlk : (L.take k).length ≤ k := by rw [List.length_take]; omega
      by_cases hlt : k < m
      · obtain ⟨h1, h2, hv⟩ := hat.out k hlt
        have hs := Lib.hid (sumZ_snoc L k h1)
        obtain ⟨ad, rfl, _⟩ := hr.2 (by omega)
        have x0 := Reads.num hr h2
        rw [hv] at hs
        have hin : i < n := by omega
        generalize l[f + k] = v at *
        rw [← hi] at x0
        generalize sumZ (L.take k) = z at *
        obtain ⟨a, b⟩ := z
        dsimp only at hB ⊢
        have HI := Lib.hid hi
        clear hi h1 h2 hv
        have b0 : (0 : Int) ≤ (a : Int) := by omega
        have b1 : (a : Int) ≤ 100000000000000 := by omega
        have b2 : (0 : Int) ≤ (b : Int) := by omega
        have b3 : (b : Int) ≤ 64 := by omega
        by_cases hv0 : v = 0
        · have hs2 : Hid (sumZ (L.take (k + 1)) = (a / 2, b / 2)) := Lib.hid (by rw [hs.out]; unfold stepZ; rw [if_pos hv0])
          have e1 : (v == 0) = true := beq_iff_eq.2 hv0
          have e2 : decide (v ≥ 1) = false := decide_eq_false (by omega)
          clear hv0 hs
          go_wp2_with fail
          go_round
          case rel => exact ⟨i + 1, k + 1, by have := HI.out; omega, by omega, by go_num, by rw [hs2.out]; exact ival (by omega), by rw [hs2.out]; exact ival (by omega)⟩
          case measure => simp [intOf]; omega
        · have e1 : (v == 0) = false := beq_eq_false_iff_ne.2 hv0
          by_cases hv1 : 0 < v
          · have e2 : decide (v ≥ 1) = true := decide_eq_true (by omega)
            by_cases hv2 : v ≤ 1099511627776
            · have e3 : decide (v ≤ 1099511627776) = true := decide_eq_true hv2
              have hs2 : Hid (sumZ (L.take (k + 1)) = (a + v.toNat, b + 1)) := Lib.hid (by rw [hs.out]; unfold stepZ; rw [if_neg hv0, if_pos ⟨hv1, hv2⟩])
              clear hs hv0
              go_wp2_with fail
              go_round
              case rel => exact ⟨i + 1, k + 1, by have := HI.out; omega, by omega, by go_num, by rw [hs2.out]; exact ival (by omega), by rw [hs2.out]; exact ival (by omega)⟩
              case measure => simp [intOf]; omega
            · have e3 : decide (v ≤ 1099511627776) = false := decide_eq_false hv2
              have hs2 : Hid (sumZ (L.take (k + 1)) = (a, b)) := Lib.hid (by rw [hs.out]; unfold stepZ; rw [if_neg hv0, if_neg (by omega)])
              clear hs hv0 hv1 hv2
              go_wp2_with fail
              go_round
              case rel => exact ⟨i + 1, k + 1, by have := HI.out; omega, by omega, by go_num, by rw [hs2.out], by rw [hs2.out]⟩
              case measure => simp [intOf]; omega
          · have e2 : decide (v ≥ 1) = false := decide_eq_false (by omega)
            have hs2 : Hid (sumZ (L.take (k + 1)) = (a, b)) := Lib.hid (by rw [hs.out]; unfold stepZ; rw [if_neg hv0, if_neg (by omega)])
            clear hs hv0 hv1
            go_wp2_with fail
            go_round
            case rel => exact ⟨i + 1, k + 1, by have := HI.out; omega, by omega, by go_num, by rw [hs2.out], by rw [hs2.out]⟩
            case measure => simp [intOf]; omega
      · have e0 : L.take k = L := List.take_of_length_le (by have := hlen.out; omega)
        rw [e0]
        have hin : ¬ i < n := by omega
        have HI := Lib.hid hi
        clear hi e0
        go_wp2_with fail
        go_ret2
        exact ⟨by rw [HLL.out]; rfl, rfl⟩
end Go.Proofs.Ytefihmfilahppaa.WantW
