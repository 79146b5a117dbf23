/- The laws WantTells and WantMore, walked. No condition. -/
import Derived.Test.YtefihmfilahppaaWant5
namespace Go.Proofs.Ytefihmfilahppaa.WantW
open Go.RowKit Go.Proofs.Ytefihmfilahppaa.Com Go.Proofs.Ytefihmfilahppaa.Ord Go.Proofs.Ytefihmfilahppaa.Tok Go.Proofs.Ytefihmfilahppaa.Half Go.Proofs.Ytefihmfilahppaa.Flat
set_option linter.unusedVariables false
theorem keepL_len (l : List Int) (v : Int) : (keepL l v).length ≤ 64 := lateL_len _
set_option maxRecDepth 100000 in
set_option maxHeartbeats 2000000 in
theorem tells_walk (A : Option Addr) (n cap : Nat) (l : List Int) (more : Int) (w : World) (hr : Reads w 1 A n (nums l)) (hc : n ≤ cap) :
    Calls Try.prog 13 #[.slice A n cap, .int .i64 more] w fun e w' => e = .returned (.bool true) ∧ Below w.heap.size w w' := by
  obtain ⟨i0, hi0, hz0, hz1, hz2⟩ := info_parts info64
  by_cases hn : n ≤ 1000
  · have d0 : decide ((n : Int) > 1000) = false := decide_eq_false (by omega)
    go_enter Try.func13, Try.ntmps13
    go_wp2_with fail
    refine (awake12 _).mono ?_
    rintro e w1 ⟨rfl, hB⟩
    replace hr := hr.below hB
    go_upto_region 6 with (refine wpList_append_any _ rfl (.tmp 15) (.tmp 16) _ rfl w1.heap.size 2 i0 _ 1 8 Try.underlying60 hi0 hz0 hz1 hz2 rfl (by omega) (.slice (some ⟨w1.heap.size, 0, none⟩) 0 0) 0 [] rfl (own_empty (Blk.new _ _ _) (Nat.le_refl _)) A n cap _ rfl (hr.below (b_alloc (b_refl _) _)) (one_nums l) (by simp only [maxLen]; omega) (by omega) (by simp) ?_; intro v1 wa hown hg1 hat1)
    have hb : Below w1.heap.size w1 wa := b_grown (b_alloc (b_refl _) _) hg1 (by simp [Value.ownBlock])
    rw [List.nil_append, Nat.zero_add] at hown
    obtain ⟨A1, c1, rfl⟩ := own_slice hown
    have hc1 := own_cap0 hown
    replace hown := Reads.of_own hown
    replace hr := hr.below hb
    replace hB := b_step hB hb
    clear hb hg1 hat1 hi0 hz0 hz1 hz2 i0
    have q1 := Lib.hid (Estimate_calls A1 n c1 l wa hown hc1 (by omega))
    have q2 := Lib.hid (REstimate_calls A n cap l wa hr (by omega))
    have q3 := Lib.hid (Keep_calls A1 n c1 l more wa hown (by omega))
    have hkl := keepL_len l more
    generalize estL l = z at *
    have e1 : ((z.1 : Int) == (z.1 : Int)) = true := beq_self_eq_true _
    have e2 : ((z.2 : Int) == (z.2 : Int)) = true := beq_self_eq_true _
    go_wp2_with fail
    refine q1.out.mono ?_
    rintro e w3 ⟨rfl, rfl⟩
    go_wp2_with fail
    refine q2.out.mono ?_
    rintro e w3 ⟨rfl, rfl⟩
    go_wp2_with fail
    refine q3.out.mono ?_
    rintro e w4 ⟨A2, c2, rfl, hc2, hx, hb⟩
    replace hr := hr.below hb
    replace hown := hown.below hb
    replace hB := b_step hB hb
    clear hb q1 q2 q3
    have q4 := Lib.hid (RKeep_calls A n cap l more w4 hr (by omega))
    go_wp2_with fail
    refine q4.out.mono ?_
    rintro e w5 ⟨A3, c3, rfl, hy, hb⟩
    replace hr := hr.below hb
    replace hown := hown.below hb
    replace hx := hx.below hb
    replace hB := b_step hB hb
    clear hb q4
    have q5 := Lib.hid (Same64 A2 A3 _ _ c2 c3 (keepL l more) (keepL l more) w5 hx hy (by omega))
    rw [decide_eq_true rfl] at q5
    go_wp2_with fail
    refine q5.out.mono ?_
    rintro e w6 ⟨rfl, hb⟩
    replace hr := hr.below hb
    replace hown := hown.below hb
    replace hB := b_step hB hb
    clear hb q5
    have q6 := Lib.hid (Same64 A1 A _ _ c1 cap l l w6 hown hr (by omega))
    rw [decide_eq_true rfl] at q6
    go_wp2_with fail
    refine q6.out.mono ?_
    rintro e w7 ⟨rfl, hb⟩
    go_wp2_with fail
    go_ret
    exact ⟨rfl, b_step hB hb⟩
  · have d0 : decide ((n : Int) > 1000) = true := decide_eq_true (by omega)
    go_enter Try.func13, Try.ntmps13
    go_wp2_with fail
    refine (awake12 _).mono ?_
    rintro e w1 ⟨rfl, hB⟩
    go_wp2_with fail
    go_ret
    exact ⟨rfl, hB⟩
theorem estL_short {l : List Int} (v : Int) (h : l.length < 64) : estL (keepL l v) = stepZ (estL l) v := by
  have e1 : lateL l = l := by unfold lateL; rw [show l.length - 64 = 0 by omega]; rfl
  have e2 : keepL l v = l ++ [v] := by unfold keepL lateL; rw [show (l ++ [v]).length - 64 = 0 by simp; omega]; rfl
  have e3 : lateL (l ++ [v]) = l ++ [v] := e2
  unfold estL
  rw [e2, e3, e1]
  unfold sumZ
  rw [List.foldl_append]
  rfl
set_option maxRecDepth 100000 in
set_option maxHeartbeats 2000000 in
theorem more_walk (A : Option Addr) (n cap : Nat) (l : List Int) (amount : Int) (w : World) (hr : Reads w 1 A n (nums l)) (hc : n ≤ cap) :
    Calls Try.prog 15 #[.slice A n cap, .int .i64 amount] w fun e w' => e = .returned (.bool true) ∧ Below w.heap.size w w' := by
  by_cases hn : n ≤ 60
  · have d0 : decide ((n : Int) > 60) = false := decide_eq_false (by omega)
    by_cases h1 : amount < 1
    · have d1 : decide (amount < 1) = true := decide_eq_true h1
      clear h1
      go_enter Try.func15, Try.ntmps15
      go_wp2_with fail
      refine (awake12 _).mono ?_
      rintro e w1 ⟨rfl, hB⟩
      go_wp2_with fail
      go_ret
      exact ⟨rfl, hB⟩
    · have d1 : decide (amount < 1) = false := decide_eq_false h1
      by_cases h2 : amount > 1099511627776
      · have d2 : decide (amount > 1099511627776) = true := decide_eq_true h2
        clear h1 h2
        go_enter Try.func15, Try.ntmps15
        go_wp2_with fail
        refine (awake12 _).mono ?_
        rintro e w1 ⟨rfl, hB⟩
        go_wp2_with fail
        go_ret
        exact ⟨rfl, hB⟩
      · have d2 : decide (amount > 1099511627776) = false := decide_eq_false h2
        go_enter Try.func15, Try.ntmps15
        go_wp2_with fail
        refine (awake12 _).mono ?_
        rintro e w1 ⟨rfl, hB⟩
        replace hr := hr.below hB
        have hl := Reads.len1 hr
        have hbd := sumZ_bound (lateL l)
        have hll := lateL_len l
        have hes := estL_short (l := l) amount (by omega)
        have hez := estL_short (l := l) 0 (by omega)
        have q1 := Lib.hid (Estimate_calls A n cap l w1 hr hc (by omega))
        have q2 := Lib.hid (Keep_calls A n cap l amount w1 hr (by omega))
        have hk1 := keepL_len l amount
        have hk2 := keepL_len l 0
        rw [show sumZ (lateL l) = estL l from rfl] at hbd
        generalize estL l = z at *
        obtain ⟨a, b⟩ := z
        dsimp only at *
        have hs : stepZ (a, b) amount = (a + amount.toNat, b + 1) := by unfold stepZ; rw [if_neg (by omega), if_pos ⟨by omega, by omega⟩]
        have hz : stepZ (a, b) 0 = (a / 2, b / 2) := by unfold stepZ; rw [if_pos rfl]
        rw [hs] at hes
        rw [hz] at hez
        clear hs hz hl
        have HS := Lib.hid hes
        have HZ := Lib.hid hez
        clear hes hez
        have a0 : (0 : Int) ≤ (a : Int) := by omega
        have a1 : (a : Int) ≤ 100000000000000 := by omega
        have a2 : (0 : Int) ≤ (b : Int) := by omega
        have a3 : (b : Int) ≤ 64 := by omega
        go_wp2_with fail
        refine q1.out.mono ?_
        rintro e w3 ⟨rfl, rfl⟩
        go_wp2_with fail
        refine q2.out.mono ?_
        rintro e w4 ⟨A2, c2, rfl, hc2, hx, hb⟩
        replace hr := hr.below hb
        replace hB := b_step hB hb
        clear hb q1 q2
        have q3 := Estimate_calls A2 _ c2 (keepL l amount) w4 hx hc2 (by omega)
        rw [HS.out] at q3
        replace q3 := Lib.hid q3
        go_wp2_with fail
        refine q3.out.mono ?_
        rintro e w5 ⟨rfl, rfl⟩
        clear q3
        have q4 := Lib.hid (Keep_calls A n cap l 0 w5 hr (by omega))
        go_wp2_with fail
        refine q4.out.mono ?_
        rintro e w6 ⟨A3, c3, rfl, hc3, hy, hb⟩
        replace hB := b_step hB hb
        clear hb q4
        have q5 := Estimate_calls A3 _ c3 (keepL l 0) w6 hy hc3 (by omega)
        rw [HZ.out] at q5
        replace q5 := Lib.hid q5
        go_wp2_with fail
        refine q5.out.mono ?_
        rintro e w7 ⟨rfl, rfl⟩
        clear q5
        have f1 : (((a + amount.toNat : Nat) : Int) == (a : Int) + amount) = true := beq_iff_eq.2 (by omega)
        have f2 : (((b + 1 : Nat) : Int) == (b : Int) + 1) = true := beq_iff_eq.2 (by omega)
        have f3 : (((a / 2 : Nat) : Int) == (a : Int) / 2) = true := beq_iff_eq.2 (by omega)
        have f4 : (((b / 2 : Nat) : Int) == (b : Int) / 2) = true := beq_iff_eq.2 (by omega)
        generalize ((a + amount.toNat : Nat) : Int) = s1 at *
        generalize ((b + 1 : Nat) : Int) = s2 at *
        generalize ((a / 2 : Nat) : Int) = s3 at *
        generalize ((b / 2 : Nat) : Int) = s4 at *
        go_wp2_with fail
        go_ret
        exact ⟨rfl, hB⟩
  · have d0 : decide ((n : Int) > 60) = true := decide_eq_true (by omega)
    go_enter Try.func15, Try.ntmps15
    go_wp2_with fail
    refine (awake12 _).mono ?_
    rintro e w1 ⟨rfl, hB⟩
    go_wp2_with fail
    go_ret
    exact ⟨rfl, hB⟩
end Go.Proofs.Ytefihmfilahppaa.WantW
