/- The law StampLeast, walked. No condition. -/
import Derived.Test.YtefihmfilahppaaOldest
import Derived.Test.YtefihmfilahppaaChain
import Derived.Deep.DeepCutAuto
namespace Go.Proofs.Ytefihmfilahppaa.StampW
open Go.RowKit Go.Proofs.Ytefihmfilahppaa.Com Go.Proofs.Ytefihmfilahppaa.Ord
set_option linter.unusedVariables false

theorem infoStamp : (Try.prog.info? 30).map (fun i => (i.zero, i.size, i.bytes)) = some (some (.agg #[.int .i64 0, .int .i64 0]), 2, 16) := by kernel_rfl
theorem cellsS_snoc (l : List (Int × Int)) (m : Int × Int) : cellsS l ++ [.int .i64 m.1, .int .i64 m.2] = cellsS (l ++ [m]) := by
  simp [cellsS, List.flatMap_append]

theorem older_false {a b c d : Int} : older a b c d = false ↔ ¬ (a < c ∨ a = c ∧ b < d) := by simp [older]
theorem least_le (l : List (Int × Int)) : ∀ k, k ≤ l.length → ∀ j (h : j < l.length), j < k → older l[j].1 l[j].2 (leastOf (l.take k)).1 (leastOf (l.take k)).2 = false
  | 0, _, j, _, hk => by omega
  | k + 1, hl, j, h, hk => by
    by_cases h0 : k = 0
    · subst h0
      obtain rfl : j = 0 := by omega
      rw [leastOf_one l (by omega), older_false]
      omega
    · rw [leastOf_snoc l k (by omega) (by omega)]
      have ih := least_le l k (by omega) j h
      generalize leastOf (l.take k) = o at *
      by_cases hq : older l[k].1 l[k].2 o.1 o.2 = true
      · rw [if_pos hq]
        by_cases hj : j = k
        · subst hj; rw [older_false]; omega
        · have := ih (by omega)
          rw [older_false] at this ⊢
          simp only [older, decide_eq_true_eq] at hq
          omega
      · rw [if_neg hq]
        by_cases hj : j = k
        · subst hj; simpa using hq
        · exact ih (by omega)
theorem least_in (l : List (Int × Int)) : ∀ k, k ≤ l.length → 0 < k → leastOf (l.take k) ∈ l.take k
  | 0, _, h => by omega
  | k + 1, hl, _ => by
    by_cases h0 : k = 0
    · subst h0
      rw [leastOf_one l (by omega), List.take_succ_eq_append_getElem (by omega)]
      simp
    · rw [leastOf_snoc l k (by omega) (by omega)]
      have ih := least_in l k (by omega) (by omega)
      rw [List.take_succ_eq_append_getElem (by omega : k < l.length)]
      split
      · exact List.mem_append_right _ (List.mem_singleton.2 rfl)
      · exact List.mem_append_left _ ih
/-- Is it among the first k? -/
def among (l : List (Int × Int)) (o : Int × Int) (k : Nat) : Bool := (l.take k).any fun x => x.1 == o.1 && x.2 == o.2
theorem among_succ (l : List (Int × Int)) (o : Int × Int) (k : Nat) (h : k < l.length) : among l o (k + 1) = (among l o k || (l[k].1 == o.1 && l[k].2 == o.2)) := by
  unfold among
  rw [List.take_succ_eq_append_getElem h, List.any_append]
  simp
theorem among_all (l : List (Int × Int)) (h : 0 < l.length) : among l (leastOf l) l.length = true := by
  have := least_in l l.length (Nat.le_refl _) h
  unfold among
  rw [List.take_length] at this ⊢
  exact List.any_eq_true.2 ⟨_, this, by simp⟩
theorem least_more (l : List (Int × Int)) (m : Int × Int) (h : 0 < l.length) : leastOf (l ++ [m]) = if older m.1 m.2 (leastOf l).1 (leastOf l).2 then m else leastOf l := by
  have := leastOf_snoc (l ++ [m]) l.length (by simp) h
  rw [List.take_of_length_le (by simp)] at this
  simpa using this

set_option maxRecDepth 100000 in
set_option maxHeartbeats 1000000 in
theorem least_walk (A : Option Addr) (n c : Nat) (l : List (Int × Int)) (m : Int × Int) (w : World) (hr : Reads w 2 A n (cellsS l)) (hn : n ≤ 1000) :
    Calls Try.prog 9 #[.slice A n c, .agg #[.int .i64 m.1, .int .i64 m.2]] w fun e w' => e = .returned (.bool true) ∧ Below w.heap.size w w' := by
  obtain ⟨i0, hi0, hz0, hz1, hz2⟩ := info_parts infoStamp
  go_enter Try.func9, Try.ntmps9
  go_wp2_with (go_at_call 21; refine (awake_calls _).mono ?_; rintro e w1 ⟨rfl, hb1⟩)
  replace hr := hr.below (b_step (b_alloc (b_refl w) _) hb1)
  refine (Oldest_calls _ _ _ l _ hr (by omega)).mono ?_
  rintro e w2 ⟨rfl, hb2⟩
  replace hr := hr.below hb2
  go_upto_region 6 with (fail)
  generalize hQ : leastOf l = o at *
  have hb1' := hb1
  have hb2' := hb2
  have hB5 := Blk.new w2 30 #[.int .i64 o.1, .int .i64 o.2]
  have hB3 := (((Blk.new w 30 #[.int .i64 m.1, .int .i64 m.2]).below hb1).below hb2).alloc (.cells #[.int .i64 o.1, .int .i64 o.2] 30)
  replace hb1 := b_alloc (b_step (b_step (b_alloc (b_refl w) _) hb1) hb2) (.cells #[.int .i64 o.1, .int .i64 o.2] 30)
  replace hr := hr.below (b_alloc (b_refl _) (.cells #[.int .i64 o.1, .int .i64 o.2] 30))
  have hg5 : w.heap.size < w2.heap.size := (((Blk.new w 30 #[.int .i64 m.1, .int .i64 m.2]).below hb1').below hb2').lt
  generalize hg : w2.heap.size = g5 at *
  generalize w2.alloc (.cells #[.int .i64 o.1, .int .i64 o.2] 30) = w3 at *
  clear hb2 hb1' hb2' hg w1 w2
  have e0 := hB3.cell 0
  have e1 := hB3.cell 1
  simp only [List.getElem?_toArray, List.getElem?_cons_zero, List.getElem?_cons_succ] at e0 e1
  have hl3 := hB3.lt
  have HQ := Lib.hid hQ
  clear hQ
  go_cut [7, 8] (fun s7 s8 wx => ∃ g : Nat, s7 = .pointer (some ⟨g, 0, none⟩) ∧ s8 = .bool true ∧ w3.heap.size ≤ g ∧ Blk wx g 30 #[.int .i64 (leastOf (l ++ [m])).1, .int .i64 (leastOf (l ++ [m])).2] ∧ Below w3.heap.size w3 wx)
  case first =>
    have hc : ∀ (w : World) (v : Value), w.ownsRow w3.heap.size 30 2 v (0 + n + 1) (([] ++ cellsS l) ++ [.int .i64 m.1, .int .i64 m.2]) → Calls Try.prog 28 #[v] w fun e w' => e = .returned (.tuple #[.agg #[.int .i64 (leastOf (l ++ [m])).1, .int .i64 (leastOf (l ++ [m])).2], .bool true]) ∧ Below w.heap.size w w' := by
      intro w v h
      obtain ⟨A2, c2, rfl⟩ := own_slice h
      have h2 := Reads.of_own h
      rw [List.nil_append, cellsS_snoc] at h2
      have := Oldest_calls A2 (0 + n + 1) c2 (l ++ [m]) w h2 (by omega)
      simpa using this
    refine wp_region_inv_at [(0, [], [2, 11, 12]), (1, [], [2, 11, 12]), (2, [0, 1], [5, 11, 12]), (3, [], [4, 11, 12]), (4, [3], [5, 11, 12]), (5, [2, 4, 2], [6, 11, 12]), (6, [5, 5], [7, 11, 12]), (7, [6], [8, 9, 11, 12]), (8, [7], [11, 12]), (9, [7], [12]), (10, [], [11, 12]), (11, [10, 8, 6, 0, 1, 2, 3, 4, 5, 6, 7, 8, 10], [12]), (12, [9, 11, 0, 1, 2, 3, 4, 5, 6, 7, 8, 9, 10, 11], [])] (fun a0 b a w' => ∃ g22 g26 g7 v24 v27, LI A n c w3.heap.size (cellsS l) m (leastOf (l ++ [m])) true a0 w3 b a w' g22 g26 g7 v24 v27) (by kernel_rfl) (by kernel_rfl) (by kernel_rfl) ⟨0, 0, 0, undef, undef, ?_⟩ ⟨?_, ?_, ?_, ?_, ?_, ?_, ?_, ?_, ?_, ?_, ?_, ?_, ?_, trivial⟩ ?_
    · constructor
      case same => exact Same.refl _ _
      case below => exact b_drew (b_refl _)
      all_goals (intro h; exact absurd h (by simp))
    · exact step0 _ _ _ _ _ _ _ _ _ _ rfl rfl rfl rfl (Nat.le_of_ble_eq_true rfl) rfl
    · exact step1 _ _ _ _ _ _ _ _ _ _ rfl rfl rfl rfl (Nat.le_of_ble_eq_true rfl) rfl rfl
    · exact step2 _ _ _ _ _ _ _ _ _ _ rfl rfl rfl rfl (Nat.le_of_ble_eq_true rfl) rfl rfl hr i0 hi0 hz0 hz1 hz2 hn (one_cellsS l)
    · exact step3 _ _ _ _ _ _ _ _ _ _ rfl rfl rfl rfl (Nat.le_of_ble_eq_true rfl) rfl _ rfl e0 e1
    · exact step4 _ _ _ _ _ _ _ _ _ _ rfl rfl rfl rfl (Nat.le_of_ble_eq_true rfl) rfl
    · exact step5 _ _ _ _ _ _ _ _ _ _ rfl rfl rfl rfl (Nat.le_of_ble_eq_true rfl) rfl rfl i0 hi0 hz0 hz1 hz2 hn (one_cellsS l)
    · exact step6 _ _ _ _ _ _ _ _ _ _ rfl rfl rfl rfl (Nat.le_of_ble_eq_true rfl) rfl hc
    · exact step7 _ _ _ _ _ _ _ _ _ _ rfl rfl rfl rfl (Nat.le_of_ble_eq_true rfl) rfl
    · exact step8 _ _ _ _ _ _ _ _ _ _ rfl rfl rfl rfl (Nat.le_of_ble_eq_true rfl) rfl
    · exact step9 _ _ _ _ _ _ _ _ _ _ rfl rfl rfl rfl (Nat.le_of_ble_eq_true rfl) rfl
    · exact step10 _ _ _ _ _ _ _ _ _ _ rfl rfl rfl rfl (Nat.le_of_ble_eq_true rfl) rfl
    · exact step11 _ _ _ _ _ _ _ _ _ _ rfl rfl rfl rfl (Nat.le_of_ble_eq_true rfl) rfl
    · exact step12 _ _ _ _ _ _ _ _ _ _ rfl rfl rfl rfl (Nat.le_of_ble_eq_true rfl) rfl
    · rintro b a' wx hall ⟨g22, g26, g7, v24, v27, f⟩
      have ha := f.done (Nat.le_of_ble_eq_true rfl) hall
      have z := f.W7b (hall 11 (Nat.le_of_ble_eq_true rfl))
      have zb := f.below
      clear f hall
      subst ha
      simp only [puts, Act.put, List.setIfInBounds_toArray, List.set_cons_zero, List.set_cons_succ]
      go_wp2_with fail
      go_meet
      case rel => exact ⟨g7, rfl, rfl, z.2, z.1, zb⟩
  case rest =>
    obtain ⟨g, rfl, rfl, hg, hB7, hbx⟩ := hcut
    have hll : l.length = n := by have := hr.1; rw [cellsS_len] at this; omega
    replace hr := hr.below hbx
    replace hB5 := hB5.below hbx
    replace hB3 := hB3.below hbx
    replace hb1 := b_step hb1 hbx
    clear hbx hi0 hz0 hz1 hz2 i0 e0 e1 hl3 hg
    rcases Nat.eq_zero_or_pos n with h0 | h0
    · subst h0
      obtain rfl : l = [] := List.eq_nil_of_length_eq_zero hll
      have e0 := hB3.cell 0
      have e1 := hB3.cell 1
      have e2 := hB7.cell 0
      have e3 := hB7.cell 1
      simp only [List.getElem?_toArray, List.getElem?_cons_zero, List.getElem?_cons_succ, List.nil_append, leastOf, least, List.foldl_nil] at e0 e1 e2 e3
      have ed : decide (0 < 0) = false := rfl
      rw [ed]
      go_wp2_with fail
      refine wp_loop_rounds 1 ?_
      rw [rounds_succ]
      go_wp2_with fail
      go_ret
      exact ⟨rfl, hb1⟩
    · have ed : decide (0 < n) = true := decide_eq_true h0
      rw [ed]
      have hle : Hid (∀ k (h : k < l.length), older l[k].1 l[k].2 o.1 o.2 = false) := Lib.hid (by
        intro k h
        have := least_le l l.length (Nat.le_refl _) k h h
        rwa [List.take_length, HQ.out] at this)
      have hmo : Hid (among l o n = true) := Lib.hid (by rw [← HQ.out, ← hll]; exact among_all l (by omega))
      have hmr : Hid (leastOf (l ++ [m]) = if older m.1 m.2 o.1 o.2 then m else o) := Lib.hid (by rw [← HQ.out]; exact least_more l m (by omega))
      generalize leastOf (l ++ [m]) = lo at *
      clear HQ
      go_wp2_with fail
      go_loopw [9, 10] (fun s9 s10 wr => ∃ (k : Nat) (q : Bool), s9 = .bool q ∧ s10 = .int .i64 k ∧ k ≤ n ∧ Hid (q = among l o k) ∧ Below wc.heap.size wc wr) (fun _ j _ => n - (intOf j).toNat)
      case atStart => exact ⟨0, false, rfl, rfl, by omega, Lib.hid rfl, b_refl _⟩
      case round =>
        obtain ⟨k, q, rfl, rfl, hk, hq, hb⟩ := hrel
        by_cases hlt : k < n
        · obtain ⟨x0, x1⟩ := cellsS_at l k (by omega)
          have hr' := hr.below hb
          obtain ⟨ad, rfl, _⟩ := hr.2 (by omega)
          obtain ⟨c0, c1⟩ := hr'.two hlt x0 x1
          have b5 := hB5.below hb
          have d0 := b5.cell 0
          have d1 := b5.cell 1
          simp only [List.getElem?_toArray, List.getElem?_cons_zero, List.getElem?_cons_succ] at d0 d1
          have Q := Lib.hid (fun (w : World) => hle.out k (by omega) ▸ Older_calls l[k].1 l[k].2 o.1 o.2 w)
          have hq2 := Lib.hid (among_succ l o k (by omega))
          generalize hx0 : l[k].1 = y0 at *
          generalize hx1 : l[k].2 = y1 at *
          clear hx0 hx1 x0 x1 hr hr' b5
          go_wp2_with fail
          have o0 := On.cell c0
          have o1 := On.cell c1
          have o2 := On.cell d0
          have o3 := On.cell d1
          refine wp_region_on (by kernel_rfl) (by kernel_rfl) ?_
          repeat (go_big_quiet_step ((go_at_call 22; with_reducible exact Calls.on (Q.out _))))
          refine wpQuiet_nil ?_
          rintro _ ⟨⟨w2, hb2⟩, rfl⟩
          clear o0 o1 o2 o3
          replace c0 := b_keep hb2 c0
          replace c1 := b_keep hb2 c1
          replace d0 := b_keep hb2 d0
          replace d1 := b_keep hb2 d1
          replace hb := b_step hb hb2
          clear hb2
          cases q
          · have hq3 : Hid ((y0 == o.1 && y1 == o.2) = among l o (k + 1)) := Lib.hid (by rw [hq2.out, ← hq.out]; rfl)
            clear hq2 hq
            cases hc1 : (y0 == o.1) <;> cases hc2 : (y1 == o.2) <;> rw [hc1, hc2] at hq3 <;> simp only [Bool.and_self, Bool.and_true, Bool.and_false, Bool.false_and, Bool.true_and] at hq3
            all_goals (
              go_wp2_with fail
              have o0 := On.cell c0
              have o1 := On.cell c1
              have o2 := On.cell d0
              have o3 := On.cell d1
              refine wp_region_on (by kernel_rfl) (by kernel_rfl) ?_
              repeat (go_big_quiet_step (fail))
              refine wpQuiet_nil ?_
              rintro _ ⟨⟨w4, hb4⟩, rfl⟩
              clear o0 o1 o2 o3
              replace hb := b_step hb hb4
              go_wp2_with fail
              go_roundw
              case rel => exact ⟨k + 1, _, rfl, by go_num, by omega, hq3, hb⟩
              case measure => simp [intOf]; omega)
          · have hq3 : Hid (true = among l o (k + 1)) := Lib.hid (by rw [hq2.out, ← hq.out]; rfl)
            clear hq2 hq
            go_wp2_with fail
            have o0 := On.cell c0
            have o1 := On.cell c1
            have o2 := On.cell d0
            have o3 := On.cell d1
            refine wp_region_on (by kernel_rfl) (by kernel_rfl) ?_
            repeat (go_big_quiet_step (fail))
            refine wpQuiet_nil ?_
            rintro _ ⟨⟨w4, hb4⟩, rfl⟩
            clear o0 o1 o2 o3
            replace hb := b_step hb hb4
            go_wp2_with fail
            go_roundw
            case rel => exact ⟨k + 1, true, rfl, by go_num, by omega, hq3, hb⟩
            case measure => simp [intOf]; omega
        · have hqt : Hid (q = true) := Lib.hid (by
            have e := hq.out
            obtain rfl : k = n := by omega
            rw [e]; exact hmo.out)
          have b3 := hB3.below hb
          have b5 := hB5.below hb
          have b7 := hB7.below hb
          have d0 := b5.cell 0
          have d1 := b5.cell 1
          have e0 := b3.cell 0
          have e1 := b3.cell 1
          have f0 := b7.cell 0
          have f1 := b7.cell 1
          simp only [List.getElem?_toArray, List.getElem?_cons_zero, List.getElem?_cons_succ] at d0 d1 e0 e1 f0 f1
          obtain rfl := hqt.out
          clear hq hqt hmo hle
          have hb' := b_step hb1 hb
          generalize hor : older m.1 m.2 o.1 o.2 = r at *
          have Q := Lib.hid (fun (w : World) => hor ▸ Older_calls m.1 m.2 o.1 o.2 w)
          clear hor
          cases r
          · have hlo : Hid (lo = o) := Lib.hid (by rw [hmr.out]; rfl)
            obtain rfl := hlo.out
            clear hmr hlo
            go_wp2_with (go_at_call 22; refine (Q.out _).mono ?_; rintro e w3 ⟨rfl, hb2⟩; (have d0' := b_keep hb2 d0; have d1' := b_keep hb2 d1; have f0' := b_keep hb2 f0; have f1' := b_keep hb2 f1))
            go_ret
            exact ⟨rfl, b_step hb' hb2⟩
          · have hlo : Hid (lo = m) := Lib.hid (by rw [hmr.out]; rfl)
            obtain rfl := hlo.out
            clear hmr hlo
            go_wp2_with (go_at_call 22; refine (Q.out _).mono ?_; rintro e w3 ⟨rfl, hb2⟩; (have e0' := b_keep hb2 e0; have e1' := b_keep hb2 e1; have f0' := b_keep hb2 f0; have f1' := b_keep hb2 f1))
            go_ret
            exact ⟨rfl, b_step hb' hb2⟩
theorem least_long (A : Option Addr) (n c : Nat) (m : Int × Int) (w : World) (hn : 1000 < n) :
    Calls Try.prog 9 #[.slice A n c, .agg #[.int .i64 m.1, .int .i64 m.2]] w fun e w' => e = .returned (.bool true) ∧ Below w.heap.size w w' := by
  go_enter Try.func9, Try.ntmps9
  go_wp2_with (go_at_call 21; refine (awake_calls _).mono ?_; rintro e w1 ⟨rfl, hb1⟩)
  go_ret
  exact ⟨rfl, b_step (b_alloc (b_refl w) _) hb1⟩
theorem least_law (A : Option Addr) (n c : Nat) (l : List (Int × Int)) (m : Int × Int) (w : World) (hr : Reads w 2 A n (cellsS l)) :
    Calls Try.prog 9 #[.slice A n c, .agg #[.int .i64 m.1, .int .i64 m.2]] w fun e w' => e = .returned (.bool true) ∧ Below w.heap.size w w' := by
  rcases Nat.lt_or_ge 1000 n with h | h
  · exact least_long A n c m w h
  · exact least_walk A n c l m w hr h
end Go.Proofs.Ytefihmfilahppaa.StampW
