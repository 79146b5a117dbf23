/- The law of two scripts, walked. Condition: the listed variables hold what the text lays. -/
import Derived.Test.YtlldjildedbjlaaDoorToldLaw
namespace Go.Proofs.YtlldjildedbjlaaDoor.ToldW
open Go.RowKit Go.Proofs.YtlldjildedbjlaaDoor.Com Go.Proofs.YtlldjildedbjlaaDoor.Ord Go.Proofs.YtlldjildedbjlaaDoor.ToldP
set_option linter.unusedVariables false
theorem one_cells (l : List DoA) : ∀ u ∈ cellsAs l, u.oneCell' = true := by
  intro u hu
  unfold cellsAs at hu
  obtain ⟨cs, hcs, hu⟩ := List.mem_flatten.1 hu
  obtain ⟨a, _, rfl⟩ := List.mem_map.1 hcs
  exact one_cellsA a u hu
theorem cellsAs_app (a b : List DoA) : cellsAs a ++ cellsAs b = cellsAs (a ++ b) := by simp [cellsAs]
set_option maxRecDepth 100000 in
set_option maxHeartbeats 1000000 in
theorem together_walk (A : Option Addr) (n cap : Nat) (l : List DoA) (B : Option Addr) (m cap2 : Nat) (r : List DoA) (w : World) (hG : Glob w) (hl : l.length = n) (ha : ∀ a ∈ l, Arg a) (hr : Reads w 7 A n (cellsAs l))
    (hm : r.length = m) (hb : ∀ a ∈ r, Arg a) (hs : Reads w 7 B m (cellsAs r)) (n47 : n ≤ 140737488355328) (m47 : m ≤ 140737488355328) :
    Calls Tryd.prog 5 #[.slice A n cap, .slice B m cap2] w fun e w' => e = .returned (.bool true) ∧ Below w.heap.size w w' := by
  have q1 := Lib.hid (awake_calls w hG)
  by_cases h3 : 400 < n + m
  · have t1 : (400 : Int) < (n : Int) + (m : Int) := by omega
    clear h3
    go_enter Tryd.func5, Tryd.ntmps5
    go_wp2_with (go_at_call 6; refine q1.out.mono ?_; rintro e w1 ⟨rfl, hb1⟩)
    go_ret
    exact ⟨rfl, hb1⟩
  have t1 : ¬ (400 : Int) < (n : Int) + (m : Int) := by omega
  have t2 : ¬ (400 : Int) < (n : Int) := by omega
  have hn : n ≤ 1000000 := by omega
  have hmm : m ≤ 1000000 := by omega
  have hnm : n + m ≤ 400 := by omega
  have HA := Lib.hid ha
  have HB := Lib.hid hb
  have q2 := Lib.hid (fun w hG hr => Print_calls A n cap l hl HA.out w hG hr hn)
  have q3 := Lib.hid (fun w hG hr => Print_calls B m cap2 r hm HB.out w hG hr hmm)
  have q4 := Lib.hid (fun C cp w hG hr => Print_calls C (n + m) cp (l ++ r) (by rw [List.length_append]; omega) (fun a hx => (List.mem_append.1 hx).elim (HA.out a) (HB.out a)) w hG hr (by omega))
  rw [print_both (by omega)] at q4
  have hp1 : Hid ((printP l).2 = 0 → (printP l).1 = textsA l ∧ l.length ≤ 400 ∧ ∀ a ∈ l, Valid a) := Lib.hid (print_some ha)
  have hp2 : Hid ((printP r).2 = 0 → (printP r).1 = textsA r ∧ r.length ≤ 400 ∧ ∀ a ∈ r, Valid a) := Lib.hid (print_some hb)
  have hs1 := texts_len l ha
  have hs2 := texts_len r hb
  have q6 := Lib.hid (fun A B cap cap2 w hA hB => same_refl A B (n + m) cap cap2 (l ++ r) (by rw [List.length_append]; omega) w hA hB (by omega))
  unfold str at q2 q3 q4
  generalize printP l = pl at *
  generalize printP r = pr at *
  obtain ⟨t, c⟩ := pl
  obtain ⟨u, d⟩ := pr
  dsimp only at q2 q3 q4 hp1 hp2
  obtain ⟨i0, hi0, hz0, hz1, hz2⟩ := info_parts infoAct
  clear ha hb h3
  go_enter Tryd.func5, Tryd.ntmps5
  go_upto_region 5 with (go_at_call 6; refine q1.out.mono ?_; rintro e w1 ⟨rfl, hb1⟩)
  have hG1 := Lib.hid (hG.below hb1)
  have hr1 := Lib.hid (hr.below hb1)
  have hs1' := Lib.hid (hs.below hb1)
  clear q1
  have h0 := own_empty (base := w1.heap.size) (size := 7) (Blk.new w1 38 #[]) (Nat.le_refl _)
  have ba := b_alloc (b_refl w1) (.cells #[] 38)
  have hr2 := Lib.hid (hr1.out.below ba)
  have one1 := one_cells l
  have one2 := one_cells r
  go_upto_region 6 with (at_builtin; first
    | (refine wpList_append_any _ rfl _ _ 23 rfl w1.heap.size 38 i0 _ 7 56 Tryd.underlying23 hi0 hz0 hz1 hz2 rfl (by omega) _ 0 [] rfl h0 A n cap (cellsAs l) rfl hr2.out one1 (by simp only [maxLen]; omega) (by omega) ba.size ?_; intro v1 w2 ho1 hg1 _; rw [Nat.zero_add, List.nil_append] at ho1; obtain ⟨A1, c1, rfl⟩ := own_slice ho1; have hb2 := Lib.hid (b_grown_own ba h0 (Nat.le_refl _) hg1))
    | (refine wpList_append_any _ rfl _ _ 23 rfl w1.heap.size 38 i0 _ 7 56 Tryd.underlying23 hi0 hz0 hz1 hz2 rfl (by omega) _ n _ rfl ho1 B m cap2 (cellsAs r) rfl (hs1'.out.below hb2.out) one2 (by simp only [maxLen]; omega) (by omega) hb2.out.size ?_; intro v2 w3 ho2 hg2 _; rw [cellsAs_app] at ho2; obtain ⟨A2, c2, rfl⟩ := own_slice ho2; have hb3 := Lib.hid (b_grown_own hb2.out ho1 (Nat.le_refl _) hg2)))
  have hr3 := Reads.of_own ho2
  have hb4 := b_step hb1 hb3.out
  clear hi0 hz0 hz1 hz2 one1 one2 h0 ba ho1 ho2 hg1 hg2 hb2 hb3 hr2 hr1 hs1' hG1
  have hG4 := Lib.hid (hG.below hb4)
  have hr4 := Lib.hid (hr.below hb4)
  have hs4 := Lib.hid (hs.below hb4)
  have hw4 := Lib.hid hr3
  clear hr3
  go_upto_region 7 with (go_at_call 10; refine (q2.out _ hG4.out hr4.out).mono ?_; rintro e w5 ⟨rfl, hb5⟩)
  have hG5 := Lib.hid (hG4.out.below hb5)
  have hs5 := Lib.hid (hs4.out.below hb5)
  have hw5 := Lib.hid (hw4.out.below hb5)
  have hbb5 := b_step hb4 hb5
  clear q2 hG4 hs4 hw4 hr4 hb4
  go_upto_region 8 with (go_at_call 10; refine (q3.out _ hG5.out hs5.out).mono ?_; rintro e w6 ⟨rfl, hb6⟩)
  have hG6 := Lib.hid (hG5.out.below hb6)
  have hw6 := Lib.hid (hw5.out.below hb6)
  have hbb6 := b_step hbb5 hb6
  clear q3 hG5 hs5 hw5 hbb5
  by_cases hc : c = 0 ∧ d = 0
  · rw [if_pos hc] at q4
    obtain ⟨rfl, rfl⟩ := hc
    obtain ⟨rfl, _, hv1⟩ := hp1.out rfl
    obtain ⟨rfl, _, hv2⟩ := hp2.out rfl
    have hcat : Hid ((⟨(textsA l).toArray⟩ : ByteArray) ++ ⟨(textsA r).toArray⟩ = ⟨(textsA (l ++ r)).toArray⟩) := Lib.hid (by rw [bcat, texts_app])
    have hll : (l ++ r).length = n + m := by rw [List.length_append]; omega
    have q5 := Lib.hid (Parse_at (textsA (l ++ r)) (by rw [texts_app, List.length_append]; omega) (l ++ r) 0 0 (print_parse (by omega) fun a hx => (List.mem_append.1 hx).elim (hv1 a) (hv2 a)))
    rw [hll] at q5
    have hs1' : (textsA l).length ≤ 100000 := by omega
    have hs2' : (textsA r).length ≤ 100000 := by omega
    have HC := hcat.out
    clear hp1 hp2 hv1 hv2 hll hs1 hs2 hcat
    generalize textsA (l ++ r) = tlr at *
    generalize textsA l = tl at *
    generalize textsA r = tr at *
    unfold str at q5
    go_upto_region 9 with (go_at_call 10; refine (q4.out _ _ _ hG6.out hw6.out).mono ?_; rintro e w7 ⟨rfl, hb7⟩)
    have hG7 := Lib.hid (hG6.out.below hb7)
    have hw7 := Lib.hid (hw6.out.below hb7)
    have hbb7 := b_step hbb6 hb7
    clear q4 hG6 hw6 hbb6
    go_upto_region 12 with (go_at_call 7; refine (q5.out _ hG7.out).mono ?_; rintro e w8 ⟨C, cp, rfl, hr8, hb8⟩)
    have hw8 := Lib.hid (hw7.out.below hb8)
    have hR8 := Lib.hid hr8
    have hbb8 := b_step hbb7 hb8
    clear hr8 hw7 hG7 q5
    go_wp2_with (go_at_call 9; refine (q6.out _ _ _ _ _ hR8.out hw8.out).mono ?_; rintro e w9 ⟨rfl, hb9⟩)
    go_ret
    exact ⟨rfl, b_step hbb8 hb9⟩
  · rw [if_neg hc] at q4
    clear hp1 hp2 q6
    go_upto_region 9 with (go_at_call 10; refine (q4.out _ _ _ hG6.out hw6.out).mono ?_; rintro e w7 ⟨rfl, hb7⟩)
    have hbb7 := b_step hbb6 hb7
    by_cases hc0 : c = 0
    · have hd : d ≠ 0 := fun e => hc ⟨hc0, e⟩
      subst hc0
      have t3 : ((d : Int) != 0) = true := by simp; omega
      clear hc hd q4
      go_wp2_with fail
      go_ret
      exact ⟨rfl, hbb7⟩
    · have t3 : ((c : Int) != 0) = true := by simp; omega
      clear hc hc0 q4
      go_wp2_with fail
      go_ret
      exact ⟨rfl, hbb7⟩
end Go.Proofs.YtlldjildedbjlaaDoor.ToldW
