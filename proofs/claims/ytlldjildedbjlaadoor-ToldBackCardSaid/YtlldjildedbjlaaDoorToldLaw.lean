/- The told laws, walked. Condition: the listed variables hold what the text lays. -/
import Derived.Test.YtlldjildedbjlaaDoorToldI
namespace Go.Proofs.YtlldjildedbjlaaDoor.ToldW
open Go.RowKit Go.Proofs.YtlldjildedbjlaaDoor.Com Go.Proofs.YtlldjildedbjlaaDoor.Ord Go.Proofs.YtlldjildedbjlaaDoor.ToldP
set_option linter.unusedVariables false
theorem same_refl (A B : Option Addr) (n cap cap2 : Nat) (l : List DoA) (hl : l.length = n) (w : World) (hA : Reads w 7 A n (cellsAs l)) (hB : Reads w 7 B n (cellsAs l)) (hn : n ≤ 1000000) :
    Calls Tryd.prog 9 #[.slice A n cap, .slice B n cap2] w fun e w' => e = .returned (.bool true) ∧ Below w.heap.size w w' := by
  refine (Same_calls A B n n cap cap2 l l hl hl w hA hB hn hn).mono ?_
  rintro e w' ⟨rfl, hb⟩
  exact ⟨by simp, hb⟩
set_option maxRecDepth 100000 in
set_option maxHeartbeats 1000000 in
theorem parses_walk (s : List UInt8) (w : World) (hG : Glob w) : Calls Tryd.prog 3 #[str s] w fun e w' => e = .returned (.bool true) ∧ Below w.heap.size w w' := by
  have q1 := Lib.hid (awake_calls w hG)
  unfold str
  by_cases h3 : 3000 < s.length
  · have t1 : (3000 : Int) < (s.length : Int) := by omega
    clear h3
    go_enter Tryd.func3, Tryd.ntmps3
    go_wp2_with (go_at_call 6; refine q1.out.mono ?_; rintro e w1 ⟨rfl, hb1⟩)
    go_ret
    exact ⟨rfl, hb1⟩
  have t1 : ¬ (3000 : Int) < (s.length : Int) := by omega
  have hlen := parse_len s
  obtain ⟨⟨l, n, c⟩, hp⟩ : ∃ x, parseP s = x := ⟨_, rfl⟩
  have q2 := Lib.hid (Parse_at s (by omega) l n c hp)
  have q3 := Lib.hid (RParse_at s (by omega) l n c hp)
  have hpp : Hid (c = 0 → printP l = (s, 0)) := Lib.hid (fun hc => by subst hc; exact (parse_print hp).2.1)
  rw [hp] at hlen
  have hll : l.length ≤ 400 := hlen.1
  have HA := Lib.hid (show ∀ a ∈ l, Arg a from fun a ha => arg_of (hlen.2 a ha))
  have q5 := Lib.hid (fun A cap w hG hr => Print_calls A l.length cap l rfl HA.out w hG hr (by omega))
  have q4 := Lib.hid (fun A B cap cap2 w hA hB => same_refl A B l.length cap cap2 l rfl w hA hB (by omega))
  clear hlen hp h3
  unfold str at q2 q3 q5
  go_enter Tryd.func3, Tryd.ntmps3
  go_upto_region 5 with (go_at_call 6; refine q1.out.mono ?_; rintro e w1 ⟨rfl, hb1⟩)
  have hG1 := Lib.hid (hG.below hb1)
  clear q1
  go_upto_region 6 with (go_at_call 7; refine (q2.out _ hG1.out).mono ?_; rintro e w2 ⟨A, cp, rfl, hr1, hb2⟩)
  have hG2 := Lib.hid (hG1.out.below hb2)
  clear q2
  go_upto_region 7 with (go_at_call 8; refine (q3.out _).mono ?_; rintro e w3 ⟨B, cp2, rfl, hr2, hb3⟩)
  have hG3 := Lib.hid (hG2.out.below hb3)
  have hr1' := Lib.hid (hr1.below hb3)
  have hb13 := b_step (b_step hb1 hb2) hb3
  clear q3
  by_cases hc : c = 0
  · subst hc
    rw [hpp.out rfl] at q5
    go_upto_region 11 with (go_at_call 9; refine (q4.out _ _ _ _ _ hr1'.out hr2).mono ?_; rintro e w4 ⟨rfl, hb4⟩)
    have hr3 := Lib.hid (hr1'.out.below hb4)
    have hG4 := Lib.hid (hG3.out.below hb4)
    go_wp2_with (go_at_call 10; refine (q5.out _ _ _ hG4.out hr3.out).mono ?_; rintro e w5 ⟨rfl, hb5⟩)
    go_ret
    exact ⟨rfl, b_step (b_step hb13 hb4) hb5⟩
  · have t2 : ((c : Int) == 0) = false := by simp; omega
    have t3 : ((c : Int) != 0) = true := by simp; omega
    clear hc hpp q5
    go_wp2_with (go_at_call 9; refine (q4.out _ _ _ _ _ hr1'.out hr2).mono ?_; rintro e w4 ⟨rfl, hb4⟩)
    go_ret
    exact ⟨rfl, b_step hb13 hb4⟩
set_option maxRecDepth 100000 in
set_option maxHeartbeats 1000000 in
theorem back_walk (A : Option Addr) (n cap : Nat) (l : List DoA) (w : World) (hG : Glob w) (hl : l.length = n) (ha : ∀ a ∈ l, Arg a) (hr : Reads w 7 A n (cellsAs l)) : Calls Tryd.prog 4 #[.slice A n cap] w fun e w' => e = .returned (.bool true) ∧ Below w.heap.size w w' := by
  have q1 := Lib.hid (awake_calls w hG)
  by_cases h3 : 420 < n
  · have t1 : (420 : Int) < (n : Int) := by omega
    clear h3
    go_enter Tryd.func4, Tryd.ntmps4
    go_wp2_with (go_at_call 6; refine q1.out.mono ?_; rintro e w1 ⟨rfl, hb1⟩)
    go_ret
    exact ⟨rfl, hb1⟩
  have t1 : ¬ (420 : Int) < (n : Int) := by omega
  have HA := Lib.hid ha
  have hn : n ≤ 1000000 := by omega
  have q2 := Lib.hid (fun w hG hr => Print_calls A n cap l hl HA.out w hG hr hn)
  have q3 := Lib.hid (fun w hr => RPrint_calls A n cap l hl HA.out w hr hn)
  have q4 := Lib.hid (fun A B cap cap2 w hA hB => same_refl A B n cap cap2 l hl w hA hB hn)
  have hpp : Hid ((printP l).2 = 0 → (printP l).1 = textsA l ∧ l.length ≤ 400 ∧ ∀ a ∈ l, Valid a) := Lib.hid (print_some ha)
  have hsl := texts_len l ha
  unfold str at q2 q3
  generalize printP l = pr at *
  obtain ⟨t, c⟩ := pr
  dsimp only at q2 q3 hpp
  clear ha h3
  go_enter Tryd.func4, Tryd.ntmps4
  go_upto_region 5 with (go_at_call 6; refine q1.out.mono ?_; rintro e w1 ⟨rfl, hb1⟩)
  have hG1 := Lib.hid (hG.below hb1)
  have hr1 := Lib.hid (hr.below hb1)
  clear q1
  go_upto_region 6 with (go_at_call 10; refine (q2.out _ hG1.out hr1.out).mono ?_; rintro e w2 ⟨rfl, hb2⟩)
  have hG2 := Lib.hid (hG1.out.below hb2)
  have hr2 := Lib.hid (hr1.out.below hb2)
  clear q2
  go_upto_region 7 with (go_at_call 11; refine (q3.out _ hr2.out).mono ?_; rintro e w3 ⟨rfl, hb3⟩)
  have hG3 := Lib.hid (hG2.out.below hb3)
  have hr3 := Lib.hid (hr2.out.below hb3)
  have hb13 := b_step (b_step hb1 hb2) hb3
  clear q3
  by_cases hc : c = 0
  · obtain ⟨h1, h2, h3⟩ := hpp.out hc
    subst hc
    subst h1
    subst hl
    have q5 := Lib.hid (Parse_at (textsA l) (by omega) l 0 0 (print_parse h2 h3))
    generalize textsA l = t at *
    unfold str at q5
    clear hpp h2 h3
    go_upto_region 12 with (go_at_call 7; refine (q5.out _ hG3.out).mono ?_; rintro e w4 ⟨B, cp, rfl, hr4, hb4⟩)
    have hr5 := Lib.hid (hr3.out.below hb4)
    go_wp2_with (go_at_call 9; refine (q4.out _ _ _ _ _ hr4 hr5.out).mono ?_; rintro e w5 ⟨rfl, hb5⟩)
    go_ret
    exact ⟨rfl, b_step (b_step hb13 hb4) hb5⟩
  · have t2 : ((c : Int) == 0) = false := by simp; omega
    have t3 : ((c : Int) != 0) = true := by simp; omega
    clear hc hpp
    go_wp2_with fail
    go_ret
    exact ⟨rfl, hb13⟩
end Go.Proofs.YtlldjildedbjlaaDoor.ToldW
