/- The law StampOldest, walked. No condition. -/
import Derived.Test.YtefihmfilahppaaOldest
namespace Go.Proofs.Ytefihmfilahppaa.StampW
open Go.RowKit Go.Proofs.Ytefihmfilahppaa.Com
set_option linter.unusedVariables false
theorem oldest_walk (A : Option Addr) (n c : Nat) (l : List (Int × Int)) (w : World) (hr : Reads w 2 A n (cellsS l)) (hm : n ≤ 9223372036854775807) :
    Calls Try.prog 8 #[.slice A n c] w fun e w' => e = .returned (.bool true) ∧ Below w.heap.size w w' := by
  by_cases hn : n ≤ 1000
  · have c1 := Oldest_calls A n c l
    have c2 := ROldest_calls A n c l
    generalize leastOf l = o at c1 c2
    have c1 := Lib.hid c1
    have c2 := Lib.hid c2
    go_enter Try.func8, Try.ntmps8
    go_wp2_with (go_at_call 21; refine (awake_calls _).mono ?_; rintro e w1 ⟨rfl, hb1⟩)
    replace hr := hr.below hb1
    refine (c1.out _ hr (by omega)).mono ?_
    rintro e w2 ⟨rfl, hb2⟩
    replace hr := hr.below (b_alloc hb2 (.cells #[.int .i64 o.1, .int .i64 o.2] 30))
    replace hb1 := b_step hb1 hb2
    clear hb2
    go_wp2_with fail
    refine (c2.out _ hr (by omega)).mono ?_
    rintro e w3 ⟨rfl, hb3⟩
    have z := (Blk.new w2 30 #[.int .i64 o.1, .int .i64 o.2]).below hb3
    have e0 := z.cell 0
    have e1 := z.cell 1
    have hz := z.lt
    simp only [List.getElem?_toArray, List.getElem?_cons_zero, List.getElem?_cons_succ] at e0 e1
    replace hb1 := b_step (b_alloc hb1 _) hb3
    clear hb3 hr
    go_wp2_with fail
    go_ret
    exact ⟨rfl, b_alloc hb1 _⟩
  · go_enter Try.func8, Try.ntmps8
    go_wp2_with (go_at_call 21; refine (awake_calls _).mono ?_; rintro e w1 ⟨rfl, hb1⟩)
    go_ret
    exact ⟨rfl, hb1⟩
end Go.Proofs.Ytefihmfilahppaa.StampW
