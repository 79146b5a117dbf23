/- The laws CrcSums, CrcMore, CrcParts, walked. Condition: the table lies in memory as the program lays it. -/
import Derived.Test.YtefihmfilahppaaDoorCrc
import Derived.Deep.DeepCutAuto
import Derived.Lib.SlBytesConst
namespace Go.Proofs.YtefihmfilahppaaDoor.CrcW
open Go.RowKit Go.Proofs.YtefihmfilahppaaDoor.Com Go.Proofs.YtefihmfilahppaaDoor.Crc
set_option linter.unusedVariables false

theorem reads_row {w : World} {g n : Nat} {t : TypeId} {fr : Nat × Nat} {cs : List Value} (h : w.heap[g]? = some (.cells cs.toArray t fr)) (hn : cs.length = n) : Reads w 1 (some ⟨g, 0, none⟩) n cs := by
  refine ⟨by omega, fun _ => ⟨_, rfl, fun j x hx => ?_⟩⟩
  rw [add_plain, cell_of_row w g j cs.toArray t fr h]
  simpa using hx
theorem nine : num (more 0#32 ([49, 50, 51, 52, 53, 54, 55, 56, 57].map bv)) = 3421780262 := by decide +kernel
theorem none_sum : num (more 0#32 (([] : List Int).map bv)) = 0 := by decide +kernel

theorem awake_calls (w : World) (hT : Table w) : Calls Tryd.prog 6 #[] w fun e w' => e = .returned (.bool true) ∧ Below w.heap.size w w' := by
  have HT := Lib.hid hT
  clear hT
  have q1 : ∀ w', Below w.heap.size w w' → Calls Tryd.prog 7 #[.slice none 0 0] w' fun e w'' => e = .returned (.int .u32 0) ∧ w'' = w' := fun w' hb => by
    have := Sum_calls none 0 0 [] w' Reads.none_ (by omega) (by simp) (HT.out.below hb)
    rwa [none_sum] at this
  have q2 : ∀ w', Below w.heap.size w w' → w'.heap[w.heap.size]? = some (.cells #[.int .u8 49, .int .u8 50, .int .u8 51, .int .u8 52, .int .u8 53, .int .u8 54, .int .u8 55, .int .u8 56, .int .u8 57] 5 (9, 10)) → Calls Tryd.prog 7 #[.slice (some ⟨w.heap.size, 0, none⟩) 9 9] w' fun e w'' => e = .returned (.int .u32 3421780262) ∧ w'' = w' := fun w' hb hk => by
    have := Sum_calls (some ⟨w.heap.size, 0, none⟩) 9 9 [49, 50, 51, 52, 53, 54, 55, 56, 57] w' (reads_row (n := 9) hk rfl) (by omega) (by decide) (HT.out.below hb)
    rwa [nine] at this
  have q1 := Lib.hid q1
  have q2 := Lib.hid q2
  have kc := fun (w : World) (C : Array Value) (n c : Nat) => Lib.run_convert_bytes_const (P := Tryd.prog) w 22 5 C n c Tryd.underlying22 Tryd.underlying5
  go_enter Tryd.func6, Tryd.ntmps6
  go_wp2_with (first
    | (go_at_call 7; ((with_reducible refine (q1.out _ ?_).mono ?_); (repeat (first | exact b_refl _ | apply b_drew | apply b_drewN | apply b_alloc)); rintro e w' ⟨rfl, rfl⟩))
    | (go_at_call 7; ((with_reducible refine (q2.out _ ?_ ?_).mono ?_); (repeat (first | exact b_refl _ | apply b_drew | apply b_drewN | apply b_alloc)); exact heap_alloc_new _ _; rintro e w' ⟨rfl, rfl⟩)))
  go_ret
  exact ⟨rfl, by repeat (first | exact b_refl _ | apply b_drew | apply b_drewN | apply b_alloc)⟩

theorem sums_walk (A : Option Addr) (n c : Nat) (xs : List Int) (w : World) (hr : Reads w 1 A n (xs.map fun x => .int .u8 x)) (hn : n ≤ 9223372036854775807)
    (hx : ∀ x ∈ xs, 0 ≤ x ∧ x ≤ 255) (hT : Table w) :
    Calls Tryd.prog 3 #[.slice A n c] w fun e w' => e = .returned (.bool true) ∧ Below w.heap.size w w' := by
  have aw := Lib.hid (awake_calls w hT)
  have q1 := Lib.hid (fun w' (hb : Below w.heap.size w w') => Sum_calls A n c xs w' (hr.below hb) hn hx (hT.below hb))
  have q2 := Lib.hid (fun w' (hb : Below w.heap.size w w') => RSum_calls A n c xs w' (hr.below hb) hn hx)
  generalize num (more 0#32 (xs.map bv)) = v at q1 q2
  clear hr hx hT
  go_enter Tryd.func3, Tryd.ntmps3
  go_wp2_with (first
    | (go_at_call 6; refine aw.out.mono ?_; rintro e w1 ⟨rfl, hb⟩)
    | (go_at_call 7; refine (q1.out _ hb).mono ?_; rintro e w' ⟨rfl, rfl⟩)
    | (go_at_call 8; refine (q2.out _ hb).mono ?_; rintro e w' ⟨rfl, rfl⟩))
  all_goals
    go_ret
    exact ⟨by simp, hb⟩
end Go.Proofs.YtefihmfilahppaaDoor.CrcW
