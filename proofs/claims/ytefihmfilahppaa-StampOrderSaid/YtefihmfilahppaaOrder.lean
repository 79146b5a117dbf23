/- The law StampOrder, walked: one theorem a way. No condition. -/
import Derived.Test.YtefihmfilahppaaStamp
namespace Go.Proofs.Ytefihmfilahppaa.StampW
open Go.RowKit Go.Proofs.Ytefihmfilahppaa.Com
set_option linter.unusedVariables false
set_option maxHeartbeats 1000000 in
set_option maxRecDepth 100000 in
theorem order_way0 (a0 a1 b0 b1 c0 c1 n : Int) (hX : older a0 a1 b0 b1 = true) (hY : older b0 b1 a0 a1 = false) (h0 : (a0 == b0) = false) (hZ : older b0 b1 c0 c1 = false) (w : World) :
    Calls Try.prog 6 #[.agg #[.int .i64 a0, .int .i64 a1], .agg #[.int .i64 b0, .int .i64 b1], .agg #[.int .i64 c0, .int .i64 c1], .int .i64 n] w fun e w' => e = .returned (.bool true) ∧ Below w.heap.size w w' := by
  have q1 := Lib.hid (fun w => hX ▸ Older_calls a0 a1 b0 b1 w)
  have q2 := Lib.hid (fun w => hY ▸ Older_calls b0 b1 a0 a1 w)
  have q3 := Lib.hid (fun w => hX ▸ ROlder_calls a0 a1 b0 b1 w)
  have q4 := Lib.hid (fun w => hY ▸ ROlder_calls b0 b1 a0 a1 w)
  have q5 := Lib.hid (fun w => May_calls a0 a1 n w)
  have q6 := Lib.hid (fun w => RMay_calls a0 a1 n w)
  have q7 := Lib.hid (fun w => hZ ▸ Older_calls b0 b1 c0 c1 w)
  clear hX hY hZ
  generalize mayS a0 a1 n = M at q5 q6
  go_enter Try.func6, Try.ntmps6
  go_wp2_with (go_at_call 21; refine (awake_calls _).mono ?_; rintro e w1 ⟨rfl, hb⟩)
  have hb3 : Below w.heap.size w w1 := b_step (by repeat (first | exact b_refl _ | apply b_drew | apply b_drewN | apply b_alloc)) hb
  have k1 : w1.cell? ⟨w.heap.size, 0, none⟩ = some (.int .i64 a0) := b_keep hb (by go_simp)
  have k2 : w1.cell? ⟨w.heap.size, 1, none⟩ = some (.int .i64 a1) := b_keep hb (by go_simp)
  have k3 : w1.cell? ⟨w.heap.size + 1, 0, none⟩ = some (.int .i64 b0) := b_keep hb (by go_simp)
  have k4 : w1.cell? ⟨w.heap.size + 1, 1, none⟩ = some (.int .i64 b1) := b_keep hb (by go_simp)
  have k5 : w1.cell? ⟨w.heap.size + 2, 0, none⟩ = some (.int .i64 c0) := b_keep hb (by go_simp)
  have k6 : w1.cell? ⟨w.heap.size + 2, 1, none⟩ = some (.int .i64 c1) := b_keep hb (by go_simp)
  clear hb
  have o1 := On.cell k1
  have o2 := On.cell k2
  have o3 := On.cell k3
  have o4 := On.cell k4
  refine wp_region_on (by kernel_rfl) (by kernel_rfl) ?_
  repeat (go_big_quiet_step (first
    | (go_at_call 22; with_reducible exact Calls.on (q1.out _))
    | (go_at_call 22; with_reducible exact Calls.on (q2.out _))))
  refine wpQuiet_nil ?_
  rintro _ ⟨⟨w2, hn⟩, rfl⟩
  clear o1 o2 o3 o4
  replace k1 := b_keep hn k1
  replace k2 := b_keep hn k2
  replace k3 := b_keep hn k3
  replace k4 := b_keep hn k4
  replace k5 := b_keep hn k5
  replace k6 := b_keep hn k6
  replace hb3 := b_step hb3 hn
  clear hn
  go_wp2_with fail
  have o1 := On.cell k1
  have o2 := On.cell k2
  have o3 := On.cell k3
  have o4 := On.cell k4
  refine wp_region_on (by kernel_rfl) (by kernel_rfl) ?_
  repeat (go_big_quiet_step (first
    | (go_at_call 23; with_reducible exact Calls.on (q3.out _))
    | (go_at_call 23; with_reducible exact Calls.on (q4.out _))
    | (go_at_call 24; with_reducible exact Calls.on (q5.out _))
    | (go_at_call 25; with_reducible exact Calls.on (q6.out _))))
  refine wpQuiet_nil ?_
  rintro _ ⟨⟨w3, hn⟩, rfl⟩
  clear o1 o2 o3 o4
  replace k1 := b_keep hn k1
  replace k2 := b_keep hn k2
  replace k3 := b_keep hn k3
  replace k4 := b_keep hn k4
  replace k5 := b_keep hn k5
  replace k6 := b_keep hn k6
  replace hb3 := b_step hb3 hn
  clear hn
  go_wp2_with fail
  refine (q7.out _).mono ?_
  rintro e w4 ⟨rfl, hn⟩
  replace hb3 := b_step hb3 hn
  clear hn
  go_wp2_with fail
  go_ret
  exact ⟨rfl, hb3⟩
set_option maxHeartbeats 1000000 in
set_option maxRecDepth 100000 in
theorem order_way1 (a0 a1 b0 b1 c0 c1 n : Int) (hX : older a0 a1 b0 b1 = true) (hY : older b0 b1 a0 a1 = false) (h0 : (a0 == b0) = false) (hZ : older b0 b1 c0 c1 = true) (hV : older a0 a1 c0 c1 = true) (w : World) :
    Calls Try.prog 6 #[.agg #[.int .i64 a0, .int .i64 a1], .agg #[.int .i64 b0, .int .i64 b1], .agg #[.int .i64 c0, .int .i64 c1], .int .i64 n] w fun e w' => e = .returned (.bool true) ∧ Below w.heap.size w w' := by
  have q1 := Lib.hid (fun w => hX ▸ Older_calls a0 a1 b0 b1 w)
  have q2 := Lib.hid (fun w => hY ▸ Older_calls b0 b1 a0 a1 w)
  have q3 := Lib.hid (fun w => hX ▸ ROlder_calls a0 a1 b0 b1 w)
  have q4 := Lib.hid (fun w => hY ▸ ROlder_calls b0 b1 a0 a1 w)
  have q5 := Lib.hid (fun w => May_calls a0 a1 n w)
  have q6 := Lib.hid (fun w => RMay_calls a0 a1 n w)
  have q7 := Lib.hid (fun w => hZ ▸ Older_calls b0 b1 c0 c1 w)
  have q8 := Lib.hid (fun w => hV ▸ Older_calls a0 a1 c0 c1 w)
  clear hX hY hZ hV
  generalize mayS a0 a1 n = M at q5 q6
  go_enter Try.func6, Try.ntmps6
  go_wp2_with (go_at_call 21; refine (awake_calls _).mono ?_; rintro e w1 ⟨rfl, hb⟩)
  have hb3 : Below w.heap.size w w1 := b_step (by repeat (first | exact b_refl _ | apply b_drew | apply b_drewN | apply b_alloc)) hb
  have k1 : w1.cell? ⟨w.heap.size, 0, none⟩ = some (.int .i64 a0) := b_keep hb (by go_simp)
  have k2 : w1.cell? ⟨w.heap.size, 1, none⟩ = some (.int .i64 a1) := b_keep hb (by go_simp)
  have k3 : w1.cell? ⟨w.heap.size + 1, 0, none⟩ = some (.int .i64 b0) := b_keep hb (by go_simp)
  have k4 : w1.cell? ⟨w.heap.size + 1, 1, none⟩ = some (.int .i64 b1) := b_keep hb (by go_simp)
  have k5 : w1.cell? ⟨w.heap.size + 2, 0, none⟩ = some (.int .i64 c0) := b_keep hb (by go_simp)
  have k6 : w1.cell? ⟨w.heap.size + 2, 1, none⟩ = some (.int .i64 c1) := b_keep hb (by go_simp)
  clear hb
  have o1 := On.cell k1
  have o2 := On.cell k2
  have o3 := On.cell k3
  have o4 := On.cell k4
  refine wp_region_on (by kernel_rfl) (by kernel_rfl) ?_
  repeat (go_big_quiet_step (first
    | (go_at_call 22; with_reducible exact Calls.on (q1.out _))
    | (go_at_call 22; with_reducible exact Calls.on (q2.out _))))
  refine wpQuiet_nil ?_
  rintro _ ⟨⟨w2, hn⟩, rfl⟩
  clear o1 o2 o3 o4
  replace k1 := b_keep hn k1
  replace k2 := b_keep hn k2
  replace k3 := b_keep hn k3
  replace k4 := b_keep hn k4
  replace k5 := b_keep hn k5
  replace k6 := b_keep hn k6
  replace hb3 := b_step hb3 hn
  clear hn
  go_wp2_with fail
  have o1 := On.cell k1
  have o2 := On.cell k2
  have o3 := On.cell k3
  have o4 := On.cell k4
  refine wp_region_on (by kernel_rfl) (by kernel_rfl) ?_
  repeat (go_big_quiet_step (first
    | (go_at_call 23; with_reducible exact Calls.on (q3.out _))
    | (go_at_call 23; with_reducible exact Calls.on (q4.out _))
    | (go_at_call 24; with_reducible exact Calls.on (q5.out _))
    | (go_at_call 25; with_reducible exact Calls.on (q6.out _))))
  refine wpQuiet_nil ?_
  rintro _ ⟨⟨w3, hn⟩, rfl⟩
  clear o1 o2 o3 o4
  replace k1 := b_keep hn k1
  replace k2 := b_keep hn k2
  replace k3 := b_keep hn k3
  replace k4 := b_keep hn k4
  replace k5 := b_keep hn k5
  replace k6 := b_keep hn k6
  replace hb3 := b_step hb3 hn
  clear hn
  go_wp2_with fail
  refine (q7.out _).mono ?_
  rintro e w4 ⟨rfl, hn⟩
  replace k1 := b_keep hn k1
  replace k2 := b_keep hn k2
  replace k3 := b_keep hn k3
  replace k4 := b_keep hn k4
  replace k5 := b_keep hn k5
  replace k6 := b_keep hn k6
  replace hb3 := b_step hb3 hn
  clear hn
  go_wp2_with fail
  refine (q8.out _).mono ?_
  rintro e w5 ⟨rfl, hn⟩
  replace hb3 := b_step hb3 hn
  go_wp2_with fail
  go_ret
  exact ⟨rfl, hb3⟩
set_option maxHeartbeats 1000000 in
set_option maxRecDepth 100000 in
theorem order_way2 (a0 a1 b0 b1 c0 c1 n : Int) (hX : older a0 a1 b0 b1 = true) (hY : older b0 b1 a0 a1 = false) (h0 : (a0 == b0) = true) (h1 : (a1 == b1) = false) (hZ : older b0 b1 c0 c1 = false) (w : World) :
    Calls Try.prog 6 #[.agg #[.int .i64 a0, .int .i64 a1], .agg #[.int .i64 b0, .int .i64 b1], .agg #[.int .i64 c0, .int .i64 c1], .int .i64 n] w fun e w' => e = .returned (.bool true) ∧ Below w.heap.size w w' := by
  have q1 := Lib.hid (fun w => hX ▸ Older_calls a0 a1 b0 b1 w)
  have q2 := Lib.hid (fun w => hY ▸ Older_calls b0 b1 a0 a1 w)
  have q3 := Lib.hid (fun w => hX ▸ ROlder_calls a0 a1 b0 b1 w)
  have q4 := Lib.hid (fun w => hY ▸ ROlder_calls b0 b1 a0 a1 w)
  have q5 := Lib.hid (fun w => May_calls a0 a1 n w)
  have q6 := Lib.hid (fun w => RMay_calls a0 a1 n w)
  have q7 := Lib.hid (fun w => hZ ▸ Older_calls b0 b1 c0 c1 w)
  clear hX hY hZ
  generalize mayS a0 a1 n = M at q5 q6
  go_enter Try.func6, Try.ntmps6
  go_wp2_with (go_at_call 21; refine (awake_calls _).mono ?_; rintro e w1 ⟨rfl, hb⟩)
  have hb3 : Below w.heap.size w w1 := b_step (by repeat (first | exact b_refl _ | apply b_drew | apply b_drewN | apply b_alloc)) hb
  have k1 : w1.cell? ⟨w.heap.size, 0, none⟩ = some (.int .i64 a0) := b_keep hb (by go_simp)
  have k2 : w1.cell? ⟨w.heap.size, 1, none⟩ = some (.int .i64 a1) := b_keep hb (by go_simp)
  have k3 : w1.cell? ⟨w.heap.size + 1, 0, none⟩ = some (.int .i64 b0) := b_keep hb (by go_simp)
  have k4 : w1.cell? ⟨w.heap.size + 1, 1, none⟩ = some (.int .i64 b1) := b_keep hb (by go_simp)
  have k5 : w1.cell? ⟨w.heap.size + 2, 0, none⟩ = some (.int .i64 c0) := b_keep hb (by go_simp)
  have k6 : w1.cell? ⟨w.heap.size + 2, 1, none⟩ = some (.int .i64 c1) := b_keep hb (by go_simp)
  clear hb
  have o1 := On.cell k1
  have o2 := On.cell k2
  have o3 := On.cell k3
  have o4 := On.cell k4
  refine wp_region_on (by kernel_rfl) (by kernel_rfl) ?_
  repeat (go_big_quiet_step (first
    | (go_at_call 22; with_reducible exact Calls.on (q1.out _))
    | (go_at_call 22; with_reducible exact Calls.on (q2.out _))))
  refine wpQuiet_nil ?_
  rintro _ ⟨⟨w2, hn⟩, rfl⟩
  clear o1 o2 o3 o4
  replace k1 := b_keep hn k1
  replace k2 := b_keep hn k2
  replace k3 := b_keep hn k3
  replace k4 := b_keep hn k4
  replace k5 := b_keep hn k5
  replace k6 := b_keep hn k6
  replace hb3 := b_step hb3 hn
  clear hn
  go_wp2_with fail
  have o1 := On.cell k1
  have o2 := On.cell k2
  have o3 := On.cell k3
  have o4 := On.cell k4
  refine wp_region_on (by kernel_rfl) (by kernel_rfl) ?_
  repeat (go_big_quiet_step (first
    | (go_at_call 23; with_reducible exact Calls.on (q3.out _))
    | (go_at_call 23; with_reducible exact Calls.on (q4.out _))
    | (go_at_call 24; with_reducible exact Calls.on (q5.out _))
    | (go_at_call 25; with_reducible exact Calls.on (q6.out _))))
  refine wpQuiet_nil ?_
  rintro _ ⟨⟨w3, hn⟩, rfl⟩
  clear o1 o2 o3 o4
  replace k1 := b_keep hn k1
  replace k2 := b_keep hn k2
  replace k3 := b_keep hn k3
  replace k4 := b_keep hn k4
  replace k5 := b_keep hn k5
  replace k6 := b_keep hn k6
  replace hb3 := b_step hb3 hn
  clear hn
  go_wp2_with fail
  refine (q7.out _).mono ?_
  rintro e w4 ⟨rfl, hn⟩
  replace hb3 := b_step hb3 hn
  clear hn
  go_wp2_with fail
  go_ret
  exact ⟨rfl, hb3⟩
set_option maxHeartbeats 1000000 in
set_option maxRecDepth 100000 in
theorem order_way3 (a0 a1 b0 b1 c0 c1 n : Int) (hX : older a0 a1 b0 b1 = true) (hY : older b0 b1 a0 a1 = false) (h0 : (a0 == b0) = true) (h1 : (a1 == b1) = false) (hZ : older b0 b1 c0 c1 = true) (hV : older a0 a1 c0 c1 = true) (w : World) :
    Calls Try.prog 6 #[.agg #[.int .i64 a0, .int .i64 a1], .agg #[.int .i64 b0, .int .i64 b1], .agg #[.int .i64 c0, .int .i64 c1], .int .i64 n] w fun e w' => e = .returned (.bool true) ∧ Below w.heap.size w w' := by
  have q1 := Lib.hid (fun w => hX ▸ Older_calls a0 a1 b0 b1 w)
  have q2 := Lib.hid (fun w => hY ▸ Older_calls b0 b1 a0 a1 w)
  have q3 := Lib.hid (fun w => hX ▸ ROlder_calls a0 a1 b0 b1 w)
  have q4 := Lib.hid (fun w => hY ▸ ROlder_calls b0 b1 a0 a1 w)
  have q5 := Lib.hid (fun w => May_calls a0 a1 n w)
  have q6 := Lib.hid (fun w => RMay_calls a0 a1 n w)
  have q7 := Lib.hid (fun w => hZ ▸ Older_calls b0 b1 c0 c1 w)
  have q8 := Lib.hid (fun w => hV ▸ Older_calls a0 a1 c0 c1 w)
  clear hX hY hZ hV
  generalize mayS a0 a1 n = M at q5 q6
  go_enter Try.func6, Try.ntmps6
  go_wp2_with (go_at_call 21; refine (awake_calls _).mono ?_; rintro e w1 ⟨rfl, hb⟩)
  have hb3 : Below w.heap.size w w1 := b_step (by repeat (first | exact b_refl _ | apply b_drew | apply b_drewN | apply b_alloc)) hb
  have k1 : w1.cell? ⟨w.heap.size, 0, none⟩ = some (.int .i64 a0) := b_keep hb (by go_simp)
  have k2 : w1.cell? ⟨w.heap.size, 1, none⟩ = some (.int .i64 a1) := b_keep hb (by go_simp)
  have k3 : w1.cell? ⟨w.heap.size + 1, 0, none⟩ = some (.int .i64 b0) := b_keep hb (by go_simp)
  have k4 : w1.cell? ⟨w.heap.size + 1, 1, none⟩ = some (.int .i64 b1) := b_keep hb (by go_simp)
  have k5 : w1.cell? ⟨w.heap.size + 2, 0, none⟩ = some (.int .i64 c0) := b_keep hb (by go_simp)
  have k6 : w1.cell? ⟨w.heap.size + 2, 1, none⟩ = some (.int .i64 c1) := b_keep hb (by go_simp)
  clear hb
  have o1 := On.cell k1
  have o2 := On.cell k2
  have o3 := On.cell k3
  have o4 := On.cell k4
  refine wp_region_on (by kernel_rfl) (by kernel_rfl) ?_
  repeat (go_big_quiet_step (first
    | (go_at_call 22; with_reducible exact Calls.on (q1.out _))
    | (go_at_call 22; with_reducible exact Calls.on (q2.out _))))
  refine wpQuiet_nil ?_
  rintro _ ⟨⟨w2, hn⟩, rfl⟩
  clear o1 o2 o3 o4
  replace k1 := b_keep hn k1
  replace k2 := b_keep hn k2
  replace k3 := b_keep hn k3
  replace k4 := b_keep hn k4
  replace k5 := b_keep hn k5
  replace k6 := b_keep hn k6
  replace hb3 := b_step hb3 hn
  clear hn
  go_wp2_with fail
  have o1 := On.cell k1
  have o2 := On.cell k2
  have o3 := On.cell k3
  have o4 := On.cell k4
  refine wp_region_on (by kernel_rfl) (by kernel_rfl) ?_
  repeat (go_big_quiet_step (first
    | (go_at_call 23; with_reducible exact Calls.on (q3.out _))
    | (go_at_call 23; with_reducible exact Calls.on (q4.out _))
    | (go_at_call 24; with_reducible exact Calls.on (q5.out _))
    | (go_at_call 25; with_reducible exact Calls.on (q6.out _))))
  refine wpQuiet_nil ?_
  rintro _ ⟨⟨w3, hn⟩, rfl⟩
  clear o1 o2 o3 o4
  replace k1 := b_keep hn k1
  replace k2 := b_keep hn k2
  replace k3 := b_keep hn k3
  replace k4 := b_keep hn k4
  replace k5 := b_keep hn k5
  replace k6 := b_keep hn k6
  replace hb3 := b_step hb3 hn
  clear hn
  go_wp2_with fail
  refine (q7.out _).mono ?_
  rintro e w4 ⟨rfl, hn⟩
  replace k1 := b_keep hn k1
  replace k2 := b_keep hn k2
  replace k3 := b_keep hn k3
  replace k4 := b_keep hn k4
  replace k5 := b_keep hn k5
  replace k6 := b_keep hn k6
  replace hb3 := b_step hb3 hn
  clear hn
  go_wp2_with fail
  refine (q8.out _).mono ?_
  rintro e w5 ⟨rfl, hn⟩
  replace hb3 := b_step hb3 hn
  go_wp2_with fail
  go_ret
  exact ⟨rfl, hb3⟩
set_option maxHeartbeats 1000000 in
set_option maxRecDepth 100000 in
theorem order_way4 (a0 a1 b0 b1 c0 c1 n : Int) (hX : older a0 a1 b0 b1 = false) (hY : older b0 b1 a0 a1 = true) (h0 : (a0 == b0) = false) (w : World) :
    Calls Try.prog 6 #[.agg #[.int .i64 a0, .int .i64 a1], .agg #[.int .i64 b0, .int .i64 b1], .agg #[.int .i64 c0, .int .i64 c1], .int .i64 n] w fun e w' => e = .returned (.bool true) ∧ Below w.heap.size w w' := by
  have q1 := Lib.hid (fun w => hX ▸ Older_calls a0 a1 b0 b1 w)
  have q2 := Lib.hid (fun w => hY ▸ Older_calls b0 b1 a0 a1 w)
  have q3 := Lib.hid (fun w => hX ▸ ROlder_calls a0 a1 b0 b1 w)
  have q4 := Lib.hid (fun w => hY ▸ ROlder_calls b0 b1 a0 a1 w)
  have q5 := Lib.hid (fun w => May_calls a0 a1 n w)
  have q6 := Lib.hid (fun w => RMay_calls a0 a1 n w)
  clear hX hY
  generalize mayS a0 a1 n = M at q5 q6
  go_enter Try.func6, Try.ntmps6
  go_wp2_with (go_at_call 21; refine (awake_calls _).mono ?_; rintro e w1 ⟨rfl, hb⟩)
  have hb3 : Below w.heap.size w w1 := b_step (by repeat (first | exact b_refl _ | apply b_drew | apply b_drewN | apply b_alloc)) hb
  have k1 : w1.cell? ⟨w.heap.size, 0, none⟩ = some (.int .i64 a0) := b_keep hb (by go_simp)
  have k2 : w1.cell? ⟨w.heap.size, 1, none⟩ = some (.int .i64 a1) := b_keep hb (by go_simp)
  have k3 : w1.cell? ⟨w.heap.size + 1, 0, none⟩ = some (.int .i64 b0) := b_keep hb (by go_simp)
  have k4 : w1.cell? ⟨w.heap.size + 1, 1, none⟩ = some (.int .i64 b1) := b_keep hb (by go_simp)
  have k5 : w1.cell? ⟨w.heap.size + 2, 0, none⟩ = some (.int .i64 c0) := b_keep hb (by go_simp)
  have k6 : w1.cell? ⟨w.heap.size + 2, 1, none⟩ = some (.int .i64 c1) := b_keep hb (by go_simp)
  clear hb
  have o1 := On.cell k1
  have o2 := On.cell k2
  have o3 := On.cell k3
  have o4 := On.cell k4
  refine wp_region_on (by kernel_rfl) (by kernel_rfl) ?_
  repeat (go_big_quiet_step (first
    | (go_at_call 22; with_reducible exact Calls.on (q1.out _))
    | (go_at_call 22; with_reducible exact Calls.on (q2.out _))))
  refine wpQuiet_nil ?_
  rintro _ ⟨⟨w2, hn⟩, rfl⟩
  clear o1 o2 o3 o4
  replace k1 := b_keep hn k1
  replace k2 := b_keep hn k2
  replace k3 := b_keep hn k3
  replace k4 := b_keep hn k4
  replace k5 := b_keep hn k5
  replace k6 := b_keep hn k6
  replace hb3 := b_step hb3 hn
  clear hn
  go_wp2_with fail
  have o1 := On.cell k1
  have o2 := On.cell k2
  have o3 := On.cell k3
  have o4 := On.cell k4
  refine wp_region_on (by kernel_rfl) (by kernel_rfl) ?_
  repeat (go_big_quiet_step (first
    | (go_at_call 23; with_reducible exact Calls.on (q3.out _))
    | (go_at_call 23; with_reducible exact Calls.on (q4.out _))
    | (go_at_call 24; with_reducible exact Calls.on (q5.out _))
    | (go_at_call 25; with_reducible exact Calls.on (q6.out _))))
  refine wpQuiet_nil ?_
  rintro _ ⟨⟨w3, hn⟩, rfl⟩
  clear o1 o2 o3 o4
  replace k1 := b_keep hn k1
  replace k2 := b_keep hn k2
  replace k3 := b_keep hn k3
  replace k4 := b_keep hn k4
  replace k5 := b_keep hn k5
  replace k6 := b_keep hn k6
  replace hb3 := b_step hb3 hn
  clear hn
  go_wp2_with fail
  go_ret
  exact ⟨rfl, hb3⟩
set_option maxHeartbeats 1000000 in
set_option maxRecDepth 100000 in
theorem order_way5 (a0 a1 b0 b1 c0 c1 n : Int) (hX : older a0 a1 b0 b1 = false) (hY : older b0 b1 a0 a1 = true) (h0 : (a0 == b0) = true) (h1 : (a1 == b1) = false) (w : World) :
    Calls Try.prog 6 #[.agg #[.int .i64 a0, .int .i64 a1], .agg #[.int .i64 b0, .int .i64 b1], .agg #[.int .i64 c0, .int .i64 c1], .int .i64 n] w fun e w' => e = .returned (.bool true) ∧ Below w.heap.size w w' := by
  have q1 := Lib.hid (fun w => hX ▸ Older_calls a0 a1 b0 b1 w)
  have q2 := Lib.hid (fun w => hY ▸ Older_calls b0 b1 a0 a1 w)
  have q3 := Lib.hid (fun w => hX ▸ ROlder_calls a0 a1 b0 b1 w)
  have q4 := Lib.hid (fun w => hY ▸ ROlder_calls b0 b1 a0 a1 w)
  have q5 := Lib.hid (fun w => May_calls a0 a1 n w)
  have q6 := Lib.hid (fun w => RMay_calls a0 a1 n w)
  clear hX hY
  generalize mayS a0 a1 n = M at q5 q6
  go_enter Try.func6, Try.ntmps6
  go_wp2_with (go_at_call 21; refine (awake_calls _).mono ?_; rintro e w1 ⟨rfl, hb⟩)
  have hb3 : Below w.heap.size w w1 := b_step (by repeat (first | exact b_refl _ | apply b_drew | apply b_drewN | apply b_alloc)) hb
  have k1 : w1.cell? ⟨w.heap.size, 0, none⟩ = some (.int .i64 a0) := b_keep hb (by go_simp)
  have k2 : w1.cell? ⟨w.heap.size, 1, none⟩ = some (.int .i64 a1) := b_keep hb (by go_simp)
  have k3 : w1.cell? ⟨w.heap.size + 1, 0, none⟩ = some (.int .i64 b0) := b_keep hb (by go_simp)
  have k4 : w1.cell? ⟨w.heap.size + 1, 1, none⟩ = some (.int .i64 b1) := b_keep hb (by go_simp)
  have k5 : w1.cell? ⟨w.heap.size + 2, 0, none⟩ = some (.int .i64 c0) := b_keep hb (by go_simp)
  have k6 : w1.cell? ⟨w.heap.size + 2, 1, none⟩ = some (.int .i64 c1) := b_keep hb (by go_simp)
  clear hb
  have o1 := On.cell k1
  have o2 := On.cell k2
  have o3 := On.cell k3
  have o4 := On.cell k4
  refine wp_region_on (by kernel_rfl) (by kernel_rfl) ?_
  repeat (go_big_quiet_step (first
    | (go_at_call 22; with_reducible exact Calls.on (q1.out _))
    | (go_at_call 22; with_reducible exact Calls.on (q2.out _))))
  refine wpQuiet_nil ?_
  rintro _ ⟨⟨w2, hn⟩, rfl⟩
  clear o1 o2 o3 o4
  replace k1 := b_keep hn k1
  replace k2 := b_keep hn k2
  replace k3 := b_keep hn k3
  replace k4 := b_keep hn k4
  replace k5 := b_keep hn k5
  replace k6 := b_keep hn k6
  replace hb3 := b_step hb3 hn
  clear hn
  go_wp2_with fail
  have o1 := On.cell k1
  have o2 := On.cell k2
  have o3 := On.cell k3
  have o4 := On.cell k4
  refine wp_region_on (by kernel_rfl) (by kernel_rfl) ?_
  repeat (go_big_quiet_step (first
    | (go_at_call 23; with_reducible exact Calls.on (q3.out _))
    | (go_at_call 23; with_reducible exact Calls.on (q4.out _))
    | (go_at_call 24; with_reducible exact Calls.on (q5.out _))
    | (go_at_call 25; with_reducible exact Calls.on (q6.out _))))
  refine wpQuiet_nil ?_
  rintro _ ⟨⟨w3, hn⟩, rfl⟩
  clear o1 o2 o3 o4
  replace k1 := b_keep hn k1
  replace k2 := b_keep hn k2
  replace k3 := b_keep hn k3
  replace k4 := b_keep hn k4
  replace k5 := b_keep hn k5
  replace k6 := b_keep hn k6
  replace hb3 := b_step hb3 hn
  clear hn
  go_wp2_with fail
  go_ret
  exact ⟨rfl, hb3⟩
set_option maxHeartbeats 1000000 in
set_option maxRecDepth 100000 in
theorem order_way6 (a0 a1 b0 b1 c0 c1 n : Int) (hX : older a0 a1 b0 b1 = false) (hY : older b0 b1 a0 a1 = false) (h0 : (a0 == b0) = true) (h1 : (a1 == b1) = true) (w : World) :
    Calls Try.prog 6 #[.agg #[.int .i64 a0, .int .i64 a1], .agg #[.int .i64 b0, .int .i64 b1], .agg #[.int .i64 c0, .int .i64 c1], .int .i64 n] w fun e w' => e = .returned (.bool true) ∧ Below w.heap.size w w' := by
  have q1 := Lib.hid (fun w => hX ▸ Older_calls a0 a1 b0 b1 w)
  have q2 := Lib.hid (fun w => hY ▸ Older_calls b0 b1 a0 a1 w)
  have q3 := Lib.hid (fun w => hX ▸ ROlder_calls a0 a1 b0 b1 w)
  have q4 := Lib.hid (fun w => hY ▸ ROlder_calls b0 b1 a0 a1 w)
  have q5 := Lib.hid (fun w => May_calls a0 a1 n w)
  have q6 := Lib.hid (fun w => RMay_calls a0 a1 n w)
  clear hX hY
  generalize mayS a0 a1 n = M at q5 q6
  go_enter Try.func6, Try.ntmps6
  go_wp2_with (go_at_call 21; refine (awake_calls _).mono ?_; rintro e w1 ⟨rfl, hb⟩)
  have hb3 : Below w.heap.size w w1 := b_step (by repeat (first | exact b_refl _ | apply b_drew | apply b_drewN | apply b_alloc)) hb
  have k1 : w1.cell? ⟨w.heap.size, 0, none⟩ = some (.int .i64 a0) := b_keep hb (by go_simp)
  have k2 : w1.cell? ⟨w.heap.size, 1, none⟩ = some (.int .i64 a1) := b_keep hb (by go_simp)
  have k3 : w1.cell? ⟨w.heap.size + 1, 0, none⟩ = some (.int .i64 b0) := b_keep hb (by go_simp)
  have k4 : w1.cell? ⟨w.heap.size + 1, 1, none⟩ = some (.int .i64 b1) := b_keep hb (by go_simp)
  have k5 : w1.cell? ⟨w.heap.size + 2, 0, none⟩ = some (.int .i64 c0) := b_keep hb (by go_simp)
  have k6 : w1.cell? ⟨w.heap.size + 2, 1, none⟩ = some (.int .i64 c1) := b_keep hb (by go_simp)
  clear hb
  have o1 := On.cell k1
  have o2 := On.cell k2
  have o3 := On.cell k3
  have o4 := On.cell k4
  refine wp_region_on (by kernel_rfl) (by kernel_rfl) ?_
  repeat (go_big_quiet_step (first
    | (go_at_call 22; with_reducible exact Calls.on (q1.out _))
    | (go_at_call 22; with_reducible exact Calls.on (q2.out _))))
  refine wpQuiet_nil ?_
  rintro _ ⟨⟨w2, hn⟩, rfl⟩
  clear o1 o2 o3 o4
  replace k1 := b_keep hn k1
  replace k2 := b_keep hn k2
  replace k3 := b_keep hn k3
  replace k4 := b_keep hn k4
  replace k5 := b_keep hn k5
  replace k6 := b_keep hn k6
  replace hb3 := b_step hb3 hn
  clear hn
  go_wp2_with fail
  have o1 := On.cell k1
  have o2 := On.cell k2
  have o3 := On.cell k3
  have o4 := On.cell k4
  refine wp_region_on (by kernel_rfl) (by kernel_rfl) ?_
  repeat (go_big_quiet_step (first
    | (go_at_call 23; with_reducible exact Calls.on (q3.out _))
    | (go_at_call 23; with_reducible exact Calls.on (q4.out _))
    | (go_at_call 24; with_reducible exact Calls.on (q5.out _))
    | (go_at_call 25; with_reducible exact Calls.on (q6.out _))))
  refine wpQuiet_nil ?_
  rintro _ ⟨⟨w3, hn⟩, rfl⟩
  clear o1 o2 o3 o4
  replace k1 := b_keep hn k1
  replace k2 := b_keep hn k2
  replace k3 := b_keep hn k3
  replace k4 := b_keep hn k4
  replace k5 := b_keep hn k5
  replace k6 := b_keep hn k6
  replace hb3 := b_step hb3 hn
  clear hn
  go_wp2_with fail
  go_ret
  exact ⟨rfl, hb3⟩

theorem order_walk (a0 a1 b0 b1 c0 c1 n : Int) (w : World) :
    Calls Try.prog 6 #[.agg #[.int .i64 a0, .int .i64 a1], .agg #[.int .i64 b0, .int .i64 b1], .agg #[.int .i64 c0, .int .i64 c1], .int .i64 n] w fun e w' => e = .returned (.bool true) ∧ Below w.heap.size w w' := by
  have hz : older b0 b1 c0 c1 = false ∨ older b0 b1 c0 c1 = true := by cases older b0 b1 c0 c1 <;> simp
  have hv : older a0 a1 b0 b1 = true → older b0 b1 c0 c1 = true → older a0 a1 c0 c1 = true := by
    simp only [older, decide_eq_true_eq]
    omega
  rcases Int.lt_trichotomy a0 b0 with h | h | h
  · have hX : older a0 a1 b0 b1 = true := by simp only [older, decide_eq_true_eq]; omega
    have hY : older b0 b1 a0 a1 = false := by simp only [older, decide_eq_false_iff_not]; omega
    have h0 : (a0 == b0) = false := beq_eq_false_iff_ne.2 (by omega)
    rcases hz with hz | hz
    · exact order_way0 a0 a1 b0 b1 c0 c1 n hX hY h0 hz w
    · exact order_way1 a0 a1 b0 b1 c0 c1 n hX hY h0 hz (hv hX hz) w
  · have h0 : (a0 == b0) = true := beq_iff_eq.2 h
    rcases Int.lt_trichotomy a1 b1 with h1 | h1 | h1
    · have hX : older a0 a1 b0 b1 = true := by simp only [older, decide_eq_true_eq]; omega
      have hY : older b0 b1 a0 a1 = false := by simp only [older, decide_eq_false_iff_not]; omega
      have h1 : (a1 == b1) = false := beq_eq_false_iff_ne.2 (by omega)
      rcases hz with hz | hz
      · exact order_way2 a0 a1 b0 b1 c0 c1 n hX hY h0 h1 hz w
      · exact order_way3 a0 a1 b0 b1 c0 c1 n hX hY h0 h1 hz (hv hX hz) w
    · have hX : older a0 a1 b0 b1 = false := by simp only [older, decide_eq_false_iff_not]; omega
      have hY : older b0 b1 a0 a1 = false := by simp only [older, decide_eq_false_iff_not]; omega
      exact order_way6 a0 a1 b0 b1 c0 c1 n hX hY h0 (beq_iff_eq.2 h1) w
    · have hX : older a0 a1 b0 b1 = false := by simp only [older, decide_eq_false_iff_not]; omega
      have hY : older b0 b1 a0 a1 = true := by simp only [older, decide_eq_true_eq]; omega
      exact order_way5 a0 a1 b0 b1 c0 c1 n hX hY h0 (beq_eq_false_iff_ne.2 (by omega)) w
  · have hX : older a0 a1 b0 b1 = false := by simp only [older, decide_eq_false_iff_not]; omega
    have hY : older b0 b1 a0 a1 = true := by simp only [older, decide_eq_true_eq]; omega
    exact order_way4 a0 a1 b0 b1 c0 c1 n hX hY (beq_eq_false_iff_ne.2 (by omega)) w
end Go.Proofs.Ytefihmfilahppaa.StampW
