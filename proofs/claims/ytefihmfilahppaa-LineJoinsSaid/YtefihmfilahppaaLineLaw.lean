/- The law LineJoins, walked. No condition. -/
import Derived.Test.YtefihmfilahppaaLineAw
namespace Go.Proofs.Ytefihmfilahppaa.LineW
open Go.RowKit Go.Proofs.Ytefihmfilahppaa.Com Go.Proofs.Ytefihmfilahppaa.StampW Go.Proofs.Ytefihmfilahppaa.RightsW Go.Proofs.Ytefihmfilahppaa.Ord Go.Proofs.Ytefihmfilahppaa.Tok
set_option linter.unusedVariables false
set_option maxRecDepth 100000 in
set_option maxHeartbeats 2000000 in
theorem joins_walk (c : Cfg) (who : Int) (A : Option Addr) (n cap : Nat) (l : List Req) (r : Req) (w : World) (hC : c.C ≤ 9223372036854775807) (hK : c.K ≤ 9223372036854775807) (hr : Reads w 3 A n (cellsR l)) :
    Calls Try.prog 10 #[cfgV c, .int .i64 who, .slice A n cap, reqV r] w fun e w' => e = .returned (.bool true) ∧ Below w.heap.size w w' := by
  obtain ⟨i0, hi0, hz0, hz1, hz2⟩ := info_parts infoReq
  by_cases hn : n ≤ 100
  · have d0 : decide ((n : Int) > 100) = false := decide_eq_false (by omega)
    have q1 := Lib.hid (Join_calls c who)
    have q2 := Lib.hid (RJoin_calls c who)
    have q3 := Lib.hid (LMay_calls c who)
    have q4 := Lib.hid (RLMay_calls c who)
    have HC := Lib.hid hC
    have HK := Lib.hid hK
    clear hC hK
    unfold cfgV at q1 q2 q3 q4
    unfold reqV at q1 q2
    unfold cfgV reqV
    go_enter Try.func10, Try.ntmps10
    go_wp2_with fail
    refine (awake11 _).mono ?_
    rintro e w1 ⟨rfl, hb⟩
    have z0 := b_keep (a := ⟨w.heap.size, 0, none⟩) (v := .int .i64 c.N) hb (by go_simp)
    have z1 := b_keep (a := ⟨w.heap.size, 1, none⟩) (v := .int .i64 c.Q) hb (by go_simp)
    have z2 := b_keep (a := ⟨w.heap.size, 2, none⟩) (v := .int .i64 c.R) hb (by go_simp)
    have z3 := b_keep (a := ⟨w.heap.size, 3, none⟩) (v := .int .i64 c.P) hb (by go_simp)
    have z4 := b_keep (a := ⟨w.heap.size, 4, none⟩) (v := .int .i64 c.K) hb (by go_simp)
    have z5 := b_keep (a := ⟨w.heap.size, 5, none⟩) (v := .int .i64 c.C) hb (by go_simp)
    have y0 := b_keep (a := ⟨w.heap.size + 1, 0, none⟩) (v := .int .i64 r.t) hb (by go_simp)
    have y1 := b_keep (a := ⟨w.heap.size + 1, 1, none⟩) (v := .int .i64 r.o) hb (by go_simp)
    have y2 := b_keep (a := ⟨w.heap.size + 1, 2, none⟩) (v := .int .i64 r.am) hb (by go_simp)
    have hB : Below w.heap.size w w1 := b_step (b_alloc (b_alloc (b_refl _) _) _) hb
    replace hr := hr.below hB
    clear hb
    go_upto_region 6 with (refine wpList_append_any _ rfl (.tmp 19) (.tmp 20) _ rfl w1.heap.size 49 i0 _ 3 24 Try.underlying47 hi0 hz0 hz1 hz2 rfl (by omega) (.slice (some ⟨w1.heap.size, 0, none⟩) 0 0) 0 [] rfl (own_empty (Blk.new _ _ _) (Nat.le_refl _)) A n cap _ rfl (hr.below (b_alloc (b_refl _) _)) (one_cellsR l) (by simp only [maxLen]; omega) (by omega) (by simp) ?_; intro v1 wa hown hg1 hat1)
    have hb : Below w1.heap.size w1 wa := b_grown (b_alloc (b_refl _) _) hg1 (by simp [Value.ownBlock])
    rw [List.nil_append] at hown
    obtain ⟨A1, c1, rfl⟩ := own_slice hown
    replace hown := Reads.of_own hown
    rw [Nat.zero_add] at hown
    replace z0 := b_keep hb z0
    replace z1 := b_keep hb z1
    replace z2 := b_keep hb z2
    replace z3 := b_keep hb z3
    replace z4 := b_keep hb z4
    replace z5 := b_keep hb z5
    replace y0 := b_keep hb y0
    replace y1 := b_keep hb y1
    replace y2 := b_keep hb y2
    replace hr := hr.below hb
    replace hB := b_step hB hb
    clear hb hg1 hat1 hi0 hz0 hz1 hz2 i0
    simp only [Nat.zero_add]
    go_wp2_with fail
    refine (q1.out _ _ _ _ _ _ hown (by omega)).mono ?_
    rintro e w2 ⟨v2, rfl, hx, hb⟩
    replace z0 := b_keep hb z0
    replace z1 := b_keep hb z1
    replace z2 := b_keep hb z2
    replace z3 := b_keep hb z3
    replace z4 := b_keep hb z4
    replace z5 := b_keep hb z5
    replace y0 := b_keep hb y0
    replace y1 := b_keep hb y1
    replace y2 := b_keep hb y2
    replace hr := hr.below hb
    replace hown := hown.below hb
    replace hB := b_step hB hb
    clear hb q1
    obtain ⟨A2, c2, rfl⟩ := own_slice hx
    replace hx := Reads.of_own hx
    go_wp2_with fail
    refine (q2.out _ _ _ _ _ _ HC.out HK.out hr (by omega)).mono ?_
    rintro e w3 ⟨v3, rfl, hy, hb⟩
    replace z0 := b_keep hb z0
    replace z1 := b_keep hb z1
    replace z2 := b_keep hb z2
    replace z3 := b_keep hb z3
    replace z4 := b_keep hb z4
    replace z5 := b_keep hb z5
    replace y0 := b_keep hb y0
    replace y1 := b_keep hb y1
    replace y2 := b_keep hb y2
    replace hr := hr.below hb
    replace hown := hown.below hb
    replace hx := hx.below hb
    replace hB := b_step hB hb
    clear hb q2
    obtain ⟨A3, c3, rfl⟩ := own_slice hy
    replace hy := Reads.of_own hy
    have hjl : (joinL c who l r).1.length ≤ 101 := by
      have hll : l.length = n := by have := hr.1; rw [cellsR_len] at this; omega
      unfold joinL
      repeat (split; · simp)
      simp; omega
    generalize joinL c who l r = jl at *
    generalize hm : mayL c who l = m
    have q5 := Lib.hid (fun (s : On w3) => hm ▸ q3.out A1 n c1 l s.1 (hown.below s.2) (by omega))
    have q6 := Lib.hid (fun (s : On w3) => hm ▸ q4.out A n cap l s.1 HC.out HK.out (hr.below s.2) (by omega))
    have q7 := Lib.hid (fun (s : On w3) => Same_calls A2 A3 _ _ c2 c3 jl.1 jl.1 s.1 (hx.below s.2) (hy.below s.2) (by omega))
    have q8 := Lib.hid (fun (s : On w3) => Same_calls A1 A _ _ c1 cap l l s.1 (hown.below s.2) (hr.below s.2) (by omega))
    rw [decide_eq_true rfl] at q7 q8
    clear q3 q4 hm
    go_upto_region 8 with fail
    have o0 := On.cell z0
    have o1 := On.cell z1
    have o2 := On.cell z2
    have o3 := On.cell z3
    have o4 := On.cell z4
    have o5 := On.cell z5
    have em : (m == m) = true := beq_self_eq_true _
    have ej : (jl.2 == jl.2) = true := beq_self_eq_true _
    refine wp_region_on (by kernel_rfl) (by kernel_rfl) ?_
    repeat (go_big_quiet_step (first
      | (go_at_call 33; with_reducible exact Calls.on (q5.out _))
      | (go_at_call 34; with_reducible exact Calls.on (q6.out _))
      | (go_at_call 35; with_reducible exact Calls.on (q7.out _))
      | (go_at_call 35; with_reducible exact Calls.on (q8.out _))))
    refine wpQuiet_nil ?_
    rintro _ ⟨⟨w4, hb4⟩, rfl⟩
    go_wp2_with fail
    go_ret
    exact ⟨rfl, b_step hB hb4⟩
  · have d0 : decide ((n : Int) > 100) = true := decide_eq_true (by omega)
    unfold cfgV reqV
    go_enter Try.func10, Try.ntmps10
    go_wp2_with (first | (go_at_call 30; refine (awake11 _).mono ?_; rintro e w1 ⟨rfl, hb⟩))
    go_ret
    exact ⟨rfl, b_step (b_alloc (b_alloc (b_refl _) _) _) hb⟩
end Go.Proofs.Ytefihmfilahppaa.LineW
