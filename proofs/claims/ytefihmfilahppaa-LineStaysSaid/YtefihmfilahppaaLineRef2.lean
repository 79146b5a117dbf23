/- Layer 11's reference, walked: which may be a line. No condition. -/
import Derived.Test.YtefihmfilahppaaLineRef
namespace Go.Proofs.Ytefihmfilahppaa.LineW
open Go.RowKit Go.Proofs.Ytefihmfilahppaa.Com Go.Proofs.Ytefihmfilahppaa.StampW Go.Proofs.Ytefihmfilahppaa.RightsW Go.Proofs.Ytefihmfilahppaa.Ord
set_option linter.unusedVariables false
/-- Is the one ahead not older? -/
def prevB (l : List Req) (k : Nat) (t o : Int) : Bool := match k with
  | 0 => false
  | j + 1 => match l[j]? with
    | none => false
    | some p => !older p.t p.o t o
theorem prevB_zero (l : List Req) (t o : Int) : prevB l 0 t o = false := rfl
theorem prevB_succ (l : List Req) (j : Nat) (t o : Int) (h : j < l.length) : prevB l (j + 1) t o = !older l[j].t l[j].o t o := by
  show (match l[j]? with
    | none => false
    | some p => !older p.t p.o t o) = _
  rw [List.getElem?_eq_getElem h]
theorem wrongB_one (n who : Int) (l : List Req) (k : Nat) (h : k < l.length) : wrongB n who l k = (!oneB n who l[k] || prevB l k l[k].t l[k].o) := by
  unfold wrongB oneB prevB
  rw [List.getElem?_eq_getElem h]
  generalize l[k] = r
  dsimp only
  cases ownB n who r.t r.o <;> cases amB r.am <;> cases k <;> rfl
set_option maxRecDepth 100000 in
set_option maxHeartbeats 1000000 in
theorem RLMay_calls (c : Cfg) (who : Int) (A : Option Addr) (n cap : Nat) (l : List Req) (w : World) (hC : c.C ≤ 9223372036854775807) (hK : c.K ≤ 9223372036854775807) (hr : Reads w 3 A n (cellsR l)) (hn : n ≤ 1000000) :
    Calls Try.prog 34 #[cfgV c, .int .i64 who, .slice A n cap] w fun e w' => e = .returned (.bool (mayL c who l)) ∧ Below w.heap.size w w' := by
  have hll : l.length = n := by have := hr.1; rw [cellsR_len] at this; omega
  have hm : Hid (mayL c who l = (mayC c && (decide (0 ≤ who) && (decide (who < c.N) && (decide ((n : Int) ≤ c.Q) && rightB c.N who l n))))) := Lib.hid (by unfold mayL; rw [hll])
  generalize hb1 : mayC c = b1 at hm
  have q1 := Lib.hid (fun (w : World) => hb1 ▸ RightsW.RMay_calls c w hC hK)
  clear hb1 hC hK
  have q2 := Lib.hid (one_calls c who)
  unfold cfgV at q1 q2 ⊢
  cases b1
  · rw [show mayL c who l = false by rw [hm.out]; rfl]
    clear hm q2
    go_enter Try.func34, Try.ntmps34
    go_wp2_with (go_at_call 51; refine (q1.out _).mono ?_; rintro e w1 ⟨rfl, hb⟩)
    go_ret
    exact ⟨rfl, b_step (by repeat (first | exact b_refl _ | apply b_drew | apply b_drewN | apply b_alloc)) hb⟩
  by_cases g1 : who < 0
  · rw [show mayL c who l = false by rw [hm.out, decide_eq_false (show ¬ 0 ≤ who by omega)]; rfl]
    clear hm q2
    have d1 : decide (who < 0) = true := decide_eq_true g1
    go_enter Try.func34, Try.ntmps34
    go_wp2_with (go_at_call 51; refine (q1.out _).mono ?_; rintro e w1 ⟨rfl, hb⟩)
    go_ret
    exact ⟨rfl, b_step (by repeat (first | exact b_refl _ | apply b_drew | apply b_drewN | apply b_alloc)) hb⟩
  have d1 : decide (who < 0) = false := decide_eq_false g1
  by_cases g2 : c.N ≤ who
  · rw [show mayL c who l = false by rw [hm.out, decide_eq_false (show ¬ who < c.N by omega)]; simp]
    clear hm q2
    have d2 : decide (who ≥ c.N) = true := decide_eq_true g2
    go_enter Try.func34, Try.ntmps34
    go_wp2_with (go_at_call 51; refine (q1.out _).mono ?_; rintro e w1 ⟨rfl, hb⟩; (have z0 := b_keep (a := ⟨w.heap.size, 0, none⟩) (v := .int .i64 c.N) hb (by go_simp)))
    go_ret
    exact ⟨rfl, b_step (by repeat (first | exact b_refl _ | apply b_drew | apply b_drewN | apply b_alloc)) hb⟩
  have d2 : decide (who ≥ c.N) = false := decide_eq_false g2
  by_cases g3 : c.Q < n
  · rw [show mayL c who l = false by rw [hm.out, decide_eq_false (show ¬ (n : Int) ≤ c.Q by omega)]; simp]
    clear hm q2
    have d3 : decide ((n : Int) > c.Q) = true := decide_eq_true g3
    go_enter Try.func34, Try.ntmps34
    go_wp2_with (go_at_call 51; refine (q1.out _).mono ?_; rintro e w1 ⟨rfl, hb⟩; (have z0 := b_keep (a := ⟨w.heap.size, 0, none⟩) (v := .int .i64 c.N) hb (by go_simp); have z1 := b_keep (a := ⟨w.heap.size, 1, none⟩) (v := .int .i64 c.Q) hb (by go_simp)))
    go_ret
    exact ⟨rfl, b_step (by repeat (first | exact b_refl _ | apply b_drew | apply b_drewN | apply b_alloc)) hb⟩
  have d3 : decide ((n : Int) > c.Q) = false := decide_eq_false g3
  have hm2 : Hid (mayL c who l = rightB c.N who l n) := Lib.hid (by
    rw [hm.out, decide_eq_true (show 0 ≤ who by omega), decide_eq_true (show who < c.N by omega), decide_eq_true (show (n : Int) ≤ c.Q by omega)]; rfl)
  clear hm
  go_enter Try.func34, Try.ntmps34
  go_wp2_with (first
    | (go_at_call 51; refine (q1.out _).mono ?_; rintro e w1 ⟨rfl, hb⟩; (have z0 := b_keep (a := ⟨w.heap.size, 0, none⟩) (v := .int .i64 c.N) hb (by go_simp); have z1 := b_keep (a := ⟨w.heap.size, 1, none⟩) (v := .int .i64 c.Q) hb (by go_simp); have z2 := b_keep (a := ⟨w.heap.size, 2, none⟩) (v := .int .i64 c.R) hb (by go_simp); have z3 := b_keep (a := ⟨w.heap.size, 3, none⟩) (v := .int .i64 c.P) hb (by go_simp); have z6 := b_keep (a := ⟨w.heap.size, 4, none⟩) (v := .int .i64 c.K) hb (by go_simp); have z7 := b_keep (a := ⟨w.heap.size, 5, none⟩) (v := .int .i64 c.C) hb (by go_simp))))
  have hb' : Below w.heap.size w w1 := b_step (by repeat (first | exact b_refl _ | apply b_drew | apply b_drewN | apply b_alloc)) hb
  replace hr := hr.below hb'
  go_loopw [7] (fun i wr => ∃ k : Nat, i = .int .i64 k ∧ k ≤ n ∧ Hid (rightB c.N who l k = true) ∧ Below w1.heap.size w1 wr) (fun i _ => n - (intOf i).toNat)
  case atStart => exact ⟨0, rfl, by omega, Lib.hid rfl, b_refl _⟩
  case round =>
    obtain ⟨k, rfl, hk, hq, hbr⟩ := hrel
    by_cases hlt : k < n
    · have hq2 := Lib.hid (rightB_succ c.N who l k)
      have hq3 := Lib.hid (fun (h : wrongB c.N who l k = true) => rightB_false h hlt)
      have hw := Lib.hid (wrongB_one c.N who l k (by omega))
      obtain ⟨ad, rfl, _⟩ := hr.2 (by omega)
      obtain ⟨r0, r1, r2⟩ := Reads.three (hr.below hbr) hlt (by omega)
      replace z0 := b_keep hbr z0
      replace z1 := b_keep hbr z1
      replace z2 := b_keep hbr z2
      replace z3 := b_keep hbr z3
      replace z6 := b_keep hbr z6
      replace z7 := b_keep hbr z7
      have o0 := On.cell z0
      have o1 := On.cell z1
      have o2 := On.cell z2
      have o3 := On.cell z3
      have o4 := On.cell z6
      have o5 := On.cell z7
      have o6 := On.cell r0
      have o7 := On.cell r1
      have o8 := On.cell r2
      generalize hb1 : oneB c.N who l[k] = b1 at hw
      have q3 := Lib.hid (fun (w : World) => hb1 ▸ q2.out l[k] w)
      unfold reqV at q3
      clear hb1 q2
      cases b1
      · have hf : Hid (mayL c who l = false) := Lib.hid (by rw [hm2.out]; exact hq3.out (by rw [hw.out]; rfl))
        clear hq2 hq3 hw
        go_wp2_with fail
        refine wp_region_on (by kernel_rfl) (by kernel_rfl) ?_
        repeat (go_big_quiet_step ((go_at_call 47; with_reducible exact Calls.on (q3.out _))))
        refine wpQuiet_nil ?_
        rintro _ ⟨⟨w2, hb2⟩, rfl⟩
        go_wp2_with fail
        rw [hf.out]
        go_ret
        exact ⟨rfl, b_step (b_step hb' hbr) hb2⟩
      · rcases Nat.eq_zero_or_pos k with hk0 | hk0
        · have hf : Hid (rightB c.N who l (k + 1) = true) := Lib.hid (by rw [hq2.out, hq.out, hw.out]; subst hk0; rfl)
          have ek : decide ((k : Int) > 0) = false := decide_eq_false (by omega)
          have ek2 : decide ((0 : Int) < k) = false := decide_eq_false (by omega)
          have ek3 : decide (0 < k) = false := decide_eq_false (by omega)
          have HK := Lib.hid hk0
          clear hq2 hq3 hw hk0
          go_wp2_with fail
          refine wp_region_on (by kernel_rfl) (by kernel_rfl) ?_
          repeat (go_big_quiet_step ((go_at_call 47; with_reducible exact Calls.on (q3.out _))))
          refine wpQuiet_nil ?_
          rintro _ ⟨⟨w2, hb2⟩, rfl⟩
          go_wp2_with fail
          go_roundw
          case rel => exact ⟨k + 1, by go_num, by omega, hf, b_step hbr hb2⟩
          case measure => simp [intOf]; omega
        · obtain ⟨j, hj⟩ : ∃ j, k = j + 1 := ⟨k - 1, by omega⟩
          obtain ⟨s0, s1, s2⟩ := Reads.three (k := j) (hr.below hbr) (by omega) (by omega)
          have ek : decide ((k : Int) > 0) = true := decide_eq_true (by omega)
          have ek2 : decide ((0 : Int) < k) = true := decide_eq_true (by omega)
          have ek3 : decide (0 < k) = true := decide_eq_true (by omega)
          have ek4 : (k : Int) - 1 = (j : Int) := by omega
          have ek5 : ((k : Int) - 1).toNat = j := by omega
          have o9 := On.cell s0
          have o10 := On.cell s1
          have hw2 : Hid (wrongB c.N who l k = !older l[j].t l[j].o l[k].t l[k].o) := Lib.hid (by
            rw [hw.out]
            clear hw
            subst hj
            rw [prevB_succ l j _ _ (by omega)]
            rfl)
          clear hw s2
          generalize l[j].t = u0 at *
          generalize l[j].o = u1 at *
          generalize l[k].t = t0 at *
          generalize l[k].o = t1 at *
          generalize hb3 : older u0 u1 t0 t1 = b3 at hw2
          have q4 := Lib.hid (fun (w : World) => hb3 ▸ ROlder_calls u0 u1 t0 t1 w)
          clear hb3 hj
          cases b3
          · have hf : Hid (mayL c who l = false) := Lib.hid (by rw [hm2.out]; exact hq3.out (by rw [hw2.out]; rfl))
            clear hq2 hq3 hw2
            go_wp2_with fail
            refine wp_region_on (by kernel_rfl) (by kernel_rfl) ?_
            repeat (go_big_quiet_step (first
              | (go_at_call 47; with_reducible exact Calls.on (q3.out _))
              | (go_at_call 23; with_reducible exact Calls.on (q4.out _))))
            refine wpQuiet_nil ?_
            rintro _ ⟨⟨w2, hb2⟩, rfl⟩
            go_wp2_with fail
            rw [hf.out]
            go_ret
            exact ⟨rfl, b_step (b_step hb' hbr) hb2⟩
          · have hf : Hid (rightB c.N who l (k + 1) = true) := Lib.hid (by rw [hq2.out, hq.out, hw2.out]; rfl)
            clear hq2 hq3 hw2
            go_wp2_with fail
            refine wp_region_on (by kernel_rfl) (by kernel_rfl) ?_
            repeat (go_big_quiet_step (first
              | (go_at_call 47; with_reducible exact Calls.on (q3.out _))
              | (go_at_call 23; with_reducible exact Calls.on (q4.out _))))
            refine wpQuiet_nil ?_
            rintro _ ⟨⟨w2, hb2⟩, rfl⟩
            go_wp2_with fail
            go_roundw
            case rel => exact ⟨k + 1, by go_num, by omega, hf, b_step hbr hb2⟩
            case measure => simp [intOf]; omega
    · have hkn : Hid (mayL c who l = true) := Lib.hid (by
        obtain rfl : k = n := by omega
        rw [hm2.out, hq.out])
      go_wp2_with fail
      rw [hkn.out]
      go_ret
      exact ⟨rfl, b_step hb' hbr⟩
end Go.Proofs.Ytefihmfilahppaa.LineW
