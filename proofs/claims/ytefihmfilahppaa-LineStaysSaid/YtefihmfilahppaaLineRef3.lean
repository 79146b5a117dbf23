/- Layer 11's reference, walked: one more waits. No condition. -/
import Derived.Test.YtefihmfilahppaaLineRef2
import Derived.Test.YtefihmfilahppaaTok2
import Derived.Deep.DeepCutAuto
namespace Go.Proofs.Ytefihmfilahppaa.LineW
open Go.RowKit Go.Proofs.Ytefihmfilahppaa.Com Go.Proofs.Ytefihmfilahppaa.StampW Go.Proofs.Ytefihmfilahppaa.RightsW Go.Proofs.Ytefihmfilahppaa.Ord Go.Proofs.Ytefihmfilahppaa.Tok
set_option linter.unusedVariables false
theorem wrongB_app (n who : Int) (l : List Req) (r : Req) (k : Nat) (h : k < l.length) : wrongB n who (l ++ [r]) k = wrongB n who l k := by
  rw [wrongB_one n who l k h, wrongB_one n who (l ++ [r]) k (by simp; omega), List.getElem_append_left h]
  cases k with
  | zero => rfl
  | succ k => rw [prevB_succ l k _ _ (by omega), prevB_succ (l ++ [r]) k _ _ (by simp; omega), List.getElem_append_left (by omega)]
theorem rightB_app (n who : Int) (l : List Req) (r : Req) (k : Nat) (h : k ≤ l.length) : rightB n who (l ++ [r]) k = rightB n who l k := by
  induction k with
  | zero => rfl
  | succ k ih => rw [rightB_succ, rightB_succ, ih (by omega), wrongB_app n who l r k (by omega)]
/-- The last one, and one more. -/
def lastB (l : List Req) (t o : Int) : Bool := prevB l l.length t o
theorem lastB_pos (l : List Req) (t o : Int) (j : Nat) (hj : j + 1 = l.length) : lastB l t o = !older (l[j]'(by omega)).t (l[j]'(by omega)).o t o := by
  have h := prevB_succ l j t o (by omega)
  rw [hj] at h
  exact h
theorem mayL_snoc {c : Cfg} {who : Int} {l : List Req} (r : Req) (h : mayL c who l = true) (hq : (l.length : Int) < c.Q) : mayL c who (l ++ [r]) = (oneB c.N who r && !lastB l r.t r.o) := by
  unfold mayL at h ⊢
  simp only [Bool.and_eq_true, decide_eq_true_eq] at h
  obtain ⟨h1, h2, h3, h4, h5⟩ := h
  rw [h1, decide_eq_true h2, decide_eq_true h3, show (l ++ [r]).length = l.length + 1 by simp, decide_eq_true (show ((l.length + 1 : Nat) : Int) ≤ c.Q by omega), rightB_succ, rightB_app _ _ _ _ _ (Nat.le_refl _), h5, wrongB_one _ _ _ _ (by simp)]
  have e : (l ++ [r])[l.length]'(by simp) = r := by simp
  rw [e]
  have e2 : prevB (l ++ [r]) l.length r.t r.o = lastB l r.t r.o := by
    unfold lastB
    cases hl : l.length with
    | zero => rfl
    | succ k => rw [prevB_succ _ k _ _ (by simp; omega), prevB_succ l k _ _ (by omega), List.getElem_append_left (by omega)]
  rw [e2]
  cases oneB c.N who r <;> cases lastB l r.t r.o <;> rfl
theorem mayL_len {c : Cfg} {who : Int} {l : List Req} (h : mayL c who l = true) : (l.length : Int) ≤ c.Q := by
  unfold mayL at h
  simp only [Bool.and_eq_true, decide_eq_true_eq] at h
  exact h.2.2.2.1
theorem run_litR (ρ : Operand → Value) (d : Option Tmp) (x : Operand) (ty : TypeId) (pos : String) (af : Array Edge) (a b c : Int) (w : World) (hx : ρ x = .agg #[.int .i64 a, .int .i64 b, .int .i64 c]) :
    (execOp ρ { dst := d, op := .buildSlice 47 1 #[(0, x)], type := ty, pos := pos, after := af, guard := none }).run Try.prog w = .ok (.value (.slice (some ⟨w.heap.size, 0, none⟩) 1 1)) (w.alloc (.cells #[.int .i64 a, .int .i64 b, .int .i64 c] 49)) := by
  go_simp
theorem run_loadR (ρ : Operand → Value) (d : Option Tmp) (x : Operand) (ty : TypeId) (pos : String) (af : Array Edge) (g : Nat) (a b c : Int) (w : World) (hx : ρ x = .pointer (some ⟨g, 0, none⟩))
    (h0 : w.cell? ⟨g, 0, none⟩ = some (.int .i64 a)) (h1 : w.cell? ⟨g, 1, none⟩ = some (.int .i64 b)) (h2 : w.cell? ⟨g, 2, none⟩ = some (.int .i64 c)) :
    (execOp ρ { dst := d, op := .load 49 x, type := ty, pos := pos, after := af, guard := none }).run Try.prog w = .ok (.value (.agg #[.int .i64 a, .int .i64 b, .int .i64 c])) w := by
  go_simp
set_option maxRecDepth 100000 in
set_option maxHeartbeats 1000000 in
theorem RJoin_calls (c : Cfg) (who : Int) (A : Option Addr) (n cap : Nat) (l : List Req) (r : Req) (w : World) (hC : c.C ≤ 9223372036854775807) (hK : c.K ≤ 9223372036854775807) (hr : Reads w 3 A n (cellsR l)) (hn : n ≤ 1000) :
    Calls Try.prog 32 #[cfgV c, .int .i64 who, .slice A n cap, reqV r] w fun e w' => ∃ v, e = .returned (.tuple #[v, .int .i64 (joinL c who l r).2]) ∧ w'.ownsRow w.heap.size 49 3 v (joinL c who l r).1.length (cellsR (joinL c who l r).1) ∧ Below w.heap.size w w' := by
  obtain ⟨i0, hi0, hz0, hz1, hz2⟩ := info_parts infoReq
  have hll : l.length = n := by have := hr.1; rw [cellsR_len] at this; omega
  have hj : Hid (joinL c who l r = if mayL c who l = false then ([], 1) else if amB r.am = false then ([], 2) else if (n : Int) = c.Q then ([], 3) else if mayL c who (l ++ [r]) = false then ([], 1) else (l ++ [r], 0)) := Lib.hid (by unfold joinL; rw [hll])
  have hj5 : Hid (mayL c who l = true → (n : Int) < c.Q → mayL c who (l ++ [r]) = (oneB c.N who r && !lastB l r.t r.o)) := Lib.hid (fun h1 h2 => mayL_snoc r h1 (by omega))
  have hj6 : Hid (mayL c who l = true → (n : Int) ≤ c.Q) := Lib.hid (fun h1 => by have := mayL_len h1; omega)
  generalize hb1 : mayL c who l = b1 at hj hj5 hj6
  have q1 := Lib.hid (fun (w : World) (hr : Reads w 3 A n (cellsR l)) => hb1 ▸ RLMay_calls c who A n cap l w hC hK hr (by omega))
  clear hb1
  unfold cfgV at q1
  unfold cfgV reqV
  have hr1 := hr
  cases b1
  · rw [show joinL c who l r = ([], 1) by rw [hj.out]; rfl]
    clear hj hj5 hj6
    go_enter Try.func32, Try.ntmps32
    go_wp2_with (go_at_call 34; refine (q1.out _ (hr1.below (b_alloc (b_alloc (b_refl _) _) _))).mono ?_; rintro e w1 ⟨rfl, hb⟩)
    refine bodyPost_ret (v := .tuple #[.slice none 0 0, .int .i64 1]) (by simp [results, Try.results32, go_sem]) rfl ⟨_, rfl, own_none _ _ _ _, ?_⟩
    exact b_step (b_alloc (b_alloc (b_refl _) _) _) hb
  have hQ : (n : Int) ≤ c.Q := hj6.out rfl
  cases hb2 : amB r.am
  · rw [show joinL c who l r = ([], 2) by rw [hj.out, hb2]; rfl]
    clear hj hj5 hj6
    simp only [amB, decide_eq_false_iff_not] at hb2
    by_cases g1 : r.am < 1
    · have e1 : decide (r.am < 1) = true := decide_eq_true g1
      clear g1 hb2
      go_enter Try.func32, Try.ntmps32
      go_wp2_with (first | (go_at_call 34; refine (q1.out _ (hr1.below (b_alloc (b_alloc (b_refl _) _) _))).mono ?_; rintro e w1 ⟨rfl, hb⟩; (have y2 := b_keep (a := ⟨w.heap.size + 1, 2, none⟩) (v := .int .i64 r.am) hb (by go_simp))))
      refine bodyPost_ret (v := .tuple #[.slice none 0 0, .int .i64 2]) (by simp [results, Try.results32, go_sem]) rfl ⟨_, rfl, own_none _ _ _ _, ?_⟩
      exact b_step (b_alloc (b_alloc (b_refl _) _) _) hb
    · have e1 : decide (r.am < 1) = false := decide_eq_false g1
      have e2 : decide (r.am > 1099511627776) = true := decide_eq_true (by omega)
      clear g1 hb2
      go_enter Try.func32, Try.ntmps32
      go_wp2_with (first | (go_at_call 34; refine (q1.out _ (hr1.below (b_alloc (b_alloc (b_refl _) _) _))).mono ?_; rintro e w1 ⟨rfl, hb⟩; (have y2 := b_keep (a := ⟨w.heap.size + 1, 2, none⟩) (v := .int .i64 r.am) hb (by go_simp))))
      refine bodyPost_ret (v := .tuple #[.slice none 0 0, .int .i64 2]) (by simp [results, Try.results32, go_sem]) rfl ⟨_, rfl, own_none _ _ _ _, ?_⟩
      exact b_step (b_alloc (b_alloc (b_refl _) _) _) hb
  have hjj : Hid (joinL c who l r = if (n : Int) = c.Q then ([], 3) else if mayL c who (l ++ [r]) = false then ([], 1) else (l ++ [r], 0)) := Lib.hid (by rw [hj.out, hb2]; rfl)
  clear hj
  simp only [amB, decide_eq_true_eq] at hb2
  have e1 : decide (r.am < 1) = false := decide_eq_false (by omega)
  have e2 : decide (r.am > 1099511627776) = false := decide_eq_false (by omega)
  clear hb2
  by_cases g3 : (n : Int) = c.Q
  · rw [show joinL c who l r = ([], 3) by rw [hjj.out, if_pos g3]]
    have e3 : decide ((n : Int) ≥ c.Q) = true := decide_eq_true (by omega)
    clear hjj hj5 hj6 g3
    go_enter Try.func32, Try.ntmps32
    go_wp2_with (first | (go_at_call 34; refine (q1.out _ (hr1.below (b_alloc (b_alloc (b_refl _) _) _))).mono ?_; rintro e w1 ⟨rfl, hb⟩; (have z1 := b_keep (a := ⟨w.heap.size, 1, none⟩) (v := .int .i64 c.Q) hb (by go_simp); have y2 := b_keep (a := ⟨w.heap.size + 1, 2, none⟩) (v := .int .i64 r.am) hb (by go_simp))))
    refine bodyPost_ret (v := .tuple #[.slice none 0 0, .int .i64 3]) (by simp [results, Try.results32, go_sem]) rfl ⟨_, rfl, own_none _ _ _ _, ?_⟩
    exact b_step (b_alloc (b_alloc (b_refl _) _) _) hb
  have e3 : decide ((n : Int) ≥ c.Q) = false := decide_eq_false (by omega)
  have hjk : Hid (joinL c who l r = if (oneB c.N who r && !lastB l r.t r.o) = false then ([], 1) else (l ++ [r], 0)) := Lib.hid (by rw [hjj.out, if_neg g3, hj5.out rfl (by omega)])
  clear hjj hj5 hj6 g3
  have q2 := Lib.hid (one_calls c who)
  unfold cfgV at q2
  go_enter Try.func32, Try.ntmps32
  go_upto_region 7 with (first | (go_at_call 34; refine (q1.out _ (hr1.below (b_alloc (b_alloc (b_refl _) _) _))).mono ?_; rintro e w1 ⟨rfl, hb⟩; (have z0 := b_keep (a := ⟨w.heap.size, 0, none⟩) (v := .int .i64 c.N) hb (by go_simp); have z1 := b_keep (a := ⟨w.heap.size, 1, none⟩) (v := .int .i64 c.Q) hb (by go_simp); have z2 := b_keep (a := ⟨w.heap.size, 2, none⟩) (v := .int .i64 c.R) hb (by go_simp); have z3 := b_keep (a := ⟨w.heap.size, 3, none⟩) (v := .int .i64 c.P) hb (by go_simp); have z4 := b_keep (a := ⟨w.heap.size, 4, none⟩) (v := .int .i64 c.K) hb (by go_simp); have z5 := b_keep (a := ⟨w.heap.size, 5, none⟩) (v := .int .i64 c.C) hb (by go_simp); have y0 := b_keep (a := ⟨w.heap.size + 1, 0, none⟩) (v := .int .i64 r.t) hb (by go_simp); have y1 := b_keep (a := ⟨w.heap.size + 1, 1, none⟩) (v := .int .i64 r.o) hb (by go_simp); have y2 := b_keep (a := ⟨w.heap.size + 1, 2, none⟩) (v := .int .i64 r.am) hb (by go_simp))))
  have hb' : Below w.heap.size w w1 := b_step (b_alloc (b_alloc (b_refl _) _) _) hb
  replace hr := hr.below hb'
  have o0 := On.cell z0
  have o1 := On.cell z1
  have o2 := On.cell z2
  have o3 := On.cell z3
  have o4 := On.cell z4
  have o5 := On.cell z5
  have o6 := On.cell y0
  have o7 := On.cell y1
  have o8 := On.cell y2
  generalize hb3 : oneB c.N who r = b3 at hjk
  have q3 := Lib.hid (fun (w : World) => hb3 ▸ q2.out r w)
  unfold reqV at q3
  clear hb3 q2 hr1
  cases b3
  · have hjl : Hid (joinL c who l r = ([], 1)) := Lib.hid (by rw [hjk.out]; rfl)
    clear hjk
    refine wp_region_on (by kernel_rfl) (by kernel_rfl) ?_
    repeat (go_big_quiet_step ((go_at_call 47; with_reducible exact Calls.on (q3.out _))))
    refine wpQuiet_nil ?_
    rintro _ ⟨⟨w2, hb2⟩, rfl⟩
    go_wp2_with fail
    rw [hjl.out]
    refine bodyPost_ret (v := .tuple #[.slice none 0 0, .int .i64 1]) (by simp [results, Try.results32, go_sem]) rfl ⟨_, rfl, own_none _ _ _ _, ?_⟩
    exact b_step hb' hb2
  go_cut [50] (fun s50 wx => s50 = .bool (lastB l r.t r.o) ∧ Below w1.heap.size w1 wx)
  case first =>
    rcases Nat.eq_zero_or_pos n with h0 | h0
    · have hl : Hid (lastB l r.t r.o = false) := Lib.hid (by unfold lastB; rw [hll, h0]; rfl)
      have e4 : decide ((n : Int) > 0) = false := decide_eq_false (by omega)
      have e5 : decide (0 < n) = false := decide_eq_false (by omega)
      clear h0
      refine wp_region_on (by kernel_rfl) (by kernel_rfl) ?_
      repeat (go_big_quiet_step ((go_at_call 47; with_reducible exact Calls.on (q3.out _))))
      refine wpQuiet_nil ?_
      rintro _ ⟨⟨w2, hb2⟩, rfl⟩
      go_wp2_with fail
      go_meet
      case rel => exact ⟨by rw [hl.out], hb2⟩
    · obtain ⟨j, hj⟩ : ∃ j, n = j + 1 := ⟨n - 1, by omega⟩
      obtain ⟨ad, rfl, _⟩ := hr.2 h0
      obtain ⟨s0, s1, s2⟩ := Reads.three (k := j) hr (by omega) (by omega)
      have hl : Hid (lastB l r.t r.o = !older l[j].t l[j].o r.t r.o) := Lib.hid (lastB_pos l _ _ j (by omega))
      have e4 : decide ((n : Int) > 0) = true := decide_eq_true (by omega)
      have e5 : decide (0 < n) = true := decide_eq_true h0
      have e6 : (n : Int) - 1 = (j : Int) := by omega
      have e7 : ((n : Int) - 1).toNat = j := by omega
      have o9 := On.cell s0
      have o10 := On.cell s1
      have HJ := Lib.hid hj
      clear s2
      generalize l[j].t = u0 at *
      generalize l[j].o = u1 at *
      clear hj h0
      generalize hb4 : older u0 u1 r.t r.o = b4 at hl
      have q4 := Lib.hid (fun (w : World) => hb4 ▸ ROlder_calls u0 u1 r.t r.o w)
      clear hb4
      refine wp_region_on (by kernel_rfl) (by kernel_rfl) ?_
      repeat (go_big_quiet_step (first
        | (go_at_call 47; with_reducible exact Calls.on (q3.out _))
        | (go_at_call 23; with_reducible exact Calls.on (q4.out _))))
      refine wpQuiet_nil ?_
      rintro _ ⟨⟨w2, hb2⟩, rfl⟩
      go_wp2_with fail
      go_meet
      case rel => exact ⟨by rw [hl.out], hb2⟩
  case rest =>
    obtain ⟨rfl, hb2⟩ := hcut
    clear o0 o1 o2 o3 o4 o5 o6 o7 o8
    generalize lastB l r.t r.o = b4 at *
    cases b4
    · have hjl : Hid (joinL c who l r = (l ++ [r], 0)) := Lib.hid (by rw [hjk.out]; rfl)
      clear hjk
      replace hb' := b_step hb' hb2
      replace hr := hr.below hb2
      replace y0 := b_keep hb2 y0
      replace y1 := b_keep hb2 y1
      replace y2 := b_keep hb2 y2
      clear hb hb2 z0 z1 z2 z3 z4 z5 q1 q3
      go_wp2_with fail
      refine wp_region_tok [tsRow wc [] [] 49 3 0 [], tsIs (.slice A n cap), tsRow wc [0, 1] [0] 49 3 (0 + n) ([] ++ cellsR l), tsIs (reqV r), tsRow wc [3] [] 49 3 1 (cellsR [r]), tsRow wc [2, 4] [2, 4] 49 3 (0 + n + 1) (([] ++ cellsR l) ++ cellsR [r]), tsCp 5, tsIs (.int .i64 0)]
        (by kernel_rfl) (by kernel_rfl) (by kernel_rfl) (by kernel_rfl) ⟨?_, ?_, ?_, ?_, ?_, ?_, ?_, ?_, trivial⟩ ?_
      · exact T_lit0 _ _ _ rfl rfl rfl Try.underlying47 (by rw [hi0]; rfl) rfl
      · exact T_move (.tmp 2) rfl (.inl rfl) rfl rfl rfl fun _ _ _ => rfl
      · exact T_append (.tmp 51) (.tmp 52) _ _ i0 _ 3 24 0 n [] (cellsR l) 0 rfl rfl rfl rfl rfl Try.underlying47 hi0 hz0 hz1 hz2 rfl (by omega) [0, 1] [0] rfl rfl (by simp only [maxLen]; omega) (by omega) (one_cellsR l) (fun _ => rfl) fun w t ht => ⟨A, cap, ht.spec 1 rfl, hr.below ht.1⟩
      · exact T_val rfl rfl rfl rfl rfl fun w t ht => ⟨reqV r, run_loadR _ _ _ _ _ _ _ _ _ _ _ rfl (b_keep ht.1 y0) (b_keep ht.1 y1) (b_keep ht.1 y2), rfl⟩
      · exact T_lit 49 3 1 #[.int .i64 r.t, .int .i64 r.o, .int .i64 r.am] rfl rfl rfl rfl [3] [] rfl (by simp only [maxLen]; omega) rfl fun w t ht => run_litR _ _ _ _ _ _ _ _ _ _ (ht.spec 3 rfl)
      · exact T_append (.tmp 53) (.tmp 55) _ _ i0 _ 3 24 (0 + n) 1 ([] ++ cellsR l) (cellsR [r]) 2 rfl rfl rfl rfl rfl Try.underlying47 hi0 hz0 hz1 hz2 rfl (by omega) [2, 4] [2, 4] rfl rfl (by simp only [maxLen]; omega) (by omega) (one_cellsR [r]) (fun _ => rfl) fun w t ht => row_reads (ht.has 4 rfl)
      · exact T_move (.tmp 56) rfl (.inr rfl) rfl rfl rfl fun _ _ _ => rfl
      · exact T_move (.const (.int .i64 0)) rfl (.inr rfl) rfl rfl rfl fun _ _ _ => rfl
      · intro t w2 hb2 hs hh _
        have g6 : [t 5] = [t 6] := hs 6 (Nat.le_of_ble_eq_true rfl)
        have g7 : t 7 = .int .i64 0 := hs 7 (Nat.le_of_ble_eq_true rfl)
        have g5 : w2.ownsRow wc.heap.size 49 3 (t 5) (0 + n + 1) (([] ++ cellsR l) ++ cellsR [r]) := (hh 5 (Nat.le_of_ble_eq_true rfl) rfl).1
        rw [show slots _ t = [(51, t 0), (52, t 1), (53, t 2), (54, t 3), (55, t 4), (56, t 5), (8, t 6), (9, t 7)] from rfl, ← (List.cons.inj g6).1, g7]
        clear g6 g7 hs hh
        generalize t 0 = v0 at *
        generalize t 1 = v1 at *
        generalize t 2 = v2 at *
        generalize t 3 = v3 at *
        generalize t 4 = v4 at *
        generalize t 5 = v5 at *
        rw [List.nil_append, cellsR_snoc] at g5
        simp only [puts, Act.put, List.setIfInBounds_toArray, List.set_cons_zero, List.set_cons_succ]
        go_wp2_with fail
        rw [hjl.out]
        refine bodyPost_ret (v := .tuple #[v5, .int .i64 0]) (by simp [results, Try.results32, go_sem]) rfl ⟨_, rfl, ?_, ?_⟩
        · have := own_less g5 hb'.size
          simpa [hll] using this
        · exact b_step hb' hb2
    · have hjl : Hid (joinL c who l r = ([], 1)) := Lib.hid (by rw [hjk.out]; simp)
      clear hjk
      go_wp2_with fail
      rw [hjl.out]
      refine bodyPost_ret (v := .tuple #[.slice none 0 0, .int .i64 1]) (by simp [results, Try.results32, go_sem]) rfl ⟨_, rfl, own_none _ _ _ _, ?_⟩
      exact b_step hb' hb2
end Go.Proofs.Ytefihmfilahppaa.LineW
