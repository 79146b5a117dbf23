/- The law LineStays, walked. No condition. -/
import Derived.Test.YtefihmfilahppaaLineLaw2
import Derived.Deep.DeepCutAuto
namespace Go.Proofs.Ytefihmfilahppaa.LineW
open Go.RowKit Go.Proofs.Ytefihmfilahppaa.Com Go.Proofs.Ytefihmfilahppaa.StampW Go.Proofs.Ytefihmfilahppaa.RightsW Go.Proofs.Ytefihmfilahppaa.Ord Go.Proofs.Ytefihmfilahppaa.Tok
set_option linter.unusedVariables false
theorem rightB_get {n who : Int} {l : List Req} {k : Nat} (h : rightB n who l k = true) (j : Nat) (hj : j < k) : wrongB n who l j = false := by
  unfold rightB at h
  have := List.all_eq_true.1 h j (List.mem_range.2 hj)
  simpa using this
theorem mayL_tail {c : Cfg} {who : Int} {l : List Req} (h : mayL c who l = true) (hl : 0 < l.length) : mayL c who (l.drop 1) = true := by
  unfold mayL at h ⊢
  simp only [Bool.and_eq_true, decide_eq_true_eq] at h
  obtain ⟨h1, h2, h3, h4, h5⟩ := h
  rw [h1, decide_eq_true h2, decide_eq_true h3, decide_eq_true (show ((l.drop 1).length : Int) ≤ c.Q by rw [List.length_drop]; omega)]
  simp only [Bool.true_and]
  unfold rightB
  refine List.all_eq_true.2 fun j hj => ?_
  have hj := List.mem_range.1 hj
  have hjl : j + 1 < l.length := by rw [List.length_drop] at hj; omega
  have h6 := rightB_get h5 (j + 1) hjl
  rw [wrongB_one _ _ _ _ hjl] at h6
  rw [wrongB_one _ _ _ _ hj]
  have e : (l.drop 1)[j]'hj = l[j + 1] := by rw [List.getElem_drop]; congr 1; omega
  rw [e]
  simp only [Bool.or_eq_false_iff] at h6
  rw [h6.1]
  cases j with
  | zero => rfl
  | succ k =>
    rw [prevB_succ l (k + 1) _ _ (by omega)] at h6
    rw [prevB_succ (l.drop 1) k _ _ (by omega)]
    have e2 : (l.drop 1)[k]'(by omega) = l[k + 1] := by rw [List.getElem_drop]; congr 1; omega
    rw [e2, h6.2]
    rfl
theorem joinL_cases (c : Cfg) (who : Int) (l : List Req) (r : Req) : (∃ e, joinL c who l r = ([], e) ∧ e ≠ 0) ∨ (joinL c who l r = (l ++ [r], 0) ∧ mayL c who (l ++ [r]) = true) := by
  unfold joinL
  split
  · exact .inl ⟨1, rfl, by omega⟩
  · split
    · exact .inl ⟨2, rfl, by omega⟩
    · split
      · exact .inl ⟨3, rfl, by omega⟩
      · split
        · exact .inl ⟨1, rfl, by omega⟩
        · rename_i h
          exact .inr ⟨rfl, by simpa using h⟩
theorem Reads.front {w : World} {n m : Nat} {A : Option Addr} {xs ys : List Value} (h : Reads w 3 A m (xs ++ ys)) (hx : xs.length = n * 3) (hn : n ≤ m) : Reads w 3 A n xs := by
  refine ⟨hx, fun h0 => ?_⟩
  obtain ⟨ad, e, hc⟩ := h.2 (by omega)
  exact ⟨ad, e, fun j u hj => hc j u (by rw [List.getElem?_append_left ((List.getElem?_eq_some_iff.1 hj).1)]; exact hj)⟩
set_option maxRecDepth 100000 in
set_option maxHeartbeats 2000000 in
theorem stays_walk (c : Cfg) (who : Int) (A : Option Addr) (n cap : Nat) (l : List Req) (r : Req) (w : World) (hcap : n ≤ cap) (hr : Reads w 3 A n (cellsR l)) :
    Calls Try.prog 12 #[cfgV c, .int .i64 who, .slice A n cap, reqV r] w fun e w' => e = .returned (.bool true) ∧ Below w.heap.size w w' := by
  have hll : l.length = n := by have := hr.1; rw [cellsR_len] at this; omega
  by_cases hn : n ≤ 100
  · have d0 : decide ((n : Int) > 100) = false := decide_eq_false (by omega)
    have q3 := Lib.hid (LMay_calls c who)
    have q1 := Lib.hid (Join_calls c who)
    have ht := Lib.hid (fun (h : mayL c who l = true) (h0 : 0 < l.length) => mayL_tail h h0)
    unfold cfgV at q1 q3
    unfold reqV at q1
    unfold cfgV reqV
    go_enter Try.func12, Try.ntmps12
    go_wp2_with fail
    refine (awake11 _).mono ?_
    rintro e w1 ⟨rfl, hb⟩
    have z0 := b_keep (a := ⟨w.heap.size, 0, none⟩) (v := .int .i64 c.N) hb (by go_simp)
    have z1 := b_keep (a := ⟨w.heap.size, 1, none⟩) (v := .int .i64 c.Q) hb (by go_simp)
    have z2 := b_keep (a := ⟨w.heap.size, 2, none⟩) (v := .int .i64 c.R) hb (by go_simp)
    have z3 := b_keep (a := ⟨w.heap.size, 3, none⟩) (v := .int .i64 c.P) hb (by go_simp)
    have z4 := b_keep (a := ⟨w.heap.size, 4, none⟩) (v := .int .i64 c.K) hb (by go_simp)
    have z5 := b_keep (a := ⟨w.heap.size, 5, none⟩) (v := .int .i64 c.C) hb (by go_simp)
    have y0 := b_keep (a := ⟨w.heap.size + 1, 0, none⟩) (v := .int .i64 r.t) hb (by go_simp)
    have y1 := b_keep (a := ⟨w.heap.size + 1, 1, none⟩) (v := .int .i64 r.o) hb (by go_simp)
    have y2 := b_keep (a := ⟨w.heap.size + 1, 2, none⟩) (v := .int .i64 r.am) hb (by go_simp)
    have hB : Below w.heap.size w w1 := b_step (b_alloc (b_alloc (b_refl _) _) _) hb
    replace hr := hr.below hB
    clear hb
    generalize hm : mayL c who l = m at ht
    cases m
    · have q4 := Lib.hid (hm ▸ q3.out A n cap l w1 hr (by omega))
      clear q1 q3 ht hm
      go_wp2_with (go_at_call 33; refine q4.out.mono ?_; rintro e w2 ⟨rfl, hb⟩)
      go_ret
      exact ⟨rfl, b_step hB hb⟩
    · have q4 := Lib.hid (hm ▸ q3.out A n cap l w1 hr (by omega))
      have HM := Lib.hid hm
      clear hm
      go_upto_region 5 with (go_at_call 33; refine q4.out.mono ?_; rintro e w2 ⟨rfl, hb⟩)
      clear q4
      replace z0 := b_keep hb z0
      replace z1 := b_keep hb z1
      replace z2 := b_keep hb z2
      replace z3 := b_keep hb z3
      replace z4 := b_keep hb z4
      replace z5 := b_keep hb z5
      replace y0 := b_keep hb y0
      replace y1 := b_keep hb y1
      replace y2 := b_keep hb y2
      replace hr := hr.below hb
      replace hB := b_step hB hb
      clear hb
      go_cut [10, 11] (fun s10 s11 wx => ∃ (ok : Bool) (A' : Option Addr) (m c' : Nat), s10 = .slice A' m c' ∧ s11 = .bool ok ∧ m ≤ 100 ∧ Hid (ok = true → Reads wx 3 A' m (cellsR (l.drop 1)) ∧ mayL c who (l.drop 1) = true) ∧ Below w2.heap.size w2 wx)
      case first =>
        rcases Nat.eq_zero_or_pos n with h0 | h0
        · subst h0
          clear z0 z1 z2 z3 z4 z5 y0 y1 y2
          go_wp2_with fail
          refine (Leave_none _ _ _).mono ?_
          rintro e w3 ⟨rfl, hb⟩
          go_wp2_with fail
          go_meet
          case rel => exact ⟨false, none, 0, 0, rfl, rfl, by omega, Lib.hid (fun h => by cases h), b_alloc hb _⟩
        · obtain ⟨n, rfl⟩ : ∃ k, n = k + 1 := ⟨n - 1, by omega⟩
          have q5 := Leave_pos A n cap l w2 hr hcap (by omega)
          replace q5 := Lib.hid q5
          unfold reqV at q5
          have hm2 := Lib.hid (ht.out (by first | rfl | trivial) (by omega))
          generalize l[0].t = x0 at *
          generalize l[0].o = x1 at *
          generalize l[0].am = x2 at *
          have HL := Lib.hid hll
          clear z0 z1 z2 z3 z4 z5 y0 y1 y2 hll
          go_wp2_with fail
          refine q5.out.mono ?_
          rintro e w3 ⟨A', rfl, hr3, hb⟩
          go_wp2_with fail
          go_meet
          case rel => exact ⟨true, A', n, n, rfl, rfl, by omega, Lib.hid (fun _ => ⟨hr3.below (b_alloc (b_refl _) _), hm2.out⟩), b_alloc hb _⟩
      case rest =>
        obtain ⟨ok, A', m, c', rfl, rfl, hm100, hok, hb⟩ := hcut
        clear ht
        replace z0 := b_keep hb z0
        replace z1 := b_keep hb z1
        replace z2 := b_keep hb z2
        replace z3 := b_keep hb z3
        replace z4 := b_keep hb z4
        replace z5 := b_keep hb z5
        replace y0 := b_keep hb y0
        replace y1 := b_keep hb y1
        replace y2 := b_keep hb y2
        replace hr := hr.below hb
        replace hB := b_step hB hb
        clear hb
        go_upto_region 6 with fail
        go_cut [39] (fun s39 wx => s39 = .bool false ∧ Below wc.heap.size wc wx)
        case first =>
          cases ok
          · go_wp2_with fail
            go_meet
            case rel => exact ⟨rfl, b_refl _⟩
          · obtain ⟨h1, h2⟩ := hok.out rfl
            have q5 := Lib.hid (h2 ▸ q3.out A' m c' (l.drop 1) wc h1 (by omega))
            clear h1 h2 hok q3
            go_wp2_with (go_at_call 33; refine q5.out.mono ?_; rintro e w4 ⟨rfl, hb⟩)
            go_meet
            case rel => exact ⟨rfl, hb⟩
        case rest =>
          obtain ⟨rfl, hb⟩ := hcut
          replace z0 := b_keep hb z0
          replace z1 := b_keep hb z1
          replace z2 := b_keep hb z2
          replace z3 := b_keep hb z3
          replace z4 := b_keep hb z4
          replace z5 := b_keep hb z5
          replace y0 := b_keep hb y0
          replace y1 := b_keep hb y1
          replace y2 := b_keep hb y2
          replace hr := hr.below hb
          replace hB := b_step hB hb
          clear hb hok hm100
          have q6 := Lib.hid (q1.out A n cap l r _ hr (by omega))
          rcases joinL_cases c who l r with ⟨e, he, hne⟩ | ⟨he, hmy⟩
          · rw [he] at q6
            have e9 : (e != 0) = true := by rw [bne_iff_ne]; exact hne
            clear he q1 q3 hne
            go_wp2_with fail
            refine q6.out.mono ?_
            rintro e w4 ⟨v, rfl, hx, hb⟩
            obtain ⟨A2, c2, rfl⟩ := own_slice hx
            clear hx q6
            go_wp2_with fail
            go_ret
            exact ⟨rfl, b_step hB hb⟩
          · rw [he] at q6
            clear he q1
            go_wp2_with fail
            refine q6.out.mono ?_
            rintro e w4 ⟨v, rfl, hx, hb⟩
            obtain ⟨A2, c2, rfl⟩ := own_slice hx
            have hc2 := own_cap hx
            replace hx := Reads.of_own hx
            replace z0 := b_keep hb z0
            replace z1 := b_keep hb z1
            replace z2 := b_keep hb z2
            replace z3 := b_keep hb z3
            replace z4 := b_keep hb z4
            replace z5 := b_keep hb z5
            replace y0 := b_keep hb y0
            replace y1 := b_keep hb y1
            replace y2 := b_keep hb y2
            replace hr := hr.below hb
            replace hB := b_step hB hb
            clear hb q6
            have e0 : (l ++ [r]).length = n + 1 := by simp [hll]
            rw [e0] at hx hc2 ⊢
            have HM2 := Lib.hid hmy
            clear hmy e0
            obtain ⟨a2, rfl, _⟩ := hx.2 (by omega)
            obtain ⟨x0, x1, x2⟩ := Reads.three (k := n) hx (by omega) (by simp; omega)
            have e1 : (l ++ [r])[n]'(by simp; omega) = r := by simp [← hll]
            rw [e1] at x0 x1 x2
            clear e1
            have q7 := Lib.hid (fun (s : On w4) => HM2.out ▸ q3.out (some a2) (n + 1) c2 (l ++ [r]) s.1 (hx.below s.2) (by omega))
            have q8 := Lib.hid (fun (s : On w4) => Same_calls (some a2) A n n c2 cap l l s.1 ((Reads.front (n := n) (by rw [← cellsR_snoc] at hx; exact hx) (by rw [cellsR_len]; omega) (by omega)).below s.2) (hr.below s.2) (by omega))
            rw [decide_eq_true rfl] at q8
            have hE : reqEqB r.t r.o r.am r.t r.o r.am = true := by simp [reqEqB]
            generalize r.t = t0 at *
            generalize r.o = t1 at *
            generalize r.am = t2 at *
            have HL := Lib.hid hll
            have f1 : ((n : Int) + 1 == (n : Int) + 1) = true := beq_self_eq_true _
            have f2 : (0 : Int) ≤ (n : Int) := by omega
            have f3 : (n : Int) ≤ (c2 : Int) := by omega
            have f4 : (n : Int) < (n : Int) + 1 := by omega
            have f5 : n < n + 1 := by omega
            clear q3 hll HM2
            go_upto_region 11 with fail
            have o0 := On.cell z0
            have o1 := On.cell z1
            have o2 := On.cell z2
            have o3 := On.cell z3
            have o4 := On.cell z4
            have o5 := On.cell z5
            have p0 := On.cell y0
            have p1 := On.cell y1
            have p2 := On.cell y2
            have u0 := On.cell x0
            have u1 := On.cell x1
            have u2 := On.cell x2
            refine wp_region_on (by kernel_rfl) (by kernel_rfl) ?_
            repeat (go_big_quiet_step (first
              | (go_at_call 33; with_reducible exact Calls.on (q7.out _))
              | (go_at_call 35; with_reducible exact Calls.on (q8.out _))))
            refine wpQuiet_nil ?_
            rintro _ ⟨⟨w5, hb5⟩, rfl⟩
            go_wp2_with fail
            go_ret
            exact ⟨rfl, b_step hB hb5⟩
  · have d0 : decide ((n : Int) > 100) = true := decide_eq_true (by omega)
    unfold cfgV reqV
    go_enter Try.func12, Try.ntmps12
    go_wp2_with (first | (go_at_call 30; refine (awake11 _).mono ?_; rintro e w1 ⟨rfl, hb⟩))
    go_ret
    exact ⟨rfl, b_step (b_alloc (b_alloc (b_refl _) _) _) hb⟩
end Go.Proofs.Ytefihmfilahppaa.LineW
