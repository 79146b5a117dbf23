/- The law LineOrder, walked. No condition. -/
import Derived.Test.YtefihmfilahppaaLineAw
namespace Go.Proofs.Ytefihmfilahppaa.LineW
open Go.RowKit Go.Proofs.Ytefihmfilahppaa.Com Go.Proofs.Ytefihmfilahppaa.StampW Go.Proofs.Ytefihmfilahppaa.RightsW Go.Proofs.Ytefihmfilahppaa.Ord Go.Proofs.Ytefihmfilahppaa.Tok
set_option linter.unusedVariables false
theorem cellsR_drop (l : List Req) (k : Nat) : (cellsR l).drop (k * 3) = cellsR (l.drop k) := by
  induction k generalizing l with
  | zero => simp
  | succ k ih =>
    cases l with
    | nil => simp [cellsR]
    | cons a l =>
      rw [List.drop_succ_cons, ← ih l, Nat.succ_mul]
      simp [cellsR, List.flatMap_cons, Req.cells]
theorem Leave_pos (A : Option Addr) (n cap : Nat) (l : List Req) (w : World) (hr : Reads w 3 A (n + 1) (cellsR l)) (hc : n + 1 ≤ cap) (hl : 0 < l.length) :
    Calls Try.prog 36 #[.slice A (n + 1) cap] w fun e w' => ∃ A', e = .returned (.tuple #[reqV l[0], .slice A' n n, .bool true]) ∧ Reads w' 3 A' n (cellsR (l.drop 1)) ∧ Below w.heap.size w w' := by
  obtain ⟨ad, rfl, _⟩ := hr.2 (by omega)
  refine (Leave_some ad (n + 1) cap l w hr (by omega) hc hl).mono ?_
  rintro e w1 ⟨rfl, hb⟩
  refine ⟨_, rfl, ?_, hb⟩
  have := (hr.below hb).cut (k := 1) (cap := n + 1) (by omega) (by omega)
  rw [cellsR_drop] at this
  by_cases h : n = 0
  · subst h; simpa using this
  · rw [if_neg (by omega)] at this
    rw [if_neg (by omega)]
    simpa using this
set_option maxRecDepth 100000 in
set_option maxHeartbeats 2000000 in
theorem order_law (A : Option Addr) (n cap : Nat) (l : List Req) (r : Req) (w : World) (hcap : n ≤ cap) (hr : Reads w 3 A n (cellsR l)) :
    Calls Try.prog 11 #[.slice A n cap, reqV r] w fun e w' => e = .returned (.bool true) ∧ Below w.heap.size w w' := by
  obtain ⟨i0, hi0, hz0, hz1, hz2⟩ := info_parts infoReq
  unfold reqV
  by_cases hn : n ≤ 100
  · have d0 : decide ((n : Int) > 100) = false := decide_eq_false (by omega)
    go_enter Try.func11, Try.ntmps11
    go_wp2_with fail
    refine (awake11 _).mono ?_
    rintro e w1 ⟨rfl, hb⟩
    have y0 := b_keep (a := ⟨w.heap.size, 0, none⟩) (v := .int .i64 r.t) hb (by go_simp)
    have y1 := b_keep (a := ⟨w.heap.size, 1, none⟩) (v := .int .i64 r.o) hb (by go_simp)
    have y2 := b_keep (a := ⟨w.heap.size, 2, none⟩) (v := .int .i64 r.am) hb (by go_simp)
    have hB : Below w.heap.size w w1 := b_step (b_alloc (b_refl _) _) hb
    replace hr := hr.below hB
    clear hb
    go_upto_region 5 with fail
    go_cut [5] (fun s5 wx => ∃ A' c', s5 = .slice A' (n + 1) c' ∧ n + 1 ≤ c' ∧ Reads wx 3 A' (n + 1) (cellsR (l ++ [r])) ∧ Below w1.heap.size w1 wx)
    case first =>
      refine wp_region_tok [tsRow w1 [] [] 49 3 0 [], tsIs (.slice A n cap), tsRow w1 [0, 1] [0] 49 3 (0 + n) ([] ++ cellsR l), tsIs (reqV r), tsRow w1 [3] [] 49 3 1 (cellsR [r]), tsRow w1 [2, 4] [2, 4] 49 3 (0 + n + 1) (([] ++ cellsR l) ++ cellsR [r]), tsCp 5]
        (by kernel_rfl) (by kernel_rfl) (by kernel_rfl) (by kernel_rfl) ⟨?_, ?_, ?_, ?_, ?_, ?_, ?_, trivial⟩ ?_
      · exact T_lit0 _ _ _ rfl rfl rfl Try.underlying47 (by rw [hi0]; rfl) rfl
      · exact T_move (.tmp 0) rfl (.inl rfl) rfl rfl rfl fun _ _ _ => rfl
      · exact T_append (.tmp 21) (.tmp 22) _ _ i0 _ 3 24 0 n [] (cellsR l) 0 rfl rfl rfl rfl rfl Try.underlying47 hi0 hz0 hz1 hz2 rfl (by omega) [0, 1] [0] rfl rfl (by simp only [maxLen]; omega) (by omega) (one_cellsR l) (fun _ => rfl) fun w t ht => ⟨A, cap, ht.spec 1 rfl, hr.below ht.1⟩
      · exact T_val rfl rfl rfl rfl rfl fun w t ht => ⟨reqV r, run_loadR _ _ _ _ _ _ _ _ _ _ _ rfl (b_keep ht.1 y0) (b_keep ht.1 y1) (b_keep ht.1 y2), rfl⟩
      · exact T_lit 49 3 1 #[.int .i64 r.t, .int .i64 r.o, .int .i64 r.am] rfl rfl rfl rfl [3] [] rfl (by simp only [maxLen]; omega) rfl fun w t ht => run_litR _ _ _ _ _ _ _ _ _ _ (ht.spec 3 rfl)
      · exact T_append (.tmp 23) (.tmp 25) _ _ i0 _ 3 24 (0 + n) 1 ([] ++ cellsR l) (cellsR [r]) 2 rfl rfl rfl rfl rfl Try.underlying47 hi0 hz0 hz1 hz2 rfl (by omega) [2, 4] [2, 4] rfl rfl (by simp only [maxLen]; omega) (by omega) (one_cellsR [r]) (fun _ => rfl) fun w t ht => row_reads (ht.has 4 rfl)
      · exact T_move (.tmp 26) rfl (.inr rfl) rfl rfl rfl fun _ _ _ => rfl
      · intro t w2 hb2 hs hh _
        have g6 : [t 5] = [t 6] := hs 6 (Nat.le_of_ble_eq_true rfl)
        have g5 : w2.ownsRow w1.heap.size 49 3 (t 5) (0 + n + 1) (([] ++ cellsR l) ++ cellsR [r]) := (hh 5 (Nat.le_of_ble_eq_true rfl) rfl).1
        rw [show slots _ t = [(21, t 0), (22, t 1), (23, t 2), (24, t 3), (25, t 4), (26, t 5), (5, t 6)] from rfl, ← (List.cons.inj g6).1]
        clear g6 hs hh
        generalize t 0 = v0 at *
        generalize t 1 = v1 at *
        generalize t 2 = v2 at *
        generalize t 3 = v3 at *
        generalize t 4 = v4 at *
        generalize t 5 = v5 at *
        rw [List.nil_append, cellsR_snoc, Nat.zero_add] at g5
        obtain ⟨A5, c5, rfl⟩ := own_slice g5
        have g7 := own_cap g5
        have g8 := Reads.of_own g5
        clear g5
        simp only [puts, Act.put, List.setIfInBounds_toArray, List.set_cons_zero, List.set_cons_succ]
        go_wp2_with fail
        go_meet
        case rel => exact ⟨A5, c5, rfl, g7, g8, hb2⟩
    case rest =>
      obtain ⟨A5, c5, rfl, hc5, hr5, hb5⟩ := hcut
      have hll : l.length = n := by have := hr.1; rw [cellsR_len] at this; omega
      replace hr := hr.below hb5
      replace y0 := b_keep hb5 y0
      replace y1 := b_keep hb5 y1
      replace y2 := b_keep hb5 y2
      replace hB := b_step hB hb5
      clear hb5 hi0 hz0 hz1 hz2 i0
      go_wp2_with fail
      go_loopw [5, 6] (fun s5 s6 wr => ∃ (k m : Nat) (A' : Option Addr) (c' : Nat), n + 1 = k + m ∧ k ≤ n ∧ s6 = .int .i64 k ∧ s5 = .slice A' m c' ∧ m ≤ c' ∧ Reads wr 3 A' m (cellsR ((l ++ [r]).drop k)) ∧ Below wc.heap.size wc wr) (fun _ s6 _ => n - (intOf s6).toNat)
      case atStart => exact ⟨0, n + 1, A5, c5, by omega, by omega, rfl, rfl, hc5, hr5, b_refl _⟩
      case round =>
        obtain ⟨k, m, A', c', hkm, hk, rfl, rfl, hmc, hrk, hbr⟩ := hrel
        by_cases hlt : k < n
        · obtain ⟨m, rfl⟩ : ∃ m', m = m' + 1 := ⟨m - 1, by omega⟩
          have q1 := Leave_pos A' m c' ((l ++ [r]).drop k) wr hrk hmc (by simp; omega)
          have e0 : ((l ++ [r]).drop k)[0]'(by simp; omega) = l[k] := by
            rw [List.getElem_drop]
            simp [hll, hlt]
          rw [e0, List.drop_drop] at q1
          replace q1 := Lib.hid q1
          clear e0 hrk
          unfold reqV at q1
          obtain ⟨ad, rfl, _⟩ := hr.2 (by omega)
          obtain ⟨r0, r1, r2⟩ := Reads.three (hr.below hbr) hlt (by omega)
          have hE : reqEqB l[k].t l[k].o l[k].am l[k].t l[k].o l[k].am = true := by simp [reqEqB]
          generalize l[k].t = x0 at *
          generalize l[k].o = x1 at *
          generalize l[k].am = x2 at *
          go_wp2_with fail
          refine q1.out.mono ?_
          rintro e w2 ⟨A2, rfl, hr2, hb2⟩
          replace r0 := b_keep hb2 r0
          replace r1 := b_keep hb2 r1
          replace r2 := b_keep hb2 r2
          replace hbr := b_step hbr hb2
          have hkn : Hid (n + 1 = (k + 1) + m) := Lib.hid (by omega)
          have e5 : (n : Int) - (k : Int) = (m : Int) := by omega
          have e6 : ((m : Int) != (m : Int)) = false := by simp
          clear q1 hb2 hkm
          go_upto_region 10 with fail
          have o0 := On.cell (W := w2.alloc (.cells #[.int .i64 x0, .int .i64 x1, .int .i64 x2] 49)) (b_keep (b_alloc (b_refl _) _) r0)
          have o1 := On.cell (W := w2.alloc (.cells #[.int .i64 x0, .int .i64 x1, .int .i64 x2] 49)) (b_keep (b_alloc (b_refl _) _) r1)
          have o2 := On.cell (W := w2.alloc (.cells #[.int .i64 x0, .int .i64 x1, .int .i64 x2] 49)) (b_keep (b_alloc (b_refl _) _) r2)
          have p0 := On.cell (W := w2.alloc (.cells #[.int .i64 x0, .int .i64 x1, .int .i64 x2] 49)) (show World.cell? _ ⟨w2.heap.size, 0, none⟩ = some (.int .i64 x0) from (Blk.new w2 49 #[.int .i64 x0, .int .i64 x1, .int .i64 x2]).cell 0)
          have p1 := On.cell (W := w2.alloc (.cells #[.int .i64 x0, .int .i64 x1, .int .i64 x2] 49)) (show World.cell? _ ⟨w2.heap.size, 1, none⟩ = some (.int .i64 x1) from (Blk.new w2 49 #[.int .i64 x0, .int .i64 x1, .int .i64 x2]).cell 1)
          have p2 := On.cell (W := w2.alloc (.cells #[.int .i64 x0, .int .i64 x1, .int .i64 x2] 49)) (show World.cell? _ ⟨w2.heap.size, 2, none⟩ = some (.int .i64 x2) from (Blk.new w2 49 #[.int .i64 x0, .int .i64 x1, .int .i64 x2]).cell 2)
          refine wp_region_on (by kernel_rfl) (by kernel_rfl) ?_
          repeat (go_big_quiet_step (fail))
          refine wpQuiet_nil ?_
          rintro _ ⟨⟨w4, hb4⟩, rfl⟩
          clear o0 o1 o2 p0 p1 p2
          replace hb4 := b_step (b_alloc (b_refl w2) _) hb4
          replace hr2 := hr2.below hb4
          replace hbr := b_step hbr hb4
          clear hb4 r0 r1 r2 e5 e6
          go_wp2_with fail
          go_roundw
          case rel => exact ⟨k + 1, m, A2, m, hkn.out, by omega, by go_num, rfl, Nat.le_refl _, hr2, hbr⟩
          case measure => simp [intOf]; omega
        · obtain rfl : k = n := by omega
          obtain rfl : m = 1 := by omega
          have q1 := Leave_pos A' 0 c' ((l ++ [r]).drop k) wr hrk hmc (by simp; omega)
          have e0 : ((l ++ [r]).drop k)[0]'(by simp; omega) = r := by
            rw [List.getElem_drop]
            simp [hll]
          rw [e0] at q1
          replace q1 := Lib.hid q1
          unfold reqV at q1
          clear e0 hrk hkm
          replace hB := b_step hB hbr
          replace y0 := b_keep hbr y0
          replace y1 := b_keep hbr y1
          replace y2 := b_keep hbr y2
          have hE : reqEqB r.t r.o r.am r.t r.o r.am = true := by simp [reqEqB]
          have hE0 : reqEqB 0 0 0 0 0 0 = true := rfl
          generalize r.t = t0 at *
          generalize r.o = t1 at *
          generalize r.am = t2 at *
          clear hbr
          go_wp2_with fail
          refine q1.out.mono ?_
          rintro e w2 ⟨A2, rfl, hr2, hb2⟩
          replace y0 := b_keep hb2 y0
          replace y1 := b_keep hb2 y1
          replace y2 := b_keep hb2 y2
          replace hB := b_step hB hb2
          clear q1 hb2
          have hb9 := b_alloc (b_refl w2) (.cells #[.int .i64 t0, .int .i64 t1, .int .i64 t2] 49)
          have p0 : (w2.alloc (.cells #[.int .i64 t0, .int .i64 t1, .int .i64 t2] 49)).cell? ⟨w2.heap.size, 0, none⟩ = some (.int .i64 t0) := (Blk.new w2 49 #[.int .i64 t0, .int .i64 t1, .int .i64 t2]).cell 0
          have p1 : (w2.alloc (.cells #[.int .i64 t0, .int .i64 t1, .int .i64 t2] 49)).cell? ⟨w2.heap.size, 1, none⟩ = some (.int .i64 t1) := (Blk.new w2 49 #[.int .i64 t0, .int .i64 t1, .int .i64 t2]).cell 1
          have p2 : (w2.alloc (.cells #[.int .i64 t0, .int .i64 t1, .int .i64 t2] 49)).cell? ⟨w2.heap.size, 2, none⟩ = some (.int .i64 t2) := (Blk.new w2 49 #[.int .i64 t0, .int .i64 t1, .int .i64 t2]).cell 2
          replace y0 := b_keep hb9 y0
          replace y1 := b_keep hb9 y1
          replace y2 := b_keep hb9 y2
          replace hB := b_step hB hb9
          go_upto_region 14 with fail
          clear hb9
          generalize w2.alloc (.cells #[.int .i64 t0, .int .i64 t1, .int .i64 t2] 49) = w3 at *
          go_wp2_with fail
          refine (Leave_none _ _ _).mono ?_
          rintro e w4 ⟨rfl, hb4⟩
          replace y0 := b_keep hb4 y0
          replace y1 := b_keep hb4 y1
          replace y2 := b_keep hb4 y2
          replace p0 := b_keep hb4 p0
          replace p1 := b_keep hb4 p1
          replace p2 := b_keep hb4 p2
          replace hB := b_step hB hb4
          clear hb4
          have l0 : w2.heap.size < w4.heap.size := World.block_lt_of_cell? w4 _ p0
          have l1 : w.heap.size < w4.heap.size := World.block_lt_of_cell? w4 _ y0
          go_wp2_with fail
          go_ret
          exact ⟨rfl, b_alloc hB _⟩
  · have d0 : decide ((n : Int) > 100) = true := decide_eq_true (by omega)
    go_enter Try.func11, Try.ntmps11
    go_wp2_with (first | (go_at_call 30; refine (awake11 _).mono ?_; rintro e w1 ⟨rfl, hb⟩))
    go_ret
    exact ⟨rfl, b_step (b_alloc (b_refl _) _) hb⟩
end Go.Proofs.Ytefihmfilahppaa.LineW
