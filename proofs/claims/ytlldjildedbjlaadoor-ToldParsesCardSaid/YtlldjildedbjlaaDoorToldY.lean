/- The reference's act of a line, walked. No condition. -/
import Derived.Test.YtlldjildedbjlaaDoorToldX
namespace Go.Proofs.YtlldjildedbjlaaDoor.ToldW
open Go.RowKit Go.Proofs.YtlldjildedbjlaaDoor.Com Go.Proofs.YtlldjildedbjlaaDoor.Ord Go.Proofs.YtlldjildedbjlaaDoor.ToldP
set_option linter.unusedVariables false
attribute [local go_sem] ext_take ext_drop
theorem refFrom_step (s : List UInt8) (k : Nat) (hk : k < 9) : refFrom s (9 - k) k = match refStep s k with
    | some a => some a
    | none => refFrom s (9 - (k + 1)) (k + 1) := by
  rw [show 9 - k = (9 - (k + 1)) + 1 by omega, refFrom]
  cases refStep s k <;> rfl
theorem kinds9_len (k : Nat) (hk : k < 9) : (kinds9.getD k []).length ≤ 7 := by
  have hc : k = 0 ∨ k = 1 ∨ k = 2 ∨ k = 3 ∨ k = 4 ∨ k = 5 ∨ k = 6 ∨ k = 7 ∨ k = 8 := by omega
  rcases hc with rfl | rfl | rfl | rfl | rfl | rfl | rfl | rfl | rfl <;> decide
set_option maxRecDepth 100000 in
set_option maxHeartbeats 1000000 in
theorem RAct_calls (s : List UInt8) (hs : s.length ≤ 100000) (w : World) :
    Calls Tryd.prog 14 #[str s] w fun e w' => ∃ a, e = .returned (.tuple #[actV a, .bool (refAct s).isSome]) ∧ (∀ b, refAct s = some b → b = a) ∧ Below w.heap.size w w' := by
  have hrow : ∀ (k : Nat), k < 9 → (kinds9.map str).toArray[k]? = some (str (kinds9.getD k [])) := by
    intro k hk
    rw [List.getElem?_toArray, List.getElem?_map, List.getD_eq_getElem?_getD, List.getElem?_eq_getElem (show k < kinds9.length from hk)]
    rfl
  obtain ⟨R, hR⟩ : ∃ R, (kinds9.map str).toArray = R := ⟨_, rfl⟩
  have q6 := Lib.hid Kinds_calls
  rw [hR] at hrow q6
  clear hR
  have HR := Lib.hid hrow
  clear hrow
  unfold str at *
  go_enter Tryd.func14, Tryd.ntmps14
  go_wp2_with (go_at_call 25; refine (q6.out _).mono ?_; rintro e w4 ⟨rfl, rfl⟩)
  have hB2 := (Blk.new w 38 (cellsA (zeroA 0))).alloc (.cells R 9)
  have hRo := Blk.new (w.alloc (.cells (cellsA (zeroA 0)) 38)) 9 R
  have hbW := b_alloc (b_alloc (b_refl w) (.cells (cellsA (zeroA 0)) 38)) (.cells R 9)
  simp only [World.size_alloc] at hRo
  have hsz : w.heap.size + 2 ≤ ((w.alloc (.cells (cellsA (zeroA 0)) 38)).alloc (.cells R 9)).heap.size := by simp only [World.size_alloc]; omega
  change Code.wp _ _ _ _ ((w.alloc (.cells (cellsA (zeroA 0)) 38)).alloc (.cells R 9))
  generalize (w.alloc (.cells (cellsA (zeroA 0)) 38)).alloc (.cells R 9) = w1 at *
  clear q6
  go_loopw [5] (fun i wr => ∃ k : Nat, i = .int .i64 k ∧ k ≤ 9 ∧ Hid (refAct s = refFrom s (9 - k) k) ∧ Below w1.heap.size w1 wr) (fun i _ => 9 - (intOf i).toNat)
  case atStart => exact ⟨0, rfl, by omega, Lib.hid rfl, b_refl _⟩
  case round =>
    obtain ⟨k, rfl, hk, hq, hbr⟩ := hrel
    have hBr := hB2.below hbr
    have hbr' := b_step hbW hbr
    rcases Nat.lt_or_ge k 9 with h9 | h9
    · have hst := Lib.hid (refFrom_step s k h9)
      have hcell : wr.cell? ⟨w.heap.size + 1, k, none⟩ = some (str (kinds9.getD k [])) := by
        rw [(hRo.below hbr).cell k]; exact HR.out k h9
      have hkl := kinds9_len k h9
      have hrs : Hid (refStep s k = if s.take (kinds9.getD k []).length = kinds9.getD k [] then (if textA (readA k (s.drop (kinds9.getD k []).length)) = s then some (readA k (s.drop (kinds9.getD k []).length)) else none) else none) := Lib.hid rfl
      generalize kinds9.getD k [] = kn at *
      unfold str at hcell
      by_cases hpre : s.take kn.length = kn
      · skip
        -- where it fits
        have hlen : kn.length ≤ s.length := by have := congrArg List.length hpre; rw [List.length_take] at this; omega
        have hpb : (s.take kn.length == kn) = true := by simp [hpre]
        have hrs2 : Hid (refStep s k = if textA (readA k (s.drop kn.length)) = s then some (readA k (s.drop kn.length)) else none) := Lib.hid (by rw [hrs.out, if_pos hpre])
        have hT := readA_tell k h9 (s.drop kn.length)
        have o0 := On.cell hcell
        have i0 : (0 : Int) ≤ (k : Int) := by omega
        have i9 : (k : Int) < 9 := by omega
        have e1 : decide ((s.length : Int) < (kn.length : Int)) = false := decide_eq_false (by omega)
        have e2 : ¬ (s.length : Int) < (kn.length : Int) := by omega
        have e3 : (kn.length : Int) ≤ (s.length : Int) := by omega
        have hrl : (s.drop kn.length).length ≤ 100000 := by rw [List.length_drop]; omega
        clear hpre hrs
        go_upto_region 5 with (fail)
        refine wp_region_on (by kernel_rfl) (by kernel_rfl) ?_
        repeat (go_big_quiet_step (fail))
        refine wpQuiet_nil ?_
        rintro _ ⟨⟨w2, hb2⟩, rfl⟩
        replace hcell := b_keep hb2 hcell
        have hclt := World.block_lt_of_cell? _ _ hcell
        have hBr2 := hBr.below hb2
        have hbr2 := b_step hbr hb2
        rename_i w2
        have hB6 := Blk.new w2 38 (cellsA (zeroA ((k : Int) + 1)))
        have hb6 := b_alloc (b_refl w2) (.cells (cellsA (zeroA ((k : Int) + 1))) 38)
        have hg6 : w1.heap.size ≤ w2.heap.size := hbr2.size
        go_upto_region 9 with (fail)
        change Code.wp _ _ _ _ (w2.alloc (.cells (cellsA (zeroA ((k : Int) + 1))) 38))
        have hbr6 := b_step hbr2 hb6
        generalize w2.alloc (.cells (cellsA (zeroA ((k : Int) + 1))) 38) = w6 at *
        generalize w2.heap.size = g at *
        clear hb2 hb6 hcell hclt o0 hBr hBr2
        generalize s.drop kn.length = r at *
        have HA : Hid (readA k r = ⟨(k : Int) + 1, (numberP r [119, 104, 111]).1, (numberP (numberP r [119, 104, 111]).2 [97, 109, 111, 117, 110, 116]).1, IntKind.u32.wrap (numberP (numberP (numberP r [119, 104, 111]).2 [97, 109, 111, 117, 110, 116]).2 [100, 114, 97, 119]).1, (numberP (numberP (numberP (numberP r [119, 104, 111]).2 [97, 109, 111, 117, 110, 116]).2 [100, 114, 97, 119]).2 [97, 116]).1, (numberP (numberP (numberP (numberP (numberP r [119, 104, 111]).2 [97, 109, 111, 117, 110, 116]).2 [100, 114, 97, 119]).2 [97, 116]).2 [102, 97, 117, 108, 116]).1, (numberP (numberP (numberP (numberP (numberP (numberP r [119, 104, 111]).2 [97, 109, 111, 117, 110, 116]).2 [100, 114, 97, 119]).2 [97, 116]).2 [102, 97, 117, 108, 116]).2 [107, 101, 101, 112]).1⟩) := Lib.hid rfl
        generalize readA k r = ra at *
        have j0 := number_len (r) [119, 104, 111]
        have q0 := Lib.hid (number_calls (r) [119, 104, 111] (by omega) (by decide))
        generalize numberP (r) [119, 104, 111] = p0 at *
        have j1 := number_len (p0.2) [97, 109, 111, 117, 110, 116]
        have q1 := Lib.hid (number_calls (p0.2) [97, 109, 111, 117, 110, 116] (by omega) (by decide))
        generalize numberP (p0.2) [97, 109, 111, 117, 110, 116] = p1 at *
        have j2 := number_len (p1.2) [100, 114, 97, 119]
        have q2 := Lib.hid (number_calls (p1.2) [100, 114, 97, 119] (by omega) (by decide))
        generalize numberP (p1.2) [100, 114, 97, 119] = p2 at *
        have j3 := number_len (p2.2) [97, 116]
        have q3 := Lib.hid (number_calls (p2.2) [97, 116] (by omega) (by decide))
        generalize numberP (p2.2) [97, 116] = p3 at *
        have j4 := number_len (p3.2) [102, 97, 117, 108, 116]
        have q4 := Lib.hid (number_calls (p3.2) [102, 97, 117, 108, 116] (by omega) (by decide))
        generalize numberP (p3.2) [102, 97, 117, 108, 116] = p4 at *
        have j5 := number_len (p4.2) [107, 101, 101, 112]
        have q5 := Lib.hid (number_calls (p4.2) [107, 101, 101, 112] (by omega) (by decide))
        generalize numberP (p4.2) [107, 101, 101, 112] = p5 at *
        unfold str at q0 q1 q2 q3 q4 q5
        go_upto_region 11 with (go_at_call 26; refine (q0.out _).mono ?_; rintro e w7 ⟨rfl, hb7⟩; have z := hB6.below hb7; have zc : w7.cell? ⟨g, 1, none⟩ = some (.int .i64 0) := z.cell 1; have zf := z.frozen 1)
        replace hB6 : Blk (w7.setCell ⟨g, 1, none⟩ (.int .i64 (p0.1))) g 38 (cellsA ⟨(k : Int) + 1, p0.1, 0, 0, 0, 0, 0⟩) := z.set_ 1 (.int .i64 (p0.1))
        replace hbr6 := b_set (p := ⟨g, 1, none⟩) (b_step hbr6 hb7) hg6 (.int .i64 (p0.1))
        generalize w7.setCell ⟨g, 1, none⟩ (.int .i64 (p0.1)) = w8 at *
        clear z zc zf hb7 q0
        try clear w7
        go_upto_region 12 with (go_at_call 26; refine (q1.out _).mono ?_; rintro e w7 ⟨rfl, hb7⟩; have z := hB6.below hb7; have zc : w7.cell? ⟨g, 2, none⟩ = some (.int .i64 0) := z.cell 2; have zf := z.frozen 2)
        replace hB6 : Blk (w7.setCell ⟨g, 2, none⟩ (.int .i64 (p1.1))) g 38 (cellsA ⟨(k : Int) + 1, p0.1, p1.1, 0, 0, 0, 0⟩) := z.set_ 2 (.int .i64 (p1.1))
        replace hbr6 := b_set (p := ⟨g, 2, none⟩) (b_step hbr6 hb7) hg6 (.int .i64 (p1.1))
        generalize w7.setCell ⟨g, 2, none⟩ (.int .i64 (p1.1)) = w8 at *
        clear z zc zf hb7 q1
        try clear w7
        go_upto_region 14 with (go_at_call 26; refine (q2.out _).mono ?_; rintro e w7 ⟨rfl, hb7⟩; have z := hB6.below hb7; have zc : w7.cell? ⟨g, 3, none⟩ = some (.int .u32 0) := z.cell 3; have zf := z.frozen 3)
        replace hB6 : Blk (w7.setCell ⟨g, 3, none⟩ (.int .u32 (p2.1 % 4294967296))) g 38 (cellsA ⟨(k : Int) + 1, p0.1, p1.1, p2.1 % 4294967296, 0, 0, 0⟩) := z.set_ 3 (.int .u32 (p2.1 % 4294967296))
        replace hbr6 := b_set (p := ⟨g, 3, none⟩) (b_step hbr6 hb7) hg6 (.int .u32 (p2.1 % 4294967296))
        generalize w7.setCell ⟨g, 3, none⟩ (.int .u32 (p2.1 % 4294967296)) = w8 at *
        clear z zc zf hb7 q2
        try clear w7
        go_upto_region 16 with (go_at_call 26; refine (q3.out _).mono ?_; rintro e w7 ⟨rfl, hb7⟩; have z := hB6.below hb7; have zc : w7.cell? ⟨g, 4, none⟩ = some (.int .i64 0) := z.cell 4; have zf := z.frozen 4)
        replace hB6 : Blk (w7.setCell ⟨g, 4, none⟩ (.int .i64 (p3.1))) g 38 (cellsA ⟨(k : Int) + 1, p0.1, p1.1, p2.1 % 4294967296, p3.1, 0, 0⟩) := z.set_ 4 (.int .i64 (p3.1))
        replace hbr6 := b_set (p := ⟨g, 4, none⟩) (b_step hbr6 hb7) hg6 (.int .i64 (p3.1))
        generalize w7.setCell ⟨g, 4, none⟩ (.int .i64 (p3.1)) = w8 at *
        clear z zc zf hb7 q3
        try clear w7
        go_upto_region 18 with (go_at_call 26; refine (q4.out _).mono ?_; rintro e w7 ⟨rfl, hb7⟩; have z := hB6.below hb7; have zc : w7.cell? ⟨g, 5, none⟩ = some (.int .i64 0) := z.cell 5; have zf := z.frozen 5)
        replace hB6 : Blk (w7.setCell ⟨g, 5, none⟩ (.int .i64 (p4.1))) g 38 (cellsA ⟨(k : Int) + 1, p0.1, p1.1, p2.1 % 4294967296, p3.1, p4.1, 0⟩) := z.set_ 5 (.int .i64 (p4.1))
        replace hbr6 := b_set (p := ⟨g, 5, none⟩) (b_step hbr6 hb7) hg6 (.int .i64 (p4.1))
        generalize w7.setCell ⟨g, 5, none⟩ (.int .i64 (p4.1)) = w8 at *
        clear z zc zf hb7 q4
        try clear w7
        go_upto_region 20 with (go_at_call 26; refine (q5.out _).mono ?_; rintro e w7 ⟨rfl, hb7⟩; have z := hB6.below hb7; have zc : w7.cell? ⟨g, 6, none⟩ = some (.int .i64 0) := z.cell 6; have zf := z.frozen 6)
        replace hB6 : Blk (w7.setCell ⟨g, 6, none⟩ (.int .i64 (p5.1))) g 38 (cellsA ⟨(k : Int) + 1, p0.1, p1.1, p2.1 % 4294967296, p3.1, p4.1, p5.1⟩) := z.set_ 6 (.int .i64 (p5.1))
        replace hbr6 := b_set (p := ⟨g, 6, none⟩) (b_step hbr6 hb7) hg6 (.int .i64 (p5.1))
        generalize w7.setCell ⟨g, 6, none⟩ (.int .i64 (p5.1)) = w8 at *
        clear z zc zf hb7 q5
        try clear w7
        have hra : ra = ⟨(k : Int) + 1, p0.1, p1.1, p2.1 % 4294967296, p3.1, p4.1, p5.1⟩ := by rw [HA.out]; congr 1
        rw [← hra] at hB6
        have q7 := Lib.hid (Text_calls ra hT.k1 hT.k9 hT.draw0 hT.draw1 (tell_of hT).all w8)
        have hB8 := hB2.below hbr6
        have hbw8 := b_step hbW hbr6
        clear hra HA hT
        have c0 : w8.cell? ⟨g, 0, none⟩ = some (.int .i64 ra.kind) := hB6.cell 0
        have c1 : w8.cell? ⟨g, 1, none⟩ = some (.int .i64 ra.who) := hB6.cell 1
        have c2 : w8.cell? ⟨g, 2, none⟩ = some (.int .i64 ra.amount) := hB6.cell 2
        have c3 : w8.cell? ⟨g, 3, none⟩ = some (.int .u32 ra.draw) := hB6.cell 3
        have c4 : w8.cell? ⟨g, 4, none⟩ = some (.int .i64 ra.pos) := hB6.cell 4
        have c5 : w8.cell? ⟨g, 5, none⟩ = some (.int .i64 ra.fault) := hB6.cell 5
        have c6 : w8.cell? ⟨g, 6, none⟩ = some (.int .i64 ra.keep) := hB6.cell 6
        by_cases hte : textA ra = s
        · have hn : Hid (refAct s = some ra) := Lib.hid (by rw [hq.out, hst.out, hrs2.out, if_pos hte])
          rw [hte] at q7
          unfold actV str at q7
          clear hst hrs2 hte hq
          go_wp2_with (go_at_call 18; refine q7.out.mono ?_; rintro e w9 ⟨rfl, hb9⟩; have zB := hB8.below hb9; have yB := hB6.below hb9; have y0 : w9.cell? ⟨g, 0, none⟩ = some (.int .i64 ra.kind) := yB.cell 0; have z0 : w9.cell? ⟨w.heap.size, 0, none⟩ = some (.int .i64 0) := zB.cell 0; have f0 := zB.frozen 0; have y1 : w9.cell? ⟨g, 1, none⟩ = some (.int .i64 ra.who) := yB.cell 1; have z1 : w9.cell? ⟨w.heap.size, 1, none⟩ = some (.int .i64 0) := zB.cell 1; have f1 := zB.frozen 1; have y2 : w9.cell? ⟨g, 2, none⟩ = some (.int .i64 ra.amount) := yB.cell 2; have z2 : w9.cell? ⟨w.heap.size, 2, none⟩ = some (.int .i64 0) := zB.cell 2; have f2 := zB.frozen 2; have y3 : w9.cell? ⟨g, 3, none⟩ = some (.int .u32 ra.draw) := yB.cell 3; have z3 : w9.cell? ⟨w.heap.size, 3, none⟩ = some (.int .u32 0) := zB.cell 3; have f3 := zB.frozen 3; have y4 : w9.cell? ⟨g, 4, none⟩ = some (.int .i64 ra.pos) := yB.cell 4; have z4 : w9.cell? ⟨w.heap.size, 4, none⟩ = some (.int .i64 0) := zB.cell 4; have f4 := zB.frozen 4; have y5 : w9.cell? ⟨g, 5, none⟩ = some (.int .i64 ra.fault) := yB.cell 5; have z5 : w9.cell? ⟨w.heap.size, 5, none⟩ = some (.int .i64 0) := zB.cell 5; have f5 := zB.frozen 5; have y6 : w9.cell? ⟨g, 6, none⟩ = some (.int .i64 ra.keep) := yB.cell 6; have z6 : w9.cell? ⟨w.heap.size, 6, none⟩ = some (.int .i64 0) := zB.cell 6; have f6 := zB.frozen 6)
          have hB10 := setsA_blk ra zB
          have hb10 := setsA_below ra (b_step hbw8 hb9) (Nat.le_refl w.heap.size)
          change bodyPost _ _ _ _ _ (setsA w9 w.heap.size ra)
          generalize setsA w9 w.heap.size ra = w10 at *
          clear zB z0 z1 z2 z3 z4 z5 z6 y0 y1 y2 y3 y4 y5 y6 yB
          unfold cellsA at hB10
          have k0 := hB10.cell 0
          have k1 := hB10.cell 1
          have k2 := hB10.cell 2
          have k3 := hB10.cell 3
          have k4 := hB10.cell 4
          have k5 := hB10.cell 5
          have k6 := hB10.cell 6
          simp only [List.getElem?_toArray, List.getElem?_cons_zero, List.getElem?_cons_succ] at k0 k1 k2 k3 k4 k5 k6
          refine bodyPost_ret (v := .tuple #[actV ra, .bool true]) (by
            unfold actV
            simp [results, Tryd.results14, go_sem, *]) rfl ⟨ra, by rw [hn.out]; rfl, fun b hb => by rw [hn.out] at hb; injection hb with hb; exact hb.symm, hb10⟩
        · have hn : Hid (refAct s = refFrom s (9 - (k + 1)) (k + 1)) := Lib.hid (by rw [hq.out, hst.out, hrs2.out, if_neg hte])
          have hte2 : (textA ra == s) = false := by simpa using hte
          generalize textA ra = tx at *
          unfold actV str at q7
          clear hst hrs2 hq
          go_wp2_with (go_at_call 18; refine q7.out.mono ?_; rintro e w9 ⟨rfl, hb9⟩)
          go_roundw
          case rel => exact ⟨k + 1, by go_num, by omega, hn, b_step hbr6 hb9⟩
          case measure => simp [intOf]; omega
        -- where it fits: end
      · have hn : Hid (refAct s = refFrom s (9 - (k + 1)) (k + 1)) := Lib.hid (by rw [hq.out, hst.out, hrs.out, if_neg hpre])
        have hpb : (s.take kn.length == kn) = false := by simpa using hpre
        have o0 := On.cell hcell
        have i0 : (0 : Int) ≤ (k : Int) := by omega
        have i9 : (k : Int) < 9 := by omega
        by_cases hl : s.length < kn.length
        · have e1 : decide ((s.length : Int) < (kn.length : Int)) = true := decide_eq_true (by omega)
          have e2 : (s.length : Int) < (kn.length : Int) := by omega
          clear hpre hst hrs
          go_upto_region 5 with (fail)
          refine wp_region_on (by kernel_rfl) (by kernel_rfl) ?_
          repeat (go_big_quiet_step (fail))
          refine wpQuiet_nil ?_
          rintro _ ⟨⟨w2, hb2⟩, rfl⟩
          go_wp2_with fail
          go_roundw
          case rel => exact ⟨k + 1, by go_num, by omega, hn, b_step hbr hb2⟩
          case measure => simp [intOf]; omega
        · have e1 : decide ((s.length : Int) < (kn.length : Int)) = false := decide_eq_false (by omega)
          have e2 : ¬ (s.length : Int) < (kn.length : Int) := by omega
          have e3 : (kn.length : Int) ≤ (s.length : Int) := by omega
          clear hpre hst hrs
          go_upto_region 5 with (fail)
          refine wp_region_on (by kernel_rfl) (by kernel_rfl) ?_
          repeat (go_big_quiet_step (fail))
          refine wpQuiet_nil ?_
          rintro _ ⟨⟨w2, hb2⟩, rfl⟩
          go_wp2_with fail
          go_roundw
          case rel => exact ⟨k + 1, by go_num, by omega, hn, b_step hbr hb2⟩
          case measure => simp [intOf]; omega
    · obtain rfl : k = 9 := by omega
      have hn : Hid (refAct s = none) := Lib.hid (by rw [hq.out]; rfl)
      have z0 : wr.cell? ⟨w.heap.size, 0, none⟩ = some (.int .i64 0) := hBr.cell 0
      have f0 := hBr.frozen 0
      have z1 : wr.cell? ⟨w.heap.size, 1, none⟩ = some (.int .i64 0) := hBr.cell 1
      have f1 := hBr.frozen 1
      have z2 : wr.cell? ⟨w.heap.size, 2, none⟩ = some (.int .i64 0) := hBr.cell 2
      have f2 := hBr.frozen 2
      have z3 : wr.cell? ⟨w.heap.size, 3, none⟩ = some (.int .u32 0) := hBr.cell 3
      have f3 := hBr.frozen 3
      have z4 : wr.cell? ⟨w.heap.size, 4, none⟩ = some (.int .i64 0) := hBr.cell 4
      have f4 := hBr.frozen 4
      have z5 : wr.cell? ⟨w.heap.size, 5, none⟩ = some (.int .i64 0) := hBr.cell 5
      have f5 := hBr.frozen 5
      have z6 : wr.cell? ⟨w.heap.size, 6, none⟩ = some (.int .i64 0) := hBr.cell 6
      have f6 := hBr.frozen 6
      have hBx := Lib.hid hBr
      clear hBr
      go_wp2_with fail
      have hB10 := setsA_blk (zeroA 0) hBx.out
      have hb10 := setsA_below (zeroA 0) hbr' (Nat.le_refl w.heap.size)
      change bodyPost _ _ _ _ _ (setsA wr w.heap.size (zeroA 0))
      generalize setsA wr w.heap.size (zeroA 0) = w10 at *
      clear z0 z1 z2 z3 z4 z5 z6 hBx
      unfold cellsA zeroA at hB10
      have k0 := hB10.cell 0
      have k1 := hB10.cell 1
      have k2 := hB10.cell 2
      have k3 := hB10.cell 3
      have k4 := hB10.cell 4
      have k5 := hB10.cell 5
      have k6 := hB10.cell 6
      simp only [List.getElem?_toArray, List.getElem?_cons_zero, List.getElem?_cons_succ] at k0 k1 k2 k3 k4 k5 k6
      refine bodyPost_ret (v := .tuple #[actV (zeroA 0), .bool false]) (by
        unfold actV zeroA
        simp [results, Tryd.results14, go_sem, *]) rfl ⟨zeroA 0, by rw [hn.out]; rfl, (fun b hb => by rw [hn.out] at hb; cases hb), hb10⟩
end Go.Proofs.YtlldjildedbjlaaDoor.ToldW
