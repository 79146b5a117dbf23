/- The reference's Parse, walked. No condition. -/
import Derived.Test.YtlldjildedbjlaaDoorToldZ
import Derived.Test.YtlldjildedbjlaaDoorToldY
import Derived.Test.YtlldjildedbjlaaDoorToldU
namespace Go.Proofs.YtlldjildedbjlaaDoor.ToldW
open Go.RowKit Go.Proofs.YtlldjildedbjlaaDoor.Com Go.Proofs.YtlldjildedbjlaaDoor.Ord Go.Proofs.YtlldjildedbjlaaDoor.ToldP
set_option linter.unusedVariables false
theorem ext_mid (s : List UInt8) (k j : Nat) : (⟨s.toArray⟩ : ByteArray).extract k j = ⟨((s.drop k).take (j - k)).toArray⟩ := by
  apply ByteArray.ext
  simp only [ByteArray.data_extract, List.extract_toArray, List.extract_eq_take_drop]
/-- The line behind k ends at j. -/
theorem line_end (s : List UInt8) (k j : Nat) (hk : k < s.length) (hkj : k ≤ j) (h : (10 : UInt8) ∉ (s.drop k).take (j - k)) (h10 : s[j]? = some 10) :
    linesP (s.drop k) = ((s.drop k).take (j - k), true) :: linesP (s.drop (j + 1)) := by
  have hj : j < s.length := (List.getElem?_eq_some_iff.1 h10).1
  have e : s.drop k = (s.drop k).take (j - k) ++ 10 :: s.drop (j + 1) := by
    have h1 : (s.drop k).drop (j - k) = 10 :: s.drop (j + 1) := by
      rw [List.drop_drop, show k + (j - k) = j by omega, List.drop_eq_getElem_cons hj]
      rw [List.getElem?_eq_getElem hj] at h10
      injection h10 with h10
      rw [h10]
    rw [← h1, List.take_append_drop]
  have hne : s.drop k ≠ [] := by
    intro h0
    have := congrArg List.length h0
    simp at this
    omega
  rw [linesP_cons _ hne]
  have hc := cut_hit ((s.drop k).take (j - k)) (s.drop (j + 1)) 10 h
  rw [← e] at hc
  rw [hc]
theorem line_last (s : List UInt8) (k : Nat) (hk : k < s.length) (h : (10 : UInt8) ∉ s.drop k) : linesP (s.drop k) = [(s.drop k, false)] := by
  have hne : s.drop k ≠ [] := by
    intro h0
    have := congrArg List.length h0
    simp at this
    omega
  rw [linesP_cons _ hne, cut_miss _ _ h]
  rfl
set_option maxRecDepth 100000 in
set_option maxHeartbeats 1000000 in
theorem RParse_calls (s : List UInt8) (hs : s.length ≤ 100000) (w : World) : Calls Tryd.prog 8 #[str s] w (ParsePost s w) := by
  obtain ⟨i0, hi0, hz0, hz1, hz2⟩ := info_parts infoAct
  have HI := Lib.hid (And.intro hi0 (And.intro hz0 (And.intro hz1 hz2)))
  clear hi0 hz0 hz1 hz2
  have e10 : (10 : UInt8).toNat = 10 := by decide
  unfold str
  go_enter Tryd.func8, Tryd.ntmps8
  go_wp2_with fail
  go_loopw [5, 6, 7] (fun v f c wr => ∃ (k : Nat) (acc : List DoA), f = .int .i64 k ∧ k ≤ s.length ∧ c = .int .i64 acc.length ∧ acc.length ≤ 400 ∧ Hid (parseP s = parseG (linesP (s.drop k)) acc) ∧ wr.ownsRow w.heap.size 38 7 v acc.length (cellsAs acc) ∧ Below w.heap.size w wr) (fun v f c _ => s.length - (intOf f).toNat)
  case atStart => exact ⟨0, [], rfl, by omega, rfl, by simp, Lib.hid rfl, own_none _ _ _ _, b_refl _⟩
  case round =>
    obtain ⟨k, acc, rfl, hk, rfl, ha, hp, ho, hb⟩ := hrel
    by_cases hlt : k < s.length
    · by_cases hc : 400 < acc.length + 1
      · have hz : Hid (parseP s = ([], 401, 1)) := Lib.hid (by
          have hne : s.drop k ≠ [] := by
            intro h0
            have := congrArg List.length h0
            simp at this
            omega
          rw [hp.out, linesP_cons _ hne, parseG, if_pos hc]
          have : acc.length = 400 := by omega
          rw [this])
        have t1 : (400 : Int) < (acc.length : Int) + 1 := by omega
        clear hc
        go_wp2_with fail
        refine bodyPost_ret (v := .tuple #[.slice none 0 0, .int .i64 401, .int .i64 1]) (by simp [results, Tryd.results8, go_sem]) rfl ⟨.slice none 0 0, by rw [hz.out]; rfl, by rw [hz.out]; exact own_none _ _ _ _, hb⟩
      · have t1 : ¬ (400 : Int) < (acc.length : Int) + 1 := by omega
        have HC := Lib.hid hc
        clear hc
        go_wp2_with fail
        go_loopw [8] (fun t wx => ∃ j : Nat, t = .int .i64 j ∧ k ≤ j ∧ j ≤ s.length ∧ Hid ((10 : UInt8) ∉ (s.drop k).take (j - k)) ∧ wx = wr) (fun t _ => s.length - (intOf t).toNat)
        case atStart => exact ⟨k, rfl, by omega, by omega, Lib.hid (by simp), rfl⟩
        case round =>
          obtain ⟨j, rfl, hkj, hj, hno, rfl⟩ := hrel
          by_cases hjl : j < s.length
          · obtain ⟨c, hcj⟩ : ∃ c, s[j]? = some c := ⟨_, List.getElem?_eq_getElem hjl⟩
            have hg := ba_get s _ c hcj
            by_cases h10 : c = 10
            · -- the line's end
              subst h10
              have hx : ((s.drop k).take (j - k)).length ≤ 100000 := by rw [List.length_take, List.length_drop]; omega
              have hl := line_end s k j hlt hkj hno.out hcj
              have hg2 : Hid (parseP s = match actP ((s.drop k).take (j - k)) with
                  | none => ([], acc.length + 1, 8)
                  | some a => parseG (linesP (s.drop (j + 1))) (acc ++ [a])) := Lib.hid (by
                rw [hp.out, hl, parseG, if_neg HC.out]
                dsimp only
                cases actP ((s.drop k).take (j - k)) <;> rfl)
              have q1 := Lib.hid (RAct_calls ((s.drop k).take (j - k)) hx wr)
              rw [refAct_eq] at q1
              have e1 : ((j : Int) == (s.length : Int)) = false := by simp; omega
              have j1 : j + 1 ≤ s.length := by omega
              have hext := ext_mid s k j
              clear hcj hl hno hp
              generalize (s.drop k).take (j - k) = x at *
              obtain ⟨A, c, rfl⟩ := own_slice ho
              unfold str at q1
              cases hax : actP x with
              | none =>
                rw [hax] at hg2 q1
                have hz : Hid (parseP s = ([], acc.length + 1, 8)) := Lib.hid hg2.out
                clear hg2 hax
                go_wp2_with (go_at_call 14; refine q1.out.mono ?_; rintro e w4 ⟨a, rfl, _, hb4⟩; unfold actV)
                have hb5 := b_step hb hb4
                refine bodyPost_ret (v := .tuple #[.slice none 0 0, .int .i64 (acc.length + 1 : Nat), .int .i64 8]) (by simp [results, Tryd.results8, go_sem]) rfl ⟨.slice none 0 0, by rw [hz.out]; rfl, by rw [hz.out]; exact own_none _ _ _ _, ?_⟩
                exact b_alloc hb5 (.cells (cellsA a) 38)
              | some a =>
                rw [hax] at hg2 q1
                have hz : Hid (parseP s = parseG (linesP (s.drop (j + 1))) (acc ++ [a])) := Lib.hid hg2.out
                clear hg2 hax
                go_upto_region 12 with (go_at_call 14; refine q1.out.mono ?_; rintro e w4 ⟨a', rfl, ha', hb4⟩; obtain rfl := ha' a rfl; unfold actV)
                have hb5 := b_alloc (b_step hb hb4) (.cells (cellsA a) 38)
                have ho5 := own_below (own_below ho hb4) (b_alloc (b_refl w4) (.cells (cellsA a) 38))
                have dA := Blk.new w4 38 (cellsA a)
                change Code.wp _ _ _ _ (w4.alloc (.cells (cellsA a) 38))
                have hsz : w4.heap.size < (w4.alloc (.cells (cellsA a) 38)).heap.size := by simp
                generalize w4.alloc (.cells (cellsA a) 38) = w5 at *
                generalize w4.heap.size = ga at *
                have y0 := dA.cell 0
                have y1 := dA.cell 1
                have y2 := dA.cell 2
                have y3 := dA.cell 3
                have y4 := dA.cell 4
                have y5 := dA.cell 5
                have y6 := dA.cell 6
                unfold cellsA at y0 y1 y2 y3 y4 y5 y6
                simp only [List.getElem?_toArray, List.getElem?_cons_zero, List.getElem?_cons_succ] at y0 y1 y2 y3 y4 y5 y6
                have ho6 := own_below ho5 (b_alloc (b_refl w5) (.cells (cellsA a) 38))
                have hnc := new_cells w5 (cellsA a) 38
                have hlen : (acc ++ [a]).length = acc.length + 1 := by simp
                have hb6 := b_alloc hb5 (.cells (cellsA a) 38)
                have hlen2 := Lib.hid hlen
                clear hlen q1 hext hg e1
                have e1 : ((j : Int) == (s.length : Int)) = false := by simp; omega
                go_upto_region 14 with (fail)
                obtain ⟨hi0, hz0, hz1, hz2⟩ := HI.out
                go_wp2_with (at_builtin; refine wpList_append_own _ rfl _ _ 23 rfl w.heap.size 38 i0 _ 7 56 Tryd.underlying23 hi0 hz0 hz1 hz2 rfl (by omega) _ _ _ rfl ho6 ⟨w5.heap.size, 0, none⟩ 1 1 (cellsA a).toList rfl rfl hnc (one_cellsA a) (by simp only [maxLen]; omega) (by omega) hb6.size ?_; intro v' w1 hown' hgrow hnil; obtain ⟨g', cap', rfl⟩ := ownsRow_succ hown')
                have hb7 := b_grown_own hb6 ho6 (Nat.le_refl _) hgrow
                go_roundw
                case rel => exact ⟨j + 1, acc ++ [a], by go_num, j1, by simp, by rw [hlen2.out]; omega, hz, by rw [cellsAs_snoc, hlen2.out]; exact hown', hb7⟩
                case measure => simp [intOf]; omega
            · have hne : ((c.toNat : Int) != 10) = true := by
                simp only [bne_iff_ne, ne_eq]
                intro e
                exact h10 (UInt8.toNat_inj.1 (by omega))
              have hno2 : Hid ((10 : UInt8) ∉ (s.drop k).take (j + 1 - k)) := Lib.hid (by
                rw [show j + 1 - k = (j - k) + 1 by omega, List.take_add_one, List.mem_append, not_or]
                refine ⟨hno.out, ?_⟩
                rw [List.getElem?_drop, show k + (j - k) = j by omega, hcj]
                simpa using Ne.symm h10)
              clear hcj
              go_wp2_with fail
              go_roundw
              case rel => exact ⟨j + 1, by go_num, by omega, by omega, hno2, trivial⟩
              case measure => simp [intOf]; omega
          · obtain rfl : j = s.length := by omega
            have hno2 : (10 : UInt8) ∉ s.drop k := by
              have := hno.out
              rw [List.take_of_length_le (by rw [List.length_drop]; omega)] at this
              exact this
            have hx : (s.drop k).length ≤ 100000 := by rw [List.length_drop]; omega
            have hz : Hid (parseP s = ([], acc.length + 1, 8)) := Lib.hid (by
              rw [hp.out, line_last s k hlt hno2, parseG, if_neg HC.out]
              dsimp only
              cases actP (s.drop k) <;> rfl)
            have q1 := Lib.hid (RAct_calls (s.drop k) hx wr)
            have hext := ext_drop s k
            clear hno2 hp hno
            generalize s.drop k = x at *
            unfold str at q1
            cases hax : (refAct x).isSome with
            | true =>
              rw [hax] at q1
              clear hax
              go_wp2_with (go_at_call 14; refine q1.out.mono ?_; rintro e w4 ⟨a, rfl, _, hb4⟩; unfold actV)
              have hb5 := b_step hb hb4
              refine bodyPost_ret (v := .tuple #[.slice none 0 0, .int .i64 (acc.length + 1 : Nat), .int .i64 8]) (by simp [results, Tryd.results8, go_sem]) rfl ⟨.slice none 0 0, by rw [hz.out]; rfl, by rw [hz.out]; exact own_none _ _ _ _, ?_⟩
              exact b_alloc hb5 (.cells (cellsA a) 38)
            | false =>
              rw [hax] at q1
              clear hax
              go_wp2_with (go_at_call 14; refine q1.out.mono ?_; rintro e w4 ⟨a, rfl, _, hb4⟩; unfold actV)
              have hb5 := b_step hb hb4
              refine bodyPost_ret (v := .tuple #[.slice none 0 0, .int .i64 (acc.length + 1 : Nat), .int .i64 8]) (by simp [results, Tryd.results8, go_sem]) rfl ⟨.slice none 0 0, by rw [hz.out]; rfl, by rw [hz.out]; exact own_none _ _ _ _, ?_⟩
              exact b_alloc hb5 (.cells (cellsA a) 38)
    · obtain rfl : k = s.length := by omega
      have hz : Hid (parseP s = (acc, 0, 0)) := Lib.hid (by rw [hp.out, List.drop_length]; rfl)
      clear hlt
      obtain ⟨A, c, rfl⟩ := own_slice ho
      go_wp2_with fail
      refine bodyPost_ret (v := .tuple #[.slice A acc.length c, .int .i64 0, .int .i64 0]) (by simp [results, Tryd.results8, go_sem]) rfl ⟨.slice A acc.length c, by rw [hz.out]; rfl, by rw [hz.out]; exact ho, hb⟩
end Go.Proofs.YtlldjildedbjlaaDoor.ToldW
