/- Layer 3's walks: the oldest of stamps. No condition. -/
import Derived.Test.YtefihmfilahppaaStamp
namespace Go.Proofs.Ytefihmfilahppaa.StampW
open Go.RowKit Go.Proofs.Ytefihmfilahppaa.Com
set_option linter.unusedVariables false
/-- A stamp's cells. -/
def cellsS (l : List (Int × Int)) : List Value := l.flatMap fun s => [.int .i64 s.1, .int .i64 s.2]
/-- The first of some, and what is least of it and those behind. -/
def least (s : Int × Int) (l : List (Int × Int)) : Int × Int := l.foldl (fun o x => if older x.1 x.2 o.1 o.2 then x else o) s
def leastOf : List (Int × Int) → Int × Int
  | [] => (0, 0)
  | s :: t => least s t

theorem cellsS_len (l : List (Int × Int)) : (cellsS l).length = l.length * 2 := by
  induction l with
  | nil => rfl
  | cons a l ih => simp [cellsS, List.flatMap_cons] at ih ⊢; omega
theorem cellsS_at (l : List (Int × Int)) (k : Nat) (h : k < l.length) : (cellsS l)[k * 2]? = some (.int .i64 l[k].1) ∧ (cellsS l)[k * 2 + 1]? = some (.int .i64 l[k].2) := by
  induction l generalizing k with
  | nil => simp at h
  | cons a l ih =>
    cases k with
    | zero => simp [cellsS, List.flatMap_cons]
    | succ k =>
      have := ih k (by simpa using h)
      simp only [cellsS, List.flatMap_cons, Nat.succ_mul, List.getElem_cons_succ] at this ⊢
      constructor
      · rw [← this.1]; simp
      · rw [← this.2, show k * 2 + 2 + 1 = (k * 2 + 1) + 1 + 1 by omega]; simp
theorem leastOf_snoc (l : List (Int × Int)) (k : Nat) (h : k < l.length) (h0 : 0 < k) :
    leastOf (l.take (k + 1)) = if older l[k].1 l[k].2 (leastOf (l.take k)).1 (leastOf (l.take k)).2 then l[k] else leastOf (l.take k) := by
  cases l with
  | nil => simp at h
  | cons s t =>
    obtain ⟨k, rfl⟩ : ∃ j, k = j + 1 := ⟨k - 1, by omega⟩
    have hk : k < t.length := by simpa using h
    simp only [List.take_succ_cons, leastOf, List.getElem_cons_succ]
    rw [List.take_succ_eq_append_getElem hk, least, List.foldl_append]
    rfl
theorem leastOf_one (l : List (Int × Int)) (h : 0 < l.length) : leastOf (l.take 1) = l[0] := by
  cases l with
  | nil => simp at h
  | cons s t => simp [leastOf, least]

theorem least_calls (A : Option Addr) (n c : Nat) (l : List (Int × Int)) (w : World) (hr : Reads w 2 A n (cellsS l)) (hn : n ≤ 1000000) :
    Calls Try.prog 44 #[.slice A n c, .func (.func 43) #[] #[]] w fun e w' => e = .returned (.tuple #[.agg #[.int .i64 (leastOf l).1, .int .i64 (leastOf l).2], .bool (decide (0 < n))]) ∧ Below w.heap.size w w' := by
  have hll : l.length = n := by have := hr.1; rw [cellsS_len] at this; omega
  go_enter Try.func44, Try.ntmps44
  go_wp2_with fail
  go_loopw [11] (fun i wr => ∃ (k : Nat) (o : Int × Int), i = .int .i64 k ∧ k ≤ n ∧ Hid (o = leastOf (l.take k)) ∧ Below w.heap.size w wr ∧ Blk wr w.heap.size 68 #[.int .i64 0, .int .i64 0] ∧ Blk wr (w.heap.size + 1) 68 #[.int .i64 o.1, .int .i64 o.2]) (fun i _ => n - (intOf i).toNat)
  case atStart => exact ⟨0, (0, 0), rfl, by omega, Lib.hid rfl, by repeat (first | exact b_refl _ | apply b_drew | apply b_drewN | apply b_alloc), (Blk.new _ _ _).alloc _, by have := Blk.new (w.alloc (.cells #[.int .i64 0, .int .i64 0] 68)) 68 #[.int .i64 0, .int .i64 0]; simpa using this⟩
  case round =>
    obtain ⟨k, o, rfl, hk, ho, hb, hb0, hb1⟩ := hrel
    by_cases hlt : k < n
    · obtain ⟨x0, x1⟩ := cellsS_at l k (by omega)
      have hr' := hr.below hb
      obtain ⟨ad, rfl, _⟩ := hr.2 (by omega)
      obtain ⟨c0, c1⟩ := hr'.two hlt x0 x1
      have hsz := hb.size
      clear x0 x1 hr
      have e0 := hb1.cell 0
      have e1 := hb1.cell 1
      have f0 := hb1.frozen 0
      have f1 := hb1.frozen 1
      have hlt1 := hb1.lt
      have hlt0 := hb0.lt
      simp only [List.getElem?_toArray, List.getElem?_cons_zero, List.getElem?_cons_succ] at e0 e1
      by_cases h0 : k = 0
      · have hk0 : ((k : Int) == 0) = true := by simp [h0]
        have H0 := Lib.hid h0
        clear h0
        go_wp2_with fail
        go_roundw
        case rel =>
          refine ⟨k + 1, l[k], by go_num, by omega, Lib.hid ?_, b_alloc (b_set (b_set hb (by simp) _) (by simp) _) _, ((hb0.far (by simp) _).far (by simp) _).alloc _, ?_⟩
          · have := H0.out
            subst this
            exact (leastOf_one l (by omega)).symm
          · have := ((hb1.set_ 0 (.int .i64 l[k].1)).set_ 1 (.int .i64 l[k].2)).alloc (.cells #[.int .i64 l[k].1, .int .i64 l[k].2] 68)
            simpa using this
        case measure => simp [intOf]; omega
      · have hk0 : ((k : Int) == 0) = false := by simp [h0]
        have H0 := Lib.hid h0
        clear h0
        have hL : leastOf (l.take (k + 1)) = if older l[k].1 l[k].2 o.1 o.2 then l[k] else o := by
          rw [leastOf_snoc l k (by omega) (by have := H0.out; omega), ← ho.out]
        generalize hq : older l[k].1 l[k].2 o.1 o.2 = r at hL
        have q := Lib.hid (fun w => hq ▸ before l[k].1 l[k].2 o.1 o.2 w)
        have HL := Lib.hid hL
        clear hq hL
        cases r
        · go_wp2_with fail
          ((with_reducible refine (q.out _).mono ?_); rintro e w2 ⟨rfl, hb2⟩)
          go_wp2_with fail
          go_roundw
          case rel => exact ⟨k + 1, o, by go_num, by omega, Lib.hid (by rw [HL.out]; rfl), b_step (b_alloc hb _) hb2, (hb0.alloc _).below hb2, (hb1.alloc _).below hb2⟩
          case measure => simp [intOf]; omega
        · go_wp2_with fail
          ((with_reducible refine (q.out _).mono ?_); rintro e w2 ⟨rfl, hb2⟩)
          have z0 := (hb1.alloc (.cells #[.int .i64 l[k].1, .int .i64 l[k].2] 68)).below hb2
          have z1 := (hb0.alloc (.cells #[.int .i64 l[k].1, .int .i64 l[k].2] 68)).below hb2
          have z2 := (Blk.new wr 68 #[.int .i64 l[k].1, .int .i64 l[k].2]).below hb2
          have z3 : Below w.heap.size w w2 := b_step (b_alloc hb _) hb2
          clear e0 e1 f0 f1 hb hb0 hb1
          have e0 := z0.cell 0
          have e1 := z0.cell 1
          have f0 := z0.frozen 0
          have f1 := z0.frozen 1
          have e2 := z2.cell 0
          have e3 := z2.cell 1
          simp only [List.getElem?_toArray, List.getElem?_cons_zero, List.getElem?_cons_succ] at e0 e1 e2 e3
          go_wp2_with fail
          go_roundw
          case rel =>
            refine ⟨k + 1, l[k], by go_num, by omega, Lib.hid (by rw [HL.out]; rfl), b_set (b_set z3 (by simp) _) (by simp) _, (z1.far (by simp) _).far (by simp) _, ?_⟩
            have := (z0.set_ 0 (.int .i64 l[k].1)).set_ 1 (.int .i64 l[k].2)
            simpa using this
          case measure => simp [intOf]; omega
    · have hke : Hid (k = n) := Lib.hid (by omega)
      have e0 := hb1.cell 0
      have e1 := hb1.cell 1
      have e2 := hb0.cell 0
      have e3 := hb0.cell 1
      have f2 := hb0.frozen 0
      have f3 := hb0.frozen 1
      simp only [List.getElem?_toArray, List.getElem?_cons_zero, List.getElem?_cons_succ] at e0 e1 e2 e3
      go_wp2_with fail
      have e : leastOf l = o := by rw [ho.out, hke.out, ← hll, List.take_length]
      rw [e]
      have hB := (hb0.set_ 0 (.int .i64 o.1)).set_ 1 (.int .i64 o.2)
      have g0 := hB.cell 0
      have g1 := hB.cell 1
      simp only [Array.setIfInBounds, List.size_toArray, List.length_cons, List.length_nil] at g0 g1
      refine bodyPost_ret (v := .tuple #[.agg #[.int .i64 o.1, .int .i64 o.2], .bool (decide (0 < n))]) (by simp [results, Try.results44, go_sem, g0, g1]) rfl ⟨rfl, ?_⟩
      exact b_set (b_set hb (by simp) _) (by simp) _

theorem cellsS_zeros (n : Nat) : cellsS (List.replicate n (0, 0)) = List.replicate (n * 2) (.int .i64 0) := by
  induction n with
  | zero => rfl
  | succ n ih =>
    rw [List.replicate_succ, Nat.succ_mul]
    simp only [cellsS, List.flatMap_cons] at ih ⊢
    rw [ih]
    simp [List.replicate_succ]
theorem made_zeros (n : Nat) : (madeCells (Value.agg #[.int .i64 0, .int .i64 0]).cells (n * 2)).toList = cellsS (List.replicate n (0, 0)) := by
  rw [cellsS_zeros]
  apply List.ext_getElem?
  intro i
  simp only [madeCells, Value.cells, Array.toList_map, Array.toList_range, List.getElem?_map, List.getElem?_replicate]
  by_cases h : i < n * 2
  · rw [List.getElem?_range h, if_pos h]
    rcases (by omega : i % 2 = 0 ∨ i % 2 = 1) with h2 | h2 <;> simp [h2]
  · rw [List.getElem?_eq_none (by simpa using h), if_neg h]; rfl
theorem cellsS_set (l : List (Int × Int)) (k : Nat) (x : Int × Int) (h : k < l.length) : ((cellsS l).set (k * 2) (.int .i64 x.1)).set (k * 2 + 1) (.int .i64 x.2) = cellsS (l.set k x) := by
  induction l generalizing k with
  | nil => simp at h
  | cons a l ih =>
    cases k with
    | zero => simp [cellsS, List.flatMap_cons]
    | succ k =>
      have := ih k (by simpa using h)
      simp only [cellsS, List.flatMap_cons, Nat.succ_mul, List.set_cons_succ] at this ⊢
      rw [← this]
      simp
theorem fill_step (l : List (Int × Int)) (n k : Nat) (hl : l.length = n) (hk : k < n) : (l.take k ++ List.replicate (n - k) (0, 0)).set k (l[k]'(by omega)) = l.take (k + 1) ++ List.replicate (n - (k + 1)) (0, 0) := by
  rw [List.set_append_right _ _ (by simp; omega)]
  have : k - (l.take k).length = 0 := by simp; omega
  rw [this, show n - k = (n - (k + 1)) + 1 by omega, List.replicate_succ, List.set_cons_zero, List.take_succ_eq_append_getElem (show k < l.length by omega)]
  simp only [List.append_assoc, List.singleton_append]

theorem infoMark : (Try.prog.info? 68).map (fun i => (i.zero, i.size, i.bytes)) = some (some (.agg #[.int .i64 0, .int .i64 0]), 2, 16) := by kernel_rfl

theorem Oldest_calls (A : Option Addr) (n c : Nat) (l : List (Int × Int)) (w : World) (hr : Reads w 2 A n (cellsS l)) (hn : n ≤ 1000000) :
    Calls Try.prog 28 #[.slice A n c] w fun e w' => e = .returned (.tuple #[.agg #[.int .i64 (leastOf l).1, .int .i64 (leastOf l).2], .bool (decide (0 < n))]) ∧ Below w.heap.size w w' := by
  have hll : l.length = n := by have := hr.1; rw [cellsS_len] at this; omega
  obtain ⟨i0, hi, hz0, hz1, hz2⟩ := info_parts infoMark
  obtain ⟨w1, hmk, hown, hg⟩ := run_make_full (P := Try.prog) (w := w.alloc (.cells #[.int .i64 0, .int .i64 0] 30)) w.heap.size 70 68 i0 _ 2 Try.underlying70 hi hz0 hz1 .i64 .i64 n (by rw [hz2]; omega) (by unfold maxLen; omega) (by simp)
  rw [made_zeros] at hown
  clear hi hz0 hz1 hz2
  have hb1 : Below w.heap.size w w1 := b_grown (b_alloc (b_refl w) _) hg (by simp)
  have hR0 := ((Blk.new w 30 #[.int .i64 0, .int .i64 0]).grown hg (by simp))
  have Hown := Lib.hid hown
  clear hown hg
  go_enter Try.func28, Try.ntmps28
  go_wp2_with fail
  go_loopw [14] (fun i wr => ∃ (k : Nat), i = .int .i64 k ∧ k ≤ n ∧ Below w.heap.size w wr ∧ Blk wr w.heap.size 30 #[.int .i64 0, .int .i64 0] ∧ wr.ownsRow w.heap.size 68 2 (.slice (some ⟨w.heap.size + 1, 0, none⟩) n n) n (cellsS (l.take k ++ List.replicate (n - k) (0, 0)))) (fun i _ => n - (intOf i).toNat)
  case atStart => exact ⟨0, rfl, by omega, hb1, hR0, by simpa using Hown.out⟩
  case round =>
    obtain ⟨k, rfl, hk, hb, hR, hown⟩ := hrel
    clear hb1 hR0 Hown
    by_cases hlt : k < n
    · obtain ⟨x0, x1⟩ := cellsS_at l k (by omega)
      have hr' := hr.below hb
      obtain ⟨ad, rfl, _⟩ := hr.2 (by omega)
      obtain ⟨c0, c1⟩ := hr'.two hlt x0 x1
      clear x0 x1 hr
      obtain ⟨y0, y1⟩ := cellsS_at (l.take k ++ List.replicate (n - k) (0, 0)) k (by simp; omega)
      have e0 := (hown.cellAt (k * 2) (by omega)).trans y0
      have e1 := (hown.cellAt (k * 2 + 1) (by omega)).trans y1
      have f0 := hown.frozenAt (k * 2)
      have f1 := hown.frozenAt (k * 2 + 1)
      have hlt1 : w.heap.size + 1 < wr.heap.size := World.block_lt_of_cell? wr _ e0
      have hlt0 := hR.lt
      clear y0 y1
      go_wp2_with fail
      go_roundw
      case rel =>
        refine ⟨k + 1, by go_num, by omega, b_alloc (b_set (b_set hb (by simp) _) (by simp) _) _, ((hR.far (by simp) _).far (by simp) _).alloc _, ?_⟩
        have z := ((hown.stored (k * 2) (.int .i64 l[k].1)).1.stored (k * 2 + 1) (.int .i64 l[k].2)).1.alloc (.cells #[.int .i64 l[k].1, .int .i64 l[k].2] 30)
        rw [cellsS_set _ k _ (by simp; omega), fill_step l n k hll hlt] at z
        exact z
      case measure => simp [intOf]; omega
    · obtain rfl : k = n := by omega
      have hrow : Reads wr 2 (some ⟨w.heap.size + 1, 0, none⟩) k (cellsS l) := by
        have := Reads.of_own hown
        rw [Nat.sub_self, List.replicate_zero, List.append_nil, ← hll, List.take_length] at this
        rw [← hll]; exact this
      go_wp2_with fail
      refine (least_calls _ _ _ l _ hrow hn).mono ?_
      rintro e w2 ⟨rfl, hb2⟩
      have hR2 := hR.below hb2
      have e0 := hR2.cell 0
      have e1 := hR2.cell 1
      have f0 := hR2.frozen 0
      have f1 := hR2.frozen 1
      have hl2 := hR2.lt
      simp only [List.getElem?_toArray, List.getElem?_cons_zero, List.getElem?_cons_succ] at e0 e1
      go_wp2_with fail
      have hB := ((hR2.set_ 0 (.int .i64 (leastOf l).1)).set_ 1 (.int .i64 (leastOf l).2)).alloc (.cells #[.int .i64 (leastOf l).1, .int .i64 (leastOf l).2] 68)
      have g0 := hB.cell 0
      have g1 := hB.cell 1
      simp only [Array.setIfInBounds, List.size_toArray, List.length_cons, List.length_nil] at g0 g1
      refine bodyPost_ret (v := .tuple #[.agg #[.int .i64 (leastOf l).1, .int .i64 (leastOf l).2], .bool (decide (0 < k))]) (by simp [results, Try.results28, go_sem, g0, g1]) rfl ⟨rfl, ?_⟩
      exact b_alloc (b_set (b_set (b_step hb hb2) (by simp) _) (by simp) _) _

theorem cellsS_get (l : List (Int × Int)) (k : Nat) (h : k < l.length) : (cellsS l)[k * 2]? = some (.int .i64 (l.getD k (0, 0)).1) ∧ (cellsS l)[k * 2 + 1]? = some (.int .i64 (l.getD k (0, 0)).2) := by
  have := cellsS_at l k h
  rwa [List.getD_eq_getElem?_getD, List.getElem?_eq_getElem h]
theorem leastOf_more (l : List (Int × Int)) (k : Nat) (h : k < l.length) (h0 : 0 < k) :
    leastOf (l.take (k + 1)) = if older (l.getD k (0, 0)).1 (l.getD k (0, 0)).2 (leastOf (l.take k)).1 (leastOf (l.take k)).2 then l.getD k (0, 0) else leastOf (l.take k) := by
  have := leastOf_snoc l k h h0
  rwa [List.getD_eq_getElem?_getD, List.getElem?_eq_getElem h]
/-- The document's. -/
theorem ROldest_calls (A : Option Addr) (n c : Nat) (l : List (Int × Int)) (w : World) (hr : Reads w 2 A n (cellsS l)) (hn : n ≤ 1000000) :
    Calls Try.prog 29 #[.slice A n c] w fun e w' => e = .returned (.tuple #[.agg #[.int .i64 (leastOf l).1, .int .i64 (leastOf l).2], .bool (decide (0 < n))]) ∧ Below w.heap.size w w' := by
  have hll : l.length = n := by have := hr.1; rw [cellsS_len] at this; omega
  by_cases hz : n = 0
  · have hl0 : l = [] := List.eq_nil_of_length_eq_zero (by omega)
    subst hl0
    subst hz
    clear hr hll
    go_enter Try.func29, Try.ntmps29
    go_wp2
    refine bodyPost_ret (v := .tuple #[.agg #[.int .i64 0, .int .i64 0], .bool false]) (by simp [results, Try.results29, go_sem]) rfl ⟨rfl, ?_⟩
    repeat (first | exact b_refl _ | apply b_drew | apply b_drewN | apply b_alloc)
  · obtain ⟨ad, rfl, hcell⟩ := hr.2 (by omega)
    obtain ⟨x0, x1⟩ := cellsS_get l 0 (by omega)
    obtain ⟨c0, c1⟩ := hr.two (k := 0) (by omega) x0 x1
    have ha : ad.add (0 * 2) = ad := by simp [Addr.add]
    rw [ha] at c0 c1
    have hz' : ((n : Int) == 0) = false := by simp [hz]
    have hlad := World.block_lt_of_cell? w _ c0
    have HR := Lib.hid hr
    have HC := Lib.hid hcell
    have HZ := Lib.hid hz
    have hn0 : 0 < n := by omega
    have hg : leastOf (l.take 1) = l.getD 0 (0, 0) := by rw [leastOf_one l (by omega), List.getD_eq_getElem?_getD, List.getElem?_eq_getElem (by omega)]; rfl
    rw [← hg] at c0 c1
    clear x0 x1 ha hr hz hcell hg
    go_enter Try.func29, Try.ntmps29
    go_wp2_with fail
    go_loopw [5] (fun i wr => ∃ (k : Nat), i = .int .i64 k ∧ 1 ≤ k ∧ k ≤ n ∧ Below w.heap.size w wr ∧ Blk wr w.heap.size 30 #[.int .i64 0, .int .i64 0] ∧ Blk wr (w.heap.size + 1) 30 #[.int .i64 (leastOf (l.take k)).1, .int .i64 (leastOf (l.take k)).2]) (fun i _ => n - (intOf i).toNat)
    case atStart => exact ⟨1, rfl, by omega, by have := HZ.out; omega, by repeat (first | exact b_refl _ | apply b_drew | apply b_drewN | apply b_alloc), (Blk.new _ _ _).alloc _, by have := Blk.new (w.alloc (.cells #[.int .i64 0, .int .i64 0] 30)) 30 #[.int .i64 (leastOf (l.take 1)).1, .int .i64 (leastOf (l.take 1)).2]; simpa using this⟩
    case round =>
      obtain ⟨k, rfl, hk1, hk, hb, hR, hB⟩ := hrel
      replace c0 := b_keep hb c0
      replace c1 := b_keep hb c1
      have e0 := hB.cell 0
      have e1 := hB.cell 1
      have f0 := hB.frozen 0
      have f1 := hB.frozen 1
      have hlt1 := hB.lt
      simp only [List.getElem?_toArray, List.getElem?_cons_zero, List.getElem?_cons_succ] at e0 e1
      by_cases hlt : k < n
      · obtain ⟨x0, x1⟩ := cellsS_get l k (by omega)
        obtain ⟨d0, d1⟩ := (HR.out.below hb).two hlt x0 x1
        clear x0 x1
        have HL := leastOf_more l k (by omega) hk1
        generalize leastOf (l.take k) = o at *
        generalize l.getD k (0, 0) = x at *
        generalize hq : older x.1 x.2 o.1 o.2 = r at HL
        have HL := Lib.hid HL
        have q := Lib.hid (fun w => hq ▸ ROlder_calls x.1 x.2 o.1 o.2 w)
        clear hq c0 c1
        have o0 := On.cell e0
        have o1 := On.cell e1
        have o2 := On.cell d0
        have o3 := On.cell d1
        have hi0 : (0 : Int) ≤ (k : Int) := by omega
        have hi1 : (k : Int) < (n : Int) := by omega
        cases r
        · skip
          go_wp2_with fail
          refine wp_region_on (by kernel_rfl) (by kernel_rfl) ?_
          repeat (go_big_quiet_step ((go_at_call 23; with_reducible exact Calls.on (q.out _))))
          refine wpQuiet_nil ?_
          rintro w2 ⟨⟨_, hb2⟩, rfl⟩
          clear o0 o1 o2 o3
          replace hB := hB.below hb2
          replace hR := hR.below hb2
          replace hb := b_step hb hb2
          clear hb2 d0 d1 e0 e1 f0 f1 hlt1
          go_wp2_with fail
          go_roundw
          case rel => exact ⟨k + 1, by go_num, by omega, by omega, hb, hR, by rw [HL.out]; exact hB⟩
          case measure => simp [intOf]; omega
        · skip
          go_wp2_with fail
          refine wp_region_on (by kernel_rfl) (by kernel_rfl) ?_
          repeat (go_big_quiet_step ((go_at_call 23; with_reducible exact Calls.on (q.out _))))
          refine wpQuiet_nil ?_
          rintro w2 ⟨⟨_, hb2⟩, rfl⟩
          clear o0 o1 o2 o3
          replace hB := hB.below hb2
          replace hR := hR.below hb2
          replace d0 := b_keep hb2 d0
          replace d1 := b_keep hb2 d1
          replace hb := b_step hb hb2
          clear hb2 e0 e1 f0 f1 hlt1
          have e0 := hB.cell 0
          have e1 := hB.cell 1
          have f0 := hB.frozen 0
          have f1 := hB.frozen 1
          simp only [List.getElem?_toArray, List.getElem?_cons_zero, List.getElem?_cons_succ] at e0 e1
          go_wp2_with fail
          go_roundw
          case rel =>
            refine ⟨k + 1, by go_num, by omega, by omega, b_set (b_set hb (by simp) _) (by simp) _, (hR.far (by simp) _).far (by simp) _, ?_⟩
            have z := (hB.set_ 0 (.int .i64 x.1)).set_ 1 (.int .i64 x.2)
            rw [HL.out]
            simpa using z
          case measure => simp [intOf]; omega
      · obtain rfl : k = n := by omega
        rw [← hll, List.take_length] at e0 e1
        have e2 := hR.cell 0
        have e3 := hR.cell 1
        have f2 := hR.frozen 0
        have f3 := hR.frozen 1
        simp only [List.getElem?_toArray, List.getElem?_cons_zero, List.getElem?_cons_succ] at e2 e3
        have hd := Lib.hid (show decide (0 < k) = true by simp; omega)
        go_wp2_with fail
        have hBB := (hR.set_ 0 (.int .i64 (leastOf l).1)).set_ 1 (.int .i64 (leastOf l).2)
        have g0 := hBB.cell 0
        have g1 := hBB.cell 1
        simp only [Array.setIfInBounds, List.size_toArray, List.length_cons, List.length_nil] at g0 g1
        refine bodyPost_ret (v := .tuple #[.agg #[.int .i64 (leastOf l).1, .int .i64 (leastOf l).2], .bool true]) (by simp [results, Try.results29, go_sem, g0, g1]) rfl ⟨by rw [hd.out], ?_⟩
        exact b_set (b_set hb (by simp) _) (by simp) _
end Go.Proofs.Ytefihmfilahppaa.StampW
