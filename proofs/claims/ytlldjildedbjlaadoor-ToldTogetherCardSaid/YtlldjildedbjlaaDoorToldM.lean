/- told.Parse, walked. No condition. -/
import Derived.Test.YtlldjildedbjlaaDoorToldL
import Derived.Sort.CutIn
import Derived.Maps.AppendAt
namespace Go.Proofs.YtlldjildedbjlaaDoor.ToldW
open Go.RowKit Go.Proofs.YtlldjildedbjlaaDoor.Com Go.Proofs.YtlldjildedbjlaaDoor.Ord Go.Proofs.YtlldjildedbjlaaDoor.Bor Go.Proofs.YtlldjildedbjlaaDoor.Rng Go.Proofs.YtlldjildedbjlaaDoor.ToldP
set_option linter.unusedVariables false
attribute [local go_sem] Oper.semAt_some
/-- The acts of lines; acc: those that have come. -/
def parseG : List (List UInt8 × Bool) → List DoA → List DoA × Nat × Nat
  | [], acc => (acc, 0, 0)
  | x :: r, acc => if 400 < acc.length + 1 then ([], acc.length + 1, 1) else match actP x.1 with
    | none => ([], acc.length + 1, 8)
    | some a => if x.2 then parseG r (acc ++ [a]) else ([], acc.length + 1, 8)
def parseP (s : List UInt8) : List DoA × Nat × Nat := parseG (linesP s) []
def cellsAs (l : List DoA) : List Value := (l.map fun a => (cellsA a).toList).flatten
theorem cellsAs_snoc (l : List DoA) (a : DoA) : cellsAs (l ++ [a]) = cellsAs l ++ (cellsA a).toList := by simp [cellsAs]
theorem cellsAs_len (l : List DoA) : (cellsAs l).length = l.length * 7 := by
  induction l with
  | nil => rfl
  | cons a l ih => simp only [cellsAs, List.map_cons, List.flatten_cons, List.length_append, List.length_cons] at ih ⊢; rw [ih]; simp [cellsA]; omega
theorem infoAct : (Tryd.prog.info? 38).map (fun i => (i.zero, i.size, i.bytes)) = some (some (.agg #[.int .i64 0, .int .i64 0, .int .i64 0, .int .u32 0, .int .i64 0, .int .i64 0, .int .i64 0]), 7, 56) := by kernel_rfl
theorem new_cells (w : World) (cs : Array Value) (t : TypeId) : ∀ j u, cs.toList[j]? = some u → (w.alloc (.cells cs t)).cell? ((⟨w.heap.size, 0, none⟩ : Addr).add j) = some u := by
  intro j u h
  rw [add_plain, (Blk.new w t cs).cell j, ← h]
  simp
theorem one_cellsA (a : DoA) : ∀ u ∈ (cellsA a).toList, u.oneCell' = true := by
  intro u hu
  simp only [cellsA, List.mem_cons, List.not_mem_nil, or_false] at hu
  rcases hu with rfl | rfl | rfl | rfl | rfl | rfl | rfl <;> rfl
/-- Between two rounds. -/
def PI (w : World) (pre : List (List UInt8 × Bool)) (W : World) : Prop :=
  ∃ (acc : List DoA) (v : Value), (∀ rest, parseG (pre ++ rest) [] = parseG rest acc) ∧ acc.length ≤ 400 ∧ Blk W w.heap.size 23 #[v] ∧ Blk W (w.heap.size + 1) 3 #[.int .i64 acc.length] ∧ Blk W (w.heap.size + 2) 24 #[.int .i64 0] ∧
    W.ownsRow (w.heap.size + 4) 38 7 v acc.length (cellsAs acc) ∧ Below w.heap.size w W ∧ w.heap.size + 4 ≤ W.heap.size
/-- A round has returned. -/
def PX (w : World) (pre : List (List UInt8 × Bool)) (W : World) : Prop :=
  ∃ (n c : Nat), (∀ rest, parseG (pre ++ rest) [] = ([], n, c)) ∧ Blk W w.heap.size 23 #[.slice none 0 0] ∧ Blk W (w.heap.size + 1) 3 #[.int .i64 n] ∧ Blk W (w.heap.size + 2) 24 #[.int .i64 c] ∧ Below w.heap.size w W
theorem blk_turn {W W' : World} {row : Option Nat} {g : Nat} {t : TypeId} {cs : Array Value} (h : Blk W g t cs) (hg : W.grownBy W' row) (hr : ∀ r, row = some r → ∃ o : Obj, W.heap[r]? = some o ∧ o.isCells = false) : Blk W' g t cs := by
  refine (hg.block g h.lt fun e => ?_).trans h
  obtain ⟨o, ho, hc⟩ := hr g e.symm
  rw [h] at ho
  cases ho
  cases hc
theorem own_turn {W W' : World} {row : Option Nat} {base n size : Nat} {e : TypeId} {v : Value} {xs : List Value} (h : W.ownsRow base e size v n xs) (hg : W.grownBy W' row) (hr : ∀ r, row = some r → ∃ o : Obj, W.heap[r]? = some o ∧ o.isCells = false) : W'.ownsRow base e size v n xs := by
  refine Tok.own_loc (fun g hgm => ?_) h
  have hv : v.ownBlock = some g := by simpa using hgm
  refine hg.block g (h.lt g hv).2 fun e => ?_
  obtain ⟨o, ho, hc⟩ := hr g e.symm
  rcases h.2 with h1 | ⟨g', cap, cur, rfl, hb, hh, h2⟩
  · rw [h1.1] at hv; cases hv
  · have : g' = g := by simpa [Value.ownBlock] using hv
    subst this
    rw [hh] at ho
    cases ho
    cases hc
theorem own_kx {X : List Nat} {W W' : World} {base n size : Nat} {e : TypeId} {v : Value} {xs : List Value} (h : W.ownsRow base e size v n xs) (k : KX X W W') (hX : ∀ b ∈ X, b < base) : W'.ownsRow base e size v n xs := by
  refine Tok.own_loc (fun g hgm => ?_) h
  have hv : v.ownBlock = some g := by simpa using hgm
  have := h.lt g hv
  exact k.block g this.2 fun hb => by have := hX g hb; omega
theorem PI_from (w : World) : OwnFrom (w.heap.size + 4) (PI w) := by
  rintro pre A B row ⟨acc, v, h1, h2, b0, b1, b2, ho, hb, h4⟩ hg hr
  have hr' : ∀ r, row = some r → ∃ o : Obj, A.heap[r]? = some o ∧ o.isCells = false := fun r e => (hr r e).2
  exact ⟨acc, v, h1, h2, blk_turn b0 hg hr', blk_turn b1 hg hr', blk_turn b2 hg hr', own_turn ho hg hr', hb.grown hg hb.size (fun k e => by have := (hr k e).1; omega), Nat.le_trans h4 hg.size⟩
theorem PX_from (w : World) : OwnFrom (w.heap.size + 4) (PX w) := by
  rintro pre A B row ⟨n, c, h1, b0, b1, b2, hb⟩ hg hr
  have hr' : ∀ r, row = some r → ∃ o : Obj, A.heap[r]? = some o ∧ o.isCells = false := fun r e => (hr r e).2
  exact ⟨n, c, h1, blk_turn b0 hg hr', blk_turn b1 hg hr', blk_turn b2 hg hr', hb.grown hg hb.size fun k e => by have := (hr k e).1; omega⟩
theorem PI_kx (w : World) (pre : List (List UInt8 × Bool)) (A B : World) (h : PI w pre A) (k : KX [w.heap.size + 3] A B) : PI w pre B := by
  obtain ⟨acc, v, h1, h2, b0, b1, b2, ho, hb, h4⟩ := h
  exact ⟨acc, v, h1, h2, k.blk b0 (by simp), k.blk b1 (by simp), k.blk b2 (by simp), own_kx ho k (by simp), hb.trans (k.below hb.size (by simp)), Nat.le_trans h4 k.size⟩
theorem PX_kx (w : World) (pre : List (List UInt8 × Bool)) (A B : World) (h : PX w pre A) (k : KX [w.heap.size + 3] A B) : PX w pre B := by
  obtain ⟨n, c, h1, b0, b1, b2, hb⟩ := h
  exact ⟨n, c, h1, k.blk b0 (by simp), k.blk b1 (by simp), k.blk b2 (by simp), hb.trans (k.below hb.size (by simp))⟩
theorem others_below {A B : World} (h : Below A.heap.size A B) : KeepsOthers A B := ⟨h.size, fun k o hk _ => (h.block k (Array.getElem?_eq_some_iff.1 hk).1).trans hk⟩
/-- A round returns. -/
theorem PX_of {w w5 : World} {v : Value} {i j : Int} {pre : List (List UInt8 × Bool)} (n c : Nat) (h : ∀ rest, parseG (pre ++ rest) [] = ([], n, c)) (d0 : Blk w5 w.heap.size 23 #[v]) (d1 : Blk w5 (w.heap.size + 1) 3 #[.int .i64 i]) (d2 : Blk w5 (w.heap.size + 2) 24 #[.int .i64 j]) (hb : Below w.heap.size w w5) :
    KeepsOthers w5 (((w5.setCell ⟨w.heap.size, 0, none⟩ (.slice none 0 0)).setCell ⟨w.heap.size + 1, 0, none⟩ (.int .i64 n)).setCell ⟨w.heap.size + 1 + 1, 0, none⟩ (.int .i64 c)) ∧
    PX w pre (((w5.setCell ⟨w.heap.size, 0, none⟩ (.slice none 0 0)).setCell ⟨w.heap.size + 1, 0, none⟩ (.int .i64 n)).setCell ⟨w.heap.size + 1 + 1, 0, none⟩ (.int .i64 c)) := by
  refine ⟨((KeepsOthers.setCell _ _ _).trans (KeepsOthers.setCell _ _ _)).trans (KeepsOthers.setCell _ _ _), n, c, h, ?_, ?_, ?_, ?_⟩
  · exact ((d0.set_ 0 (.slice none 0 0)).far (p := ⟨w.heap.size + 1, 0, none⟩) (by show w.heap.size ≠ w.heap.size + 1; omega) (.int .i64 n)).far (p := ⟨w.heap.size + 1 + 1, 0, none⟩) (by show w.heap.size ≠ w.heap.size + 1 + 1; omega) (.int .i64 c)
  · exact ((d1.far (p := ⟨w.heap.size, 0, none⟩) (by show w.heap.size + 1 ≠ w.heap.size; omega) (.slice none 0 0)).set_ 0 (.int .i64 n)).far (p := ⟨w.heap.size + 1 + 1, 0, none⟩) (by show w.heap.size + 1 ≠ w.heap.size + 1 + 1; omega) (.int .i64 c)
  · exact ((d2.far (p := ⟨w.heap.size, 0, none⟩) (by show w.heap.size + 2 ≠ w.heap.size; omega) (.slice none 0 0)).far (p := ⟨w.heap.size + 1, 0, none⟩) (by show w.heap.size + 2 ≠ w.heap.size + 1; omega) (.int .i64 n)).set_ 0 (.int .i64 c)
  · exact b_set (p := ⟨w.heap.size + 1 + 1, 0, none⟩) (b_set (p := ⟨w.heap.size + 1, 0, none⟩) (b_set (p := ⟨w.heap.size, 0, none⟩) hb (Nat.le_refl _) _) (by show w.heap.size ≤ w.heap.size + 1; omega) _) (by show w.heap.size ≤ w.heap.size + 1 + 1; omega) _
/-- What Parse answers. -/
def ParsePost (s : List UInt8) (w : World) (e : Ending) (w' : World) : Prop :=
  ∃ v, e = .returned (.tuple #[v, .int .i64 (parseP s).2.1, .int .i64 (parseP s).2.2]) ∧ w'.ownsRow w.heap.size 38 7 v (parseP s).1.length (cellsAs (parseP s).1) ∧ Below w.heap.size w w'
set_option maxRecDepth 100000 in
set_option maxHeartbeats 2000000 in
theorem Parse_calls (s : List UInt8) (hs : s.length ≤ 100000) (w : World) (hG : Glob w) : Calls Tryd.prog 7 #[str s] w (ParsePost s w) := by
  refine (callsIn_wide (n := 5)).1 ?_
  refine callsIn_of_wp_marks Tryd.func7 rfl trivial ?_ rfl
  simp only [Tryd.ntmps7, List.size_toArray, List.length_cons, List.length_nil, Nat.reduceAdd, Nat.reduceSub, Array.replicate_succ, Array.replicate_zero, List.push_toArray, List.append_toArray, List.nil_append, List.cons_append]
  have q1 := Lib.hid (lines_calls s)
  unfold str at *
  gi_wp2_with (refine ⟨trivial, ?_⟩; gi_at_call 12; refine (callsIn_wide.2 (q1.out _)).mono ?_; rintro e w1 ⟨rfl, rfl⟩)
  have hbw := b_alloc (b_alloc (b_alloc (b_alloc (b_refl w) (.cells #[.slice none 0 0] 23)) (.cells #[.int .i64 0] 3)) (.cells #[.int .i64 0] 24)) (.cells #[.string ⟨s.toArray⟩] 9)
  have n0 := ((((Blk.new w 23 #[.slice none 0 0]).alloc (.cells #[.int .i64 0] 3)).alloc (.cells #[.int .i64 0] 24)).alloc (.cells #[.string ⟨s.toArray⟩] 9))
  have n1 := (((Blk.new (w.alloc (.cells #[.slice none 0 0] 23)) 3 #[.int .i64 0]).alloc (.cells #[.int .i64 0] 24)).alloc (.cells #[.string ⟨s.toArray⟩] 9))
  have n2 := ((Blk.new ((w.alloc (.cells #[.slice none 0 0] 23)).alloc (.cells #[.int .i64 0] 3)) 24 #[.int .i64 0]).alloc (.cells #[.string ⟨s.toArray⟩] 9))
  have n3 := Blk.new (((w.alloc (.cells #[.slice none 0 0] 23)).alloc (.cells #[.int .i64 0] 3)).alloc (.cells #[.int .i64 0] 24)) 9 #[.string ⟨s.toArray⟩]
  have hsz : ((((w.alloc (.cells #[.slice none 0 0] 23)).alloc (.cells #[.int .i64 0] 3)).alloc (.cells #[.int .i64 0] 24)).alloc (.cells #[.string ⟨s.toArray⟩] 9)).heap.size = w.heap.size + 4 := by simp only [World.size_alloc]
  simp only [World.size_alloc] at n1 n2 n3
  generalize (((w.alloc (.cells #[.slice none 0 0] 23)).alloc (.cells #[.int .i64 0] 3)).alloc (.cells #[.int .i64 0] 24)).alloc (.cells #[.string ⟨s.toArray⟩] 9) = w0 at *
  refine wp_range [w.heap.size + 3] (by intro b hb; rw [List.mem_singleton.1 hb, hsz]; omega) (gf := 19) (lb := #[.pointer (some ⟨w.heap.size + 3, 0, none⟩)]) rfl (enters_of Tryd.func19 (by kernel_rfl) rfl)
    (lines_iter s hs (w.heap.size + 3) w0 n3) (fun _ => rfl) (PI w) (PX w) ?_ (hsz ▸ PI_from w) (hsz ▸ PX_from w) (PI_kx w) (PX_kx w) ?_
    (fun x => { tmps := #[.string ⟨s.toArray⟩, undef, .pointer (some ⟨w.heap.size, 0, none⟩), .pointer (some ⟨w.heap.size + 1, 0, none⟩), .pointer (some ⟨w.heap.size + 1 + 1, 0, none⟩), .string ⟨x.1.toArray⟩, .bool x.2, undef, undef, .string ⟨s.toArray⟩, .func (.func 19) #[] #[.pointer (some ⟨w.heap.size + 1 + 1 + 1, 0, none⟩)], .string ⟨x.1.toArray⟩, .bool x.2, undef, undef, undef, undef, undef, undef, undef, undef, undef, undef, undef, undef, undef, undef, undef, undef, undef, undef, undef, undef, undef, undef, undef, undef], defers := [] }) ?assign ?body ?done ?stop
  · rintro pre A ⟨acc, v, h1, h2, b0, b1, b2, ho, hb, h4⟩
    exact hG.below hb
  · exact ⟨[], .slice none 0 0, fun _ => rfl, by simp, n0, n1, n2, own_none _ _ _ _, hbw, Nat.le_of_eq hsz.symm⟩
  case assign =>
    intro l x W K hK
    unfold str
    gi_wp2
    exact hK
  case body =>
    rintro l pre x W ⟨acc, v, h1, h2, b0, b1, b2, ho, hb, h4⟩ hxl
    obtain ⟨A, c, rfl⟩ := own_slice ho
    have e0 : W.cell? ⟨w.heap.size, 0, none⟩ = some (.slice A acc.length c) := b0.cell 0
    have e1 : W.cell? ⟨w.heap.size + 1, 0, none⟩ = some (.int .i64 acc.length) := b1.cell 0
    have e2 : W.cell? ⟨w.heap.size + 1 + 1, 0, none⟩ = some (.int .i64 0) := b2.cell 0
    have f0 : W.frozen? ⟨w.heap.size, 0, none⟩ = false := b0.frozen 0
    have f1 : W.frozen? ⟨w.heap.size + 1, 0, none⟩ = false := b1.frozen 0
    have f2 : W.frozen? ⟨w.heap.size + 1 + 1, 0, none⟩ = false := b2.frozen 0
    have c0 := b0.far (p := ⟨w.heap.size + 1, 0, none⟩) (by show w.heap.size ≠ w.heap.size + 1; omega) (.int .i64 (acc.length + 1 : Int))
    have c1 : Blk (W.setCell ⟨w.heap.size + 1, 0, none⟩ (.int .i64 (acc.length + 1 : Int))) (w.heap.size + 1) 3 #[.int .i64 (acc.length + 1 : Int)] := b1.set_ 0 _
    have c2 := b2.far (p := ⟨w.heap.size + 1, 0, none⟩) (by show w.heap.size + 2 ≠ w.heap.size + 1; omega) (.int .i64 (acc.length + 1 : Int))
    have hb1 := b_set (p := ⟨w.heap.size + 1, 0, none⟩) hb (by show w.heap.size ≤ w.heap.size + 1; omega) (.int .i64 (acc.length + 1 : Int))
    have q2 := Lib.hid (act_calls x.1 hxl _ (hG.below hb1))
    have hk1 := KeepsOthers.setCell W ⟨w.heap.size + 1, 0, none⟩ (.int .i64 (acc.length + 1 : Int))
    have hx3 : SameX [w.heap.size + 3] W (W.setCell ⟨w.heap.size + 1, 0, none⟩ (.int .i64 (acc.length + 1 : Int))) := fun b hb' => Below.heap_setCell _ _ _ _ (by rw [List.mem_singleton.1 hb']; show w.heap.size + 3 ≠ w.heap.size + 1; omega)
    have ho1 : (W.setCell ⟨w.heap.size + 1, 0, none⟩ (.int .i64 (acc.length + 1 : Int))).ownsRow (w.heap.size + 4) 38 7 (.slice A acc.length c) acc.length (cellsAs acc) :=
      Tok.own_loc (fun g hgm => Below.heap_setCell _ _ _ _ (by have := (ho.lt g (by simpa using hgm)).1; show g ≠ w.heap.size + 1; omega)) ho
    unfold str at q2
    gi_upto_region 6 with (refine ⟨trivial, ?_⟩; gi_at_call 13; refine (CallsIn.inRound l (callsIn_wide.2 q2.out)).mono ?_; rintro e w4 ⟨a, b, rfl, ht, hf, hb4⟩; unfold actV)
    have d0 := (c0.below hb4).alloc (.cells (cellsA a) 38)
    have d1 := (c1.below hb4).alloc (.cells (cellsA a) 38)
    have d2 := (c2.below hb4).alloc (.cells (cellsA a) 38)
    have dA := Blk.new w4 38 (cellsA a)
    have hb5 := b_alloc (b_step hb1 hb4) (.cells (cellsA a) 38)
    have hk5 := (hk1.trans (others_below hb4)).trans (KeepsOthers.alloc w4 (.cells (cellsA a) 38))
    have ho5 := own_below (own_below ho1 hb4) (b_alloc (b_refl w4) (.cells (cellsA a) 38))
    have hs1 : (W.setCell ⟨w.heap.size + 1, 0, none⟩ (.int .i64 (acc.length + 1 : Int))).heap.size = W.heap.size := by simp
    have hx5 : SameX [w.heap.size + 3] W (w4.alloc (.cells (cellsA a) 38)) := hx3.trans (fun b hb' => by
      rw [List.mem_singleton.1 hb']
      exact (b_step hb4 (b_alloc (b_refl w4) _)).block _ (by rw [hs1]; omega))
    have h44 : w.heap.size + 4 ≤ w4.heap.size := by have := hb4.size; omega
    have h45 : w4.heap.size < (w4.alloc (.cells (cellsA a) 38)).heap.size := by simp
    have hmx : Tryd.prog.follows .mixedOrders = true := by kernel_rfl
    clear q1 q2 e0 e1 e2 f0 f1 f2 c0 c1 c2 b0 b1 b2 hs1 hb1 hk1 hx3 ho1
    change Code.wpIn _ _ _ _ _ _ (w4.alloc (.cells (cellsA a) 38))
    generalize w4.alloc (.cells (cellsA a) 38) = w5 at *
    generalize w4.heap.size = ga at *
    have e0 : w5.cell? ⟨w.heap.size, 0, none⟩ = some (.slice A acc.length c) := d0.cell 0
    have e1 : w5.cell? ⟨w.heap.size + 1, 0, none⟩ = some (.int .i64 (acc.length + 1 : Int)) := d1.cell 0
    have e2 : w5.cell? ⟨w.heap.size + 1 + 1, 0, none⟩ = some (.int .i64 0) := d2.cell 0
    have f0 : w5.frozen? ⟨w.heap.size, 0, none⟩ = false := d0.frozen 0
    have f1 : w5.frozen? ⟨w.heap.size + 1, 0, none⟩ = false := d1.frozen 0
    have f2 : w5.frozen? ⟨w.heap.size + 1 + 1, 0, none⟩ = false := d2.frozen 0
    by_cases hcA : 400 < acc.length + 1
    · have hp : ∀ rest, parseG ((pre ++ [x]) ++ rest) [] = ([], acc.length + 1, 1) := fun rest => by
        rw [List.append_assoc, h1, List.singleton_append, parseG, if_pos hcA]
      have t1 : (400 : Int) < (acc.length : Int) + 1 := by omega
      clear hcA hG hs
      gi_wp2
      gi_region_o
      all_goals gi_wp2
      all_goals (
        have hP := PX_of (acc.length + 1) 1 hp d0.drew d1.drew d2.drew (b_drew hb5)
        rw [show ((acc.length + 1 : Nat) : Int) = (acc.length : Int) + 1 from rfl] at hP
        exact ⟨((hk5.trans (KeepsOthers.drew w5)).trans hP.1).from _, hP.2⟩)
    · have t1 : ¬ (400 : Int) < (acc.length : Int) + 1 := by omega
      by_cases hok : b = true ∧ x.2 = true
      · obtain ⟨rfl, hx2⟩ := hok
        have hp : ∀ rest, parseG ((pre ++ [x]) ++ rest) [] = parseG rest (acc ++ [a]) := fun rest => by
          rw [List.append_assoc, h1, List.singleton_append, parseG, if_neg hcA, ht rfl]
          show (if x.2 = true then _ else _) = _
          rw [if_pos hx2]
        obtain ⟨i0, hi0, hz0, hz1, hz2⟩ := info_parts infoAct
        have y0 := dA.cell 0
        have y1 := dA.cell 1
        have y2 := dA.cell 2
        have y3 := dA.cell 3
        have y4 := dA.cell 4
        have y5 := dA.cell 5
        have y6 := dA.cell 6
        unfold cellsA at y0 y1 y2 y3 y4 y5 y6
        simp only [List.getElem?_toArray, List.getElem?_cons_zero, List.getElem?_cons_succ] at y0 y1 y2 y3 y4 y5 y6
        have ho6 := own_below ho5 (b_alloc (b_refl w5) (.cells (cellsA a) 38))
        have hnc := new_cells w5 (cellsA a) 38
        have hlen : (acc ++ [a]).length = acc.length + 1 := by simp
        have HP := Lib.hid hp
        have HH := Lib.hid (And.intro hlen hx2)
        have w54 : w.heap.size + 4 ≤ (w5.alloc (.cells (cellsA a) 38)).heap.size := by simp; omega
        have hne : ∀ b, b < w.heap.size + 4 → some b ≠ (Value.slice A acc.length c).ownBlock := fun b hb' e => by
          have := own_base ho6 b e.symm
          omega
        have hcl : ∀ j o, (Value.slice A acc.length c).ownBlock = some j → (w5.alloc (.cells (cellsA a) 38)).heap[j]? = some o → o.isCells = true := by
          intro j o ej hj
          rcases ho6.2 with ⟨e, _⟩ | ⟨g, cap, cur, e, _, hgb, _⟩
          · rw [e] at ej; cases ej
          · rw [e] at ej
            obtain rfl : g = j := by simpa [Value.ownBlock] using ej
            rw [hgb] at hj; cases hj; rfl
        have d06 := d0.alloc (.cells (cellsA a) 38)
        have d16 := d1.alloc (.cells (cellsA a) 38)
        have d26 := d2.alloc (.cells (cellsA a) 38)
        have hb6 := b_alloc hb5 (.cells (cellsA a) 38)
        have hk6 := hk5.trans (KeepsOthers.alloc w5 (.cells (cellsA a) 38))
        have hx6 : SameX [w.heap.size + 3] W (w5.alloc (.cells (cellsA a) 38)) := hx5.trans (fun b hb' => by
          rw [List.mem_singleton.1 hb']
          exact (b_alloc (b_refl w5) _).block _ (by omega))
        clear hG hs ht hf hp hlen
        gi_wp2_with (gi_at_builtin; refine wpListIn_append_own _ rfl _ _ 23 rfl (w.heap.size + 4) 38 i0 _ 7 56 Tryd.underlying23 hi0 hz0 hz1 hz2 rfl (by omega) _ _ _ rfl ho6 ⟨w5.heap.size, 0, none⟩ 1 1 (cellsA a).toList rfl rfl hnc (one_cellsA a) (by simp only [maxLen]; omega) (by omega) w54 ?_; intro v' w1 hown' hgrow hnil; obtain ⟨g', cap', rfl⟩ := ownsRow_succ hown'; have z0 := d06.grown hgrow (hne _ (by omega)); have z0c : w1.cell? ⟨w.heap.size, 0, none⟩ = some (.slice A acc.length c) := z0.cell 0; have z0f : w1.frozen? ⟨w.heap.size, 0, none⟩ = false := z0.frozen 0)
        have hg' : (w5.alloc (.cells (cellsA a) 38)).grownBy w1 (Value.slice A acc.length c).ownBlock := hgrow
        have z1 := d16.grown hgrow (hne _ (by omega))
        have z2 := d26.grown hgrow (hne _ (by omega))
        have hb7 := b_grown hb6 hgrow (fun k e => by have := own_base ho6 k e; omega)
        refine ⟨((hk6.trans (KeepsOthers.of_grownBy hgrow hcl)).trans (KeepsOthers.setCell _ _ _)).from _, ?_, acc ++ [a], _, HP.out, by rw [HH.out.1]; omega, z0.set_ 0 _, ?_, z2.far (p := ⟨w.heap.size, 0, none⟩) (by show w.heap.size + 2 ≠ w.heap.size; omega) _, ?_, b_set (p := ⟨w.heap.size, 0, none⟩) hb7 (Nat.le_refl _) _, ?_⟩
        · intro b hb'
          have e := List.mem_singleton.1 hb'
          rw [Below.heap_setCell _ _ _ _ (by rw [e]; show w.heap.size + 3 ≠ w.heap.size; omega), hg'.block b (by rw [e]; omega) (hne b (by rw [e]; omega))]
          exact hx6 b hb'
        · rw [HH.out.1]
          exact z1.far (p := ⟨w.heap.size, 0, none⟩) (by show w.heap.size + 1 ≠ w.heap.size; omega) _
        · rw [HH.out.1, cellsAs_snoc]
          exact Tok.own_loc (fun b hbm => Below.heap_setCell _ _ _ _ (by have := (hown'.lt b (by simpa using hbm)).1; show b ≠ w.heap.size; omega)) hown'
        · have := hg'.size
          simp only [World.size_setCell]
          omega
      · have hp : ∀ rest, parseG ((pre ++ [x]) ++ rest) [] = ([], acc.length + 1, 8) := fun rest => by
          rw [List.append_assoc, h1, List.singleton_append, parseG, if_neg hcA]
          cases b with
          | false => rw [hf rfl]
          | true =>
            rw [ht rfl]
            show (if x.2 = true then _ else _) = _
            rw [if_neg fun h => hok ⟨rfl, h⟩]
        clear hcA hG hs ht hf
        cases b with
        | false =>
          gi_wp2
          gi_region_o
          all_goals gi_wp2
          all_goals (
            have hP := PX_of (acc.length + 1) 8 hp d0.drew d1.drew d2.drew (b_drew hb5)
            rw [show ((acc.length + 1 : Nat) : Int) = (acc.length : Int) + 1 from rfl] at hP
            exact ⟨((hk5.trans (KeepsOthers.drew w5)).trans hP.1).from _, hP.2⟩)
        | true =>
          have hx2 : x.2 = false := by
            cases h : x.2 with
            | false => rfl
            | true => exact absurd ⟨rfl, h⟩ hok
          clear hok
          gi_wp2
          gi_region_o
          all_goals gi_wp2
          all_goals (
            have hP := PX_of (acc.length + 1) 8 hp d0.drew d1.drew d2.drew (b_drew hb5)
            rw [show ((acc.length + 1 : Nat) : Int) = (acc.length : Int) + 1 from rfl] at hP
            exact ⟨((hk5.trans (KeepsOthers.drew w5)).trans hP.1).from _, hP.2⟩)
  case done =>
    rintro D xs W hD rfl ⟨acc, v, h1, h2, b0, b1, b2, ho, hb, h4⟩ hK
    obtain ⟨A, c, rfl⟩ := own_slice ho
    have hr : parseP s = (acc, 0, 0) := by
      have := h1 []
      rw [List.append_nil] at this
      exact this
    have e0 : W.cell? ⟨w.heap.size, 0, none⟩ = some (.slice A acc.length c) := b0.cell 0
    have e1 : W.cell? ⟨w.heap.size + 1, 0, none⟩ = some (.int .i64 acc.length) := b1.cell 0
    have e2 : W.cell? ⟨w.heap.size + 1 + 1, 0, none⟩ = some (.int .i64 0) := b2.cell 0
    have f0 : W.frozen? ⟨w.heap.size, 0, none⟩ = false := b0.frozen 0
    have f1 : W.frozen? ⟨w.heap.size + 1, 0, none⟩ = false := b1.frozen 0
    have f2 : W.frozen? ⟨w.heap.size + 1 + 1, 0, none⟩ = false := b2.frozen 0
    gi_wp2
    have hD4 : w.heap.size + 4 ≤ D := by omega
    have b0' := ((b0.set_ 0 (.slice A acc.length c)).far (p := ⟨w.heap.size + 1, 0, none⟩) (by show w.heap.size ≠ w.heap.size + 1; omega) (.int .i64 0)).far (p := ⟨w.heap.size + 1 + 1, 0, none⟩) (by show w.heap.size ≠ w.heap.size + 1 + 1; omega) (.int .i64 0)
    have b1' := ((b1.far (p := ⟨w.heap.size, 0, none⟩) (by show w.heap.size + 1 ≠ w.heap.size; omega) (.slice A acc.length c)).set_ 0 (.int .i64 0)).far (p := ⟨w.heap.size + 1 + 1, 0, none⟩) (by show w.heap.size + 1 ≠ w.heap.size + 1 + 1; omega) (.int .i64 0)
    have b2' := ((b2.far (p := ⟨w.heap.size, 0, none⟩) (by show w.heap.size + 2 ≠ w.heap.size; omega) (.slice A acc.length c)).far (p := ⟨w.heap.size + 1, 0, none⟩) (by show w.heap.size + 2 ≠ w.heap.size + 1; omega) (.int .i64 0)).set_ 0 (.int .i64 0)
    have hb' := b_set (p := ⟨w.heap.size + 1 + 1, 0, none⟩) (b_set (p := ⟨w.heap.size + 1, 0, none⟩) (b_set (p := ⟨w.heap.size, 0, none⟩) hb (Nat.le_refl _) (.slice A acc.length c)) (by show w.heap.size ≤ w.heap.size + 1; omega) (.int .i64 0)) (by show w.heap.size ≤ w.heap.size + 1 + 1; omega) (.int .i64 0)
    have far3 : ∀ k, w.heap.size + 4 ≤ k → (((W.setCell ⟨w.heap.size, 0, none⟩ (.slice A acc.length c)).setCell ⟨w.heap.size + 1, 0, none⟩ (.int .i64 0)).setCell ⟨w.heap.size + 1 + 1, 0, none⟩ (.int .i64 0)).heap[k]? = W.heap[k]? := fun k hk => by
      rw [Below.heap_setCell _ _ _ _ (by show k ≠ w.heap.size + 1 + 1; omega), Below.heap_setCell _ _ _ _ (by show k ≠ w.heap.size + 1; omega), Below.heap_setCell _ _ _ _ (by show k ≠ w.heap.size; omega)]
    have hK' := (far3 D hD4).trans hK
    have ho' : (((W.setCell ⟨w.heap.size, 0, none⟩ (.slice A acc.length c)).setCell ⟨w.heap.size + 1, 0, none⟩ (.int .i64 0)).setCell ⟨w.heap.size + 1 + 1, 0, none⟩ (.int .i64 0)).ownsRow (w.heap.size + 4) 38 7 (.slice A acc.length c) acc.length (cellsAs acc) :=
      Tok.own_loc (fun g hgm => far3 g (ho.lt g (by simpa using hgm)).1) ho
    generalize ((W.setCell ⟨w.heap.size, 0, none⟩ (.slice A acc.length c)).setCell ⟨w.heap.size + 1, 0, none⟩ (.int .i64 0)).setCell ⟨w.heap.size + 1 + 1, 0, none⟩ (.int .i64 0) = W3 at *
    refine ⟨by simp, .inl ⟨_, _, rfl, run_takeDeferred hK', ?_⟩⟩
    have hbd := hb'.grown (grownBy_putObj' W3 D (.deferred none)) hb'.size fun k e => by cases e; omega
    have hod := ownsRow_putObj ho' (.deferred none) hK' rfl
    have k0 : (W3.putObj D (.deferred none)).cell? ⟨w.heap.size, 0, none⟩ = some (.slice A acc.length c) := by
      have h : Blk (W3.putObj D (.deferred none)) w.heap.size _ _ := (World.putObj_heap_other (by omega)).trans b0'
      exact h.cell 0
    have k1 : (W3.putObj D (.deferred none)).cell? ⟨w.heap.size + 1, 0, none⟩ = some (.int .i64 0) := by
      have h : Blk (W3.putObj D (.deferred none)) (w.heap.size + 1) _ _ := (World.putObj_heap_other (by omega)).trans b1'
      exact h.cell 0
    have k2 : (W3.putObj D (.deferred none)).cell? ⟨w.heap.size + 1 + 1, 0, none⟩ = some (.int .i64 0) := by
      have h : Blk (W3.putObj D (.deferred none)) (w.heap.size + 2) _ _ := (World.putObj_heap_other (by omega)).trans b2'
      exact h.cell 0
    generalize W3.putObj D (.deferred none) = W4 at *
    refine ⟨.tuple #[.slice A acc.length c, .int .i64 0, .int .i64 0], by simp [results, Tryd.results7, go_sem, *], ?_⟩
    refine ⟨.slice A acc.length c, by rw [hr]; rfl, ?_, hbd⟩
    rw [hr]
    exact own_less hod (by omega)
  case stop =>
    rintro D pre W hD ⟨rest, hrest⟩ ⟨n, c, h1, b0, b1, b2, hb⟩ hK
    have hr : parseP s = ([], n, c) := by
      have := h1 rest
      rw [hrest] at this
      exact this
    gi_wp2
    have hD4 : w.heap.size + 4 ≤ D := by omega
    refine ⟨by simp, .inl ⟨_, _, rfl, run_takeDeferred hK, ?_⟩⟩
    have hbd := hb.grown (grownBy_putObj' W D (.deferred none)) hb.size fun k e => by cases e; omega
    have k0 : (W.putObj D (.deferred none)).cell? ⟨w.heap.size, 0, none⟩ = some (.slice none 0 0) := by
      have h : Blk (W.putObj D (.deferred none)) w.heap.size _ _ := (World.putObj_heap_other (by omega)).trans b0
      exact h.cell 0
    have k1 : (W.putObj D (.deferred none)).cell? ⟨w.heap.size + 1, 0, none⟩ = some (.int .i64 n) := by
      have h : Blk (W.putObj D (.deferred none)) (w.heap.size + 1) _ _ := (World.putObj_heap_other (by omega)).trans b1
      exact h.cell 0
    have k2 : (W.putObj D (.deferred none)).cell? ⟨w.heap.size + 1 + 1, 0, none⟩ = some (.int .i64 c) := by
      have h : Blk (W.putObj D (.deferred none)) (w.heap.size + 2) _ _ := (World.putObj_heap_other (by omega)).trans b2
      exact h.cell 0
    generalize W.putObj D (.deferred none) = W4 at *
    refine ⟨.tuple #[.slice none 0 0, .int .i64 n, .int .i64 c], by simp [results, Tryd.results7, go_sem, *], ?_⟩
    refine ⟨.slice none 0 0, by rw [hr], ?_, hbd⟩
    rw [hr]
    exact own_none _ _ _ _
end Go.Proofs.YtlldjildedbjlaaDoor.ToldW
