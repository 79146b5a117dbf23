/- A region of open order whose operations make memory: each operation is shown once, what it made is its own until another takes it. No condition. -/
import Derived.Test.YtlldjildedbjlaaDoorOrd
namespace Go.Proofs.YtlldjildedbjlaaDoor.Tok
open Go.RowKit Go.Proofs.YtlldjildedbjlaaDoor.Com Go.Proofs.YtlldjildedbjlaaDoor.Ord
set_option linter.unusedVariables false
/-- Something that holds of some blocks alone. -/
structure Res where
  fp : List Nat
  ok : World → Prop
  loc : ∀ w w' : World, (∀ g ∈ fp, w'.heap[g]? = w.heap[g]?) → ok w → ok w'
def emp : Res := ⟨[], fun _ => True, fun _ _ _ h => h⟩
def blk (g : Nat) (t : TypeId) (cs : Array Value) : Res := ⟨[g], fun w => Blk w g t cs, fun w w' h hb => (h g List.mem_cons_self).trans hb⟩
theorem own_loc {w w' : World} {base : Nat} {e : TypeId} {size n : Nat} {v : Value} {xs : List Value} (h : ∀ g ∈ v.ownBlock.toList, w'.heap[g]? = w.heap[g]?) (ho : w.ownsRow base e size v n xs) : w'.ownsRow base e size v n xs := by
  refine ⟨ho.1, ?_⟩
  rcases ho.2 with h1 | ⟨g, cap, cur, rfl, hb, hg, h2⟩
  · exact .inl h1
  · exact .inr ⟨g, cap, cur, rfl, hb, (h g (by simp [Value.ownBlock])).trans hg, h2⟩
def row (base : Nat) (e : TypeId) (size : Nat) (v : Value) (n : Nat) (xs : List Value) : Res := ⟨v.ownBlock.toList, fun w => w.ownsRow base e size v n xs, fun w w' h ho => own_loc h ho⟩
def Res.and (r s : Res) : Res := ⟨r.fp ++ s.fp, fun w => r.ok w ∧ s.ok w, fun w w' h ho => ⟨r.loc w w' (fun g hg => h g (List.mem_append_left _ hg)) ho.1, s.loc w w' (fun g hg => h g (List.mem_append_right _ hg)) ho.2⟩⟩
/-- What is said of an operation: at whose values it looks, whose memory it takes, what its value is, what it makes. -/
structure TS where
  dn : List Nat
  cons : List Nat
  spec : List Value → Value → Prop
  res : List Value → Value → Res
def tsAt (T : List TS) (i : Nat) : TS := T.getD i ⟨[], [], fun _ _ => True, fun _ _ => emp⟩
def argsOf (T : List TS) (t : Nat → Value) (i : Nat) : List Value := (tsAt T i).dn.map t
def specOf (T : List TS) (t : Nat → Value) (i : Nat) : Prop := (tsAt T i).spec (argsOf T t i) (t i)
def resOf (T : List TS) (t : Nat → Value) (i : Nat) : Res := (tsAt T i).res (argsOf T t i) (t i)
def dstOf (ops : Array Oper) (i : Nat) : Option Tmp := (ops[i]?).bind (·.dst)
/-- The memory of r is there, and is the region's own. -/
def Has (W w : World) (r : Res) : Prop := r.ok w ∧ ∀ g ∈ r.fp, W.heap.size ≤ g ∧ g < w.heap.size
/-- Nothing but the blocks F has turned. -/
def Eff (w w1 : World) (F : List Nat) : Prop := w.heap.size ≤ w1.heap.size ∧ ∀ g, g < w.heap.size → g ∉ F → w1.heap[g]? = w.heap[g]?
def consFp (T : List TS) (t : Nat → Value) (i : Nat) : List Nat := (tsAt T i).cons.flatMap fun j => (resOf T t j).fp
/-- The value of an operand for operation i. -/
def look (ops : Array Oper) (i : Nat) (a0 : Act) (t : Nat → Value) : Operand → Value
  | .tmp d => match (needs ops i).find? fun j => dstOf ops j == some d with
    | some j => t j
    | none => a0.eval (.tmp d)
  | x => a0.eval x
def okX (ops : Array Oper) (i : Nat) : Operand → Bool
  | .tmp d => ((needs ops i).find? fun j => dstOf ops j == some d).isSome || (List.range ops.size).all fun j => dstOf ops j != some d || (j == i || (users ops i).contains j)
  | _ => true
/-- The step of operation i. -/
def StepT (P : Program) (ops : Array Oper) (Q : Exit → Act → World → Prop) (T : List TS) (a0 : Act) (W : World) (i : Nat) : Prop :=
  ∀ (a : Act) (w : World) (t : Nat → Value), (∀ x, okX ops i x = true → a.eval x = look ops i a0 t x) → (∀ j ∈ (tsAt T i).dn, specOf T t j) → Below W.heap.size W w → (∀ j ∈ (tsAt T i).cons, Has W w (resOf T t j)) →
    ∃ oi, ops[i]? = some oi ∧ oi.guard = none ∧ ∀ K : Act → World → Prop, (∀ v w1, (tsAt T i).spec (argsOf T t i) v → Below W.heap.size W w1 → Eff w w1 (consFp T t i) → ((tsAt T i).res (argsOf T t i) v).ok w1 →
      (∀ g ∈ ((tsAt T i).res (argsOf T t i) v).fp, (g ∈ consFp T t i ∨ w.heap.size ≤ g) ∧ g < w1.heap.size) → K (a.put oi.dst v) w1) → Oper.wp P oi a w K Q
def StepsT (P : Program) (ops : Array Oper) (Q : Exit → Act → World → Prop) (T : List TS) (a0 : Act) (W : World) : Nat → Nat → Prop
  | _, 0 => True
  | i, n + 1 => StepT P ops Q T a0 W i ∧ StepsT P ops Q T a0 W (i + 1) n
theorem StepsT.get {P : Program} {ops : Array Oper} {Q : Exit → Act → World → Prop} {T : List TS} {a0 : Act} {W : World} : ∀ {n i : Nat}, StepsT P ops Q T a0 W i n → ∀ j, i ≤ j → j < i + n → StepT P ops Q T a0 W j
  | 0, i, _, j, h1, h2 => by omega
  | n + 1, i, h, j, h1, h2 => by
    by_cases e : j = i
    · subst e; exact h.1
    · exact StepsT.get h.2 j (by omega) (by omega)
/-- What the table owes: looks at and takes from what it waits for; takes alone; each slot is written once. -/
def fits (ops : Array Oper) (T : List TS) : Bool :=
  (List.range ops.size).all fun i => (tsAt T i).dn.all (fun j => (needs ops i).contains j) && (tsAt T i).cons.all (fun j => (needs ops i).contains j) &&
    (List.range ops.size).all fun k => k == i || ((tsAt T i).cons.all (fun j => !(tsAt T k).cons.contains j) && (dstOf ops i == none || dstOf ops i != dstOf ops k))
theorem fits_dn {ops : Array Oper} {T : List TS} (h : fits ops T = true) {i : Nat} (hi : i < ops.size) {j : Nat} (hj : j ∈ (tsAt T i).dn) : j ∈ needs ops i := by
  have := List.all_eq_true.1 h i (List.mem_range.2 hi)
  simp only [Bool.and_eq_true, List.all_eq_true, List.contains_iff_mem] at this
  exact this.1.1 j hj
theorem fits_cons {ops : Array Oper} {T : List TS} (h : fits ops T = true) {i : Nat} (hi : i < ops.size) {j : Nat} (hj : j ∈ (tsAt T i).cons) : j ∈ needs ops i := by
  have := List.all_eq_true.1 h i (List.mem_range.2 hi)
  simp only [Bool.and_eq_true, List.all_eq_true, List.contains_iff_mem] at this
  exact this.1.2 j hj
theorem fits_one {ops : Array Oper} {T : List TS} (h : fits ops T = true) {i k : Nat} (hi : i < ops.size) (hk : k < ops.size) (hne : k ≠ i) {j : Nat} (hj : j ∈ (tsAt T i).cons) : j ∉ (tsAt T k).cons := by
  have := List.all_eq_true.1 h i (List.mem_range.2 hi)
  simp only [Bool.and_eq_true, List.all_eq_true, Bool.or_eq_true, List.mem_range, beq_iff_eq] at this
  have h2 := (this.2 k hk).resolve_left hne
  have := h2.1 j hj
  simpa using this
theorem fits_dst {ops : Array Oper} {T : List TS} (h : fits ops T = true) {i k : Nat} (hi : i < ops.size) (hk : k < ops.size) (hne : k ≠ i) {d : Tmp} (hd : dstOf ops i = some d) : dstOf ops k ≠ some d := by
  have := List.all_eq_true.1 h i (List.mem_range.2 hi)
  simp only [Bool.and_eq_true, List.all_eq_true, Bool.or_eq_true, List.mem_range, beq_iff_eq, bne_iff_ne] at this
  have h2 := (this.2 k hk).resolve_left hne
  rcases h2.2 with h3 | h3
  · rw [hd] at h3; cases h3
  · rw [hd] at h3; exact Ne.symm h3
theorem users_mem {ops : Array Oper} {i d : Nat} : d ∈ users ops i ↔ d < ops.size ∧ i ∈ needs ops d := by
  simp [users, List.mem_filter, List.mem_range]
/-- What holds when b have come up. -/
structure InvT (ops : Array Oper) (T : List TS) (a0 : Act) (W : World) (b : Nat → Bool) (a : Act) (w : World) (t : Nat → Value) : Prop where
  defers : a.defers = a0.defers
  size : a.tmps.size = a0.tmps.size
  off : ∀ d, (∀ j, j < ops.size → b j = true → dstOf ops j ≠ some d) → a.tmps[d]? = a0.tmps[d]?
  on : ∀ j d, j < ops.size → b j = true → dstOf ops j = some d → a.tmps[d]? = some (t j)
  below : Below W.heap.size W w
  spec : ∀ j, j < ops.size → b j = true → specOf T t j
  has : ∀ j, j < ops.size → b j = true → (∀ k, k < ops.size → b k = true → j ∉ (tsAt T k).cons) → Has W w (resOf T t j)
  apart : ∀ i j, i < ops.size → j < ops.size → i ≠ j → b i = true → b j = true → (∀ k, k < ops.size → b k = true → i ∉ (tsAt T k).cons) → (∀ k, k < ops.size → b k = true → j ∉ (tsAt T k).cons) → ∀ g ∈ (resOf T t i).fp, g ∉ (resOf T t j).fp
section
variable {P : Program} {ops : Array Oper} {Q : Exit → Act → World → Prop} {T : List TS} {a0 : Act} {W : World}
theorem StepT.toI (hB : back ops = true) (hF : fits ops T = true) (hZ : ∀ j d, j < ops.size → dstOf ops j = some d → d < a0.tmps.size) {i : Nat} (hi : i < ops.size) (hs : StepT P ops Q T a0 W i) :
    StepI P ops Q (fun b a w => ∃ t, InvT ops T a0 W b a w t) i (needs ops i) (users ops i) := by
  rintro b a w ⟨t, f⟩ hb hon hoff
  have hnd : ∀ j, j ∈ needs ops i → j < ops.size := by
    intro j hj
    have h1 := List.all_eq_true.1 hB i (List.mem_range.2 hi)
    have h2 := List.all_eq_true.1 h1 j hj
    have : j < i := by simpa using h2
    omega
  have hlive : ∀ j ∈ (tsAt T i).cons, ∀ k, k < ops.size → b k = true → j ∉ (tsAt T k).cons := by
    intro j hj k hk hbk
    refine fits_one hF hi hk (fun e => ?_) hj
    rw [e, hb] at hbk; cases hbk
  have hX : ∀ x, okX ops i x = true → a.eval x = look ops i a0 t x := by
    intro x hx
    cases x with
    | tmp d =>
      simp only [okX, Bool.or_eq_true] at hx
      simp only [look]
      cases hq : (needs ops i).find? fun j => dstOf ops j == some d with
      | some j =>
        have h1 := List.mem_of_find?_eq_some hq
        have h2 := List.find?_some hq
        simp only [beq_iff_eq] at h2
        exact eval_at (f.on j d (hnd j h1) (hon j h1) h2)
      | none =>
        rw [hq] at hx
        have hx := hx.resolve_left (by simp)
        have : a.tmps[d]? = a0.tmps[d]? := by
          refine f.off d fun j hj hbj => ?_
          have h1 := List.all_eq_true.1 hx j (List.mem_range.2 hj)
          simp only [Bool.or_eq_true, bne_iff_ne, beq_iff_eq, List.contains_iff_mem] at h1
          rcases h1 with h1 | h1 | h1
          · exact h1
          · rw [h1, hb] at hbj; cases hbj
          · rw [hoff j h1] at hbj; cases hbj
        simp [Act.eval, this]
    | _ => rfl
  obtain ⟨oi, hoi, hg, hK⟩ := hs a w t hX (fun j hj => f.spec j (hnd j (fits_dn hF hi hj)) (hon j (fits_dn hF hi hj))) f.below (fun j hj => f.has j (hnd j (fits_cons hF hi hj)) (hon j (fits_cons hF hi hj)) (hlive j hj))
  refine ⟨oi, hoi, fun K hKK => ?_⟩
  have hw : Region.wanted oi (yielded ops a.tmps) = true := by simp [Region.wanted, hg]
  rw [if_pos hw]
  refine hK K fun v w1 hsp hbl hef hok hfp => hKK _ _ ⟨fun j => if j = i then v else t j, ?_⟩
  have hdo : dstOf ops i = oi.dst := by simp [dstOf, hoi]
  have hti : ∀ k, k < ops.size → b k = true → argsOf T (fun j => if j = i then v else t j) k = argsOf T t k := by
    intro k hk hbk
    refine List.map_congr_left fun j hj => ?_
    have : j ≠ i := by
      rintro rfl
      have := hoff k (users_mem.2 ⟨hk, fits_dn hF hk hj⟩)
      rw [hbk] at this; cases this
    simp [this]
  have htv : argsOf T (fun j => if j = i then v else t j) i = argsOf T t i := by
    refine List.map_congr_left fun j hj => ?_
    have : j ≠ i := by
      rintro rfl
      have := hon j (fits_dn hF hi hj)
      rw [hb] at this; cases this
    simp [this]
  have hri : resOf T (fun j => if j = i then v else t j) i = (tsAt T i).res (argsOf T t i) v := by
    unfold resOf; rw [htv]; simp
  have hrk : ∀ k, k < ops.size → b k = true → resOf T (fun j => if j = i then v else t j) k = resOf T t k := by
    intro k hk hbk
    have hki : k ≠ i := by rintro rfl; rw [hb] at hbk; cases hbk
    unfold resOf; rw [hti k hk hbk]; simp [hki]
  have hup : ∀ k, upd b i k = true → k = i ∨ (k ≠ i ∧ b k = true) := by
    intro k hk
    by_cases e : k = i
    · exact .inl e
    · rw [upd_ne e] at hk; exact .inr ⟨e, hk⟩
  have hdown : ∀ k, b k = true → upd b i k = true := by
    intro k hk
    by_cases e : k = i
    · rw [e]; exact upd_self b i
    · rw [upd_ne e]; exact hk
  have keep : ∀ j, j < ops.size → b j = true → (∀ k, k < ops.size → upd b i k = true → j ∉ (tsAt T k).cons) → (∀ g ∈ (resOf T t j).fp, g < w.heap.size ∧ g ∉ consFp T t i) ∧ Has W w (resOf T t j) := by
    intro j hj hbj hl
    have hl' : ∀ k, k < ops.size → b k = true → j ∉ (tsAt T k).cons := fun k hk hbk => hl k hk (hdown k hbk)
    have hh := f.has j hj hbj hl'
    refine ⟨fun g hg => ⟨(hh.2 g hg).2, fun hc => ?_⟩, hh⟩
    obtain ⟨m, hm, hgm⟩ := List.mem_flatMap.1 hc
    have hmn := fits_cons hF hi hm
    have hmj : j ≠ m := by
      rintro rfl
      exact hl i hi (upd_self b i) hm
    exact f.apart j m hj (hnd m hmn) hmj hbj (hon m hmn) hl' (hlive m hm) g hg hgm
  constructor
  case defers => cases hd : oi.dst <;> exact f.defers
  case size => cases hd : oi.dst <;> simpa [Act.put] using f.size
  case off =>
    intro d hd
    have h1 : oi.dst ≠ some d := by rw [← hdo]; exact hd i hi (upd_self b i)
    rw [← f.off d fun j hj hbj => hd j hj (hdown j hbj)]
    cases he : oi.dst with
    | none => rfl
    | some e => exact at_ne (fun h => h1 (by rw [he, h]))
  case on =>
    intro j d hj hbj hd
    rcases hup j hbj with rfl | ⟨hji, hbj⟩
    · rw [hdo] at hd
      rw [hd]
      have := hZ j d hj (hdo.trans hd)
      simp only [if_true]
      exact at_put (f.size ▸ this)
    · have h1 := f.on j d hj hbj hd
      simp only [if_neg hji]
      rw [← h1]
      cases he : oi.dst with
      | none => rfl
      | some e => exact at_ne (fun h => fits_dst hF hj hi (Ne.symm hji) hd (by rw [hdo, he, h]))
  case below => exact hbl
  case spec =>
    intro j hj hbj
    rcases hup j hbj with rfl | ⟨hji, hbj⟩
    · unfold specOf; rw [htv]; simpa using hsp
    · have := f.spec j hj hbj
      unfold specOf at this ⊢
      rw [hti j hj hbj]; simpa [hji] using this
  case has =>
    intro j hj hbj hl
    rcases hup j hbj with rfl | ⟨hji, hbj⟩
    · rw [hri]
      refine ⟨hok, fun g hg => ⟨?_, (hfp g hg).2⟩⟩
      rcases (hfp g hg).1 with h1 | h1
      · obtain ⟨m, hm, hgm⟩ := List.mem_flatMap.1 h1
        exact ((f.has m (hnd m (fits_cons hF hi hm)) (hon m (fits_cons hF hi hm)) (hlive m hm)).2 g hgm).1
      · exact Nat.le_trans f.below.size h1
    · obtain ⟨h1, h2⟩ := keep j hj hbj hl
      rw [hrk j hj hbj]
      exact ⟨(resOf T t j).loc w w1 (fun g hg => hef.2 g (h1 g hg).1 (h1 g hg).2) h2.1, fun g hg => ⟨(h2.2 g hg).1, Nat.lt_of_lt_of_le (h2.2 g hg).2 hef.1⟩⟩
  case apart =>
    intro p q hp hq hpq hbp hbq hlp hlq g hg hg2
    rcases hup p hbp with rfl | ⟨hpi, hbp'⟩
    · rcases hup q hbq with rfl | ⟨hqi, hbq'⟩
      · exact hpq rfl
      · rw [hri] at hg
        rw [hrk q hq hbq'] at hg2
        obtain ⟨h1, h2⟩ := keep q hq hbq' hlq
        rcases (hfp g hg).1 with h3 | h3
        · exact (h1 g hg2).2 h3
        · have := (h1 g hg2).1; omega
    · rcases hup q hbq with rfl | ⟨hqi, hbq'⟩
      · rw [hri] at hg2
        rw [hrk p hp hbp'] at hg
        obtain ⟨h1, h2⟩ := keep p hp hbp' hlp
        rcases (hfp g hg2).1 with h3 | h3
        · exact (h1 g hg).2 h3
        · have := (h1 g hg).1; omega
      · rw [hrk p hp hbp'] at hg
        rw [hrk q hq hbq'] at hg2
        exact f.apart p q hp hq hpq hbp' hbq' (fun k hk hbk => hlp k hk (hdown k hbk)) (fun k hk hbk => hlq k hk (hdown k hbk)) g hg hg2
/-- The frame behind the region. -/
def slots (ops : Array Oper) (t : Nat → Value) : List (Tmp × Value) := (List.range ops.size).filterMap fun i => (dstOf ops i).map fun d => (d, t i)
def dstsOk (ops : Array Oper) (z : Nat) : Bool := (List.range ops.size).all fun i => match dstOf ops i with
  | some d => decide (d < z)
  | none => true
theorem wp_region_tok {id : Nat} {a : Act} {w : World} (T : List TS) (hm : P.follows .mixedOrders = true) (hB : back ops = true) (hF : fits ops T = true) (hZ : dstsOk ops a.tmps.size = true)
    (hs : StepsT P ops Q T a w 0 ops.size)
    (hend : ∀ (t : Nat → Value) (w' : World), Below w.heap.size w w' → (∀ j, j < ops.size → specOf T t j) →
      (∀ j, j < ops.size → ((List.range ops.size).all fun k => !(tsAt T k).cons.contains j) = true → Has w w' (resOf T t j)) →
      (∀ i j, i < ops.size → j < ops.size → i ≠ j → ((List.range ops.size).all fun k => !(tsAt T k).cons.contains i) = true → ((List.range ops.size).all fun k => !(tsAt T k).cons.contains j) = true → ∀ g ∈ (resOf T t i).fp, g ∉ (resOf T t j).fp) →
      Q .normal (puts a (slots ops t)) w') : (Code.region id ops true).wp P Q a w := by
  have hZ' : ∀ j d, j < ops.size → dstOf ops j = some d → d < a.tmps.size := by
    intro j d hj hd
    have := List.all_eq_true.1 hZ j (List.mem_range.2 hj)
    rw [hd] at this
    simpa using this
  have hlive : ∀ {j : Nat} {b : Nat → Bool}, ((List.range ops.size).all fun k => !(tsAt T k).cons.contains j) = true → ∀ k, k < ops.size → b k = true → j ∉ (tsAt T k).cons := by
    intro j b h k hk _ hc
    have := List.all_eq_true.1 h k (List.mem_range.2 hk)
    simp [hc] at this
  refine wp_region_inv _ (fun b a' w' => ∃ t, InvT ops T a w b a' w' t) hm hB rfl ⟨fun _ => undef, ?_⟩ ?_ ?_
  · constructor
    case defers => rfl
    case size => rfl
    case off => intro d _; rfl
    case below => exact b_drew (b_refl _)
    all_goals (intros; contradiction)
  · have hall : ∀ i, i < ops.size → StepI P ops Q (fun b a' w' => ∃ t, InvT ops T a w b a' w' t) i (needs ops i) (users ops i) := fun i hi => (hs.get i (Nat.zero_le _) (by omega)).toI hB hF hZ' hi
    have : ∀ (l : List Nat), (∀ i ∈ l, i < ops.size) → StepsI P ops Q (fun b a' w' => ∃ t, InvT ops T a w b a' w' t) (l.map fun i => (i, needs ops i, users ops i)) := by
      intro l
      induction l with
      | nil => intro _; trivial
      | cons i l ih => intro h; exact ⟨hall i (h i List.mem_cons_self), ih fun j hj => h j (List.mem_cons_of_mem _ hj)⟩
    exact this _ fun i hi => List.mem_range.1 hi
  · rintro b a' w' hall ⟨t, f⟩
    have e : a' = puts a (slots ops t) := by
      have hmem : ∀ e, e ∈ slots ops t ↔ ∃ i, i < ops.size ∧ ∃ d, dstOf ops i = some d ∧ e = (d, t i) := by
        intro e
        simp only [slots, List.mem_filterMap, List.mem_range, Option.map_eq_some_iff]
        constructor
        · rintro ⟨i, hi, d, hd, rfl⟩; exact ⟨i, hi, d, hd, rfl⟩
        · rintro ⟨i, hi, d, hd, rfl⟩; exact ⟨i, hi, d, hd, rfl⟩
      refine Same.eq ⟨f.defers, f.size, fun d hd => f.off d fun j hj _ hjd => ?_⟩ ?_ ?_ ?_
      · have : d ∈ (slots ops t).map (·.1) := List.mem_map.2 ⟨(d, t j), (hmem _).2 ⟨j, hj, d, hjd, rfl⟩, rfl⟩
        rw [← List.contains_iff_mem, hd] at this
        cases this
      · have hnd : ∀ l : List Nat, l.Nodup → (∀ i ∈ l, i < ops.size) → ((l.filterMap fun i => (dstOf ops i).map fun d => (d, t i)).map (·.1)).Nodup := by
          intro l
          induction l with
          | nil => intro _ _; simp
          | cons i l ih =>
            intro hn hl
            rw [List.nodup_cons] at hn
            have ih := ih hn.2 fun j hj => hl j (List.mem_cons_of_mem _ hj)
            cases hd : dstOf ops i with
            | none => simpa [List.filterMap_cons, hd] using ih
            | some d =>
              simp only [List.filterMap_cons, hd, Option.map_some, List.map_cons, List.nodup_cons]
              refine ⟨fun hc => ?_, ih⟩
              obtain ⟨e, he, hed⟩ := List.mem_map.1 hc
              obtain ⟨k, hk, hke⟩ := List.mem_filterMap.1 he
              obtain ⟨d2, hd2, rfl⟩ := Option.map_eq_some_iff.1 hke
              simp only at hed
              subst hed
              have hki : k ≠ i := by rintro rfl; exact hn.1 hk
              exact fits_dst hF (hl i List.mem_cons_self) (hl k (List.mem_cons_of_mem _ hk)) hki hd hd2
        exact hnd _ List.nodup_range fun i hi => List.mem_range.1 hi
      · intro e he
        obtain ⟨i, hi, d, hd, rfl⟩ := (hmem e).1 he
        exact hZ' i d hi hd
      · intro e he
        obtain ⟨i, hi, d, hd, rfl⟩ := (hmem e).1 he
        exact f.on i d hi (hall i hi) hd
    subst e
    exact hend t w' f.below (fun j hj => f.spec j hj (hall j hj)) (fun j hj hl => f.has j hj (hall j hj) (hlive hl))
      fun i j hi hj hij hli hlj => f.apart i j hi hj hij (hall i hi) (hall j hj) (hlive hli) (hlive hlj)
end
end Go.Proofs.YtlldjildedbjlaaDoor.Tok
