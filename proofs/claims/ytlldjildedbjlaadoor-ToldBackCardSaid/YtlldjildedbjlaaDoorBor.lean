/- A region of open order whose operations write in blocks that were there ahead of it, too: those blocks are lent to it. No condition. -/
import Derived.Test.YtlldjildedbjlaaDoorTok2
namespace Go.Proofs.YtlldjildedbjlaaDoor.Bor
open Go.RowKit Go.Proofs.YtlldjildedbjlaaDoor.Com Go.Proofs.YtlldjildedbjlaaDoor.Ord Go.Proofs.YtlldjildedbjlaaDoor.Tok
set_option linter.unusedVariables false
/-- Nothing of what was there has turned but the blocks X. -/
structure KX (X : List Nat) (W w : World) : Prop where
  os : w.os = W.os
  tape : w.tape = W.tape
  output : w.output = W.output
  size : W.heap.size ≤ w.heap.size
  block : ∀ g, g < W.heap.size → g ∉ X → w.heap[g]? = W.heap[g]?
theorem KX.refl (X : List Nat) (W : World) : KX X W W := ⟨rfl, rfl, rfl, Nat.le_refl _, fun _ _ _ => rfl⟩
theorem KX.step {X : List Nat} {W w w1 : World} (h : KX X W w) (k : Below w.heap.size w w1) : KX X W w1 :=
  ⟨k.os.trans h.os, k.tape.trans h.tape, k.output.trans h.output, Nat.le_trans h.size k.size, fun g hg hx => (k.block g (Nat.lt_of_lt_of_le hg h.size)).trans (h.block g hg hx)⟩
theorem KX.alloc {X : List Nat} {W w : World} (h : KX X W w) (o : Obj) : KX X W (w.alloc o) := h.step (b_alloc (b_refl w) o)
theorem KX.below {X : List Nat} {W w : World} {B : Nat} (h : KX X W w) (hB : B ≤ W.heap.size) (hX : ∀ g ∈ X, B ≤ g) : Below B W w := ⟨h.os, h.tape, h.output, h.size, fun g hg => h.block g (by omega) fun hx => by have := hX g hx; omega⟩
theorem KX.blk {X : List Nat} {W w : World} (h : KX X W w) {g : Nat} {t : TypeId} {cs : Array Value} (hb : Blk W g t cs) (hx : g ∉ X) : Blk w g t cs := (h.block g hb.lt hx).trans hb
theorem KX.turn {X : List Nat} {W w w1 : World} (h : KX X W w) {g : Nat} (hg : g ∈ X ∨ W.heap.size ≤ g) (ho : w1.os = w.os) (ht : w1.tape = w.tape) (hp : w1.output = w.output) (hs : w1.heap.size = w.heap.size) (hb : ∀ k, k ≠ g → w1.heap[k]? = w.heap[k]?) : KX X W w1 :=
  ⟨ho.trans h.os, ht.trans h.tape, hp.trans h.output, by rw [hs]; exact h.size, fun k hk hx => (hb k (by
    rintro rfl
    rcases hg with hg | hg
    · exact hx hg
    · omega)).trans (h.block k hk hx)⟩
/-- The memory of r is there, and is the region's own, or lent. -/
def HasX (X : List Nat) (W w : World) (r : Res) : Prop := r.ok w ∧ ∀ g ∈ r.fp, (W.heap.size ≤ g ∨ g ∈ X) ∧ g < w.heap.size
/-- What has come up, or was lent. -/
def Liv (ops : Array Oper) (T : List TS) (b : Nat → Bool) (j : Nat) : Prop := (j < ops.size ∧ b j = true) ∨ (ops.size ≤ j ∧ j < T.length)
instance (ops : Array Oper) (T : List TS) (b : Nat → Bool) (j : Nat) : Decidable (Liv ops T b j) := by unfold Liv; infer_instance
/-- The step of operation i. -/
def StepX (P : Program) (ops : Array Oper) (Q : Exit → Act → World → Prop) (X : List Nat) (T : List TS) (a0 : Act) (W : World) (i : Nat) : Prop :=
  ∀ (a : Act) (w : World) (t : Nat → Value), (∀ x, okX ops i x = true → a.eval x = Tok.look ops i a0 t x) → (∀ j ∈ (tsAt T i).dn, specOf T t j) → KX X W w → (∀ j ∈ (tsAt T i).cons, HasX X W w (resOf T t j)) →
    ∃ oi, ops[i]? = some oi ∧ oi.guard = none ∧ ∀ K : Act → World → Prop, (∀ v w1, (tsAt T i).spec (argsOf T t i) v → KX X W w1 → Eff w w1 (consFp T t i) → ((tsAt T i).res (argsOf T t i) v).ok w1 →
      (∀ g ∈ ((tsAt T i).res (argsOf T t i) v).fp, (g ∈ consFp T t i ∨ w.heap.size ≤ g) ∧ g < w1.heap.size) → K (a.put oi.dst v) w1) → Oper.wp P oi a w K Q
def StepsX (P : Program) (ops : Array Oper) (Q : Exit → Act → World → Prop) (X : List Nat) (T : List TS) (a0 : Act) (W : World) : Nat → Nat → Prop
  | _, 0 => True
  | i, n + 1 => StepX P ops Q X T a0 W i ∧ StepsX P ops Q X T a0 W (i + 1) n
theorem StepsX.get {P : Program} {ops : Array Oper} {Q : Exit → Act → World → Prop} {X : List Nat} {T : List TS} {a0 : Act} {W : World} : ∀ {n i : Nat}, StepsX P ops Q X T a0 W i n → ∀ j, i ≤ j → j < i + n → StepX P ops Q X T a0 W j
  | 0, i, _, j, h1, h2 => by omega
  | n + 1, i, h, j, h1, h2 => by
    by_cases e : j = i
    · subst e; exact h.1
    · exact StepsX.get h.2 j (by omega) (by omega)
/-- What the table owes: looks at and takes from what it waits for; takes alone; each slot is written once. -/
def fitsX (ops : Array Oper) (T : List TS) : Bool :=
  ((List.range (T.length - ops.size)).all fun i => (tsAt T (ops.size + i)).dn.isEmpty) &&
  (List.range ops.size).all fun i => (tsAt T i).dn.all (fun j => (needs ops i).contains j) && (tsAt T i).cons.all (fun j => (needs ops i).contains j || (decide (ops.size ≤ j) && decide (j < T.length))) &&
    (List.range ops.size).all fun k => k == i || ((tsAt T i).cons.all (fun j => !(tsAt T k).cons.contains j) && (dstOf ops i == none || dstOf ops i != dstOf ops k))
theorem fitsX_dn {ops : Array Oper} {T : List TS} (h : fitsX ops T = true) {i : Nat} (hi : i < ops.size) {j : Nat} (hj : j ∈ (tsAt T i).dn) : j ∈ needs ops i := by
  have := List.all_eq_true.1 (Bool.and_eq_true _ _ ▸ h).2 i (List.mem_range.2 hi)
  simp only [Bool.and_eq_true, List.all_eq_true, List.contains_iff_mem] at this
  exact this.1.1 j hj
theorem fitsX_cons {ops : Array Oper} {T : List TS} (h : fitsX ops T = true) {i : Nat} (hi : i < ops.size) {j : Nat} (hj : j ∈ (tsAt T i).cons) : j ∈ needs ops i ∨ (ops.size ≤ j ∧ j < T.length) := by
  have := List.all_eq_true.1 (Bool.and_eq_true _ _ ▸ h).2 i (List.mem_range.2 hi)
  simp only [Bool.and_eq_true, List.all_eq_true, List.contains_iff_mem, Bool.or_eq_true, decide_eq_true_eq] at this
  exact this.1.2 j hj
theorem fitsX_virt {ops : Array Oper} {T : List TS} (h : fitsX ops T = true) {j : Nat} (h1 : ops.size ≤ j) (h2 : j < T.length) : (tsAt T j).dn = [] := by
  have := List.all_eq_true.1 (Bool.and_eq_true _ _ ▸ h).1 (j - ops.size) (List.mem_range.2 (by omega))
  rw [show ops.size + (j - ops.size) = j by omega] at this
  simpa using this
theorem fitsX_one {ops : Array Oper} {T : List TS} (h : fitsX ops T = true) {i k : Nat} (hi : i < ops.size) (hk : k < ops.size) (hne : k ≠ i) {j : Nat} (hj : j ∈ (tsAt T i).cons) : j ∉ (tsAt T k).cons := by
  have := List.all_eq_true.1 (Bool.and_eq_true _ _ ▸ h).2 i (List.mem_range.2 hi)
  simp only [Bool.and_eq_true, List.all_eq_true, Bool.or_eq_true, List.mem_range, beq_iff_eq] at this
  have h2 := (this.2 k hk).resolve_left hne
  have := h2.1 j hj
  simpa using this
theorem fitsX_dst {ops : Array Oper} {T : List TS} (h : fitsX ops T = true) {i k : Nat} (hi : i < ops.size) (hk : k < ops.size) (hne : k ≠ i) {d : Tmp} (hd : dstOf ops i = some d) : dstOf ops k ≠ some d := by
  have := List.all_eq_true.1 (Bool.and_eq_true _ _ ▸ h).2 i (List.mem_range.2 hi)
  simp only [Bool.and_eq_true, List.all_eq_true, Bool.or_eq_true, List.mem_range, beq_iff_eq, bne_iff_ne] at this
  have h2 := (this.2 k hk).resolve_left hne
  rcases h2.2 with h3 | h3
  · rw [hd] at h3; cases h3
  · rw [hd] at h3; exact Ne.symm h3
theorem users_mem {ops : Array Oper} {i d : Nat} : d ∈ users ops i ↔ d < ops.size ∧ i ∈ needs ops d := by
  simp [users, List.mem_filter, List.mem_range]
/-- What holds when b have come up. -/
structure InvX (ops : Array Oper) (X : List Nat) (T : List TS) (a0 : Act) (W : World) (b : Nat → Bool) (a : Act) (w : World) (t : Nat → Value) : Prop where
  defers : a.defers = a0.defers
  size : a.tmps.size = a0.tmps.size
  off : ∀ d, (∀ j, j < ops.size → b j = true → dstOf ops j ≠ some d) → a.tmps[d]? = a0.tmps[d]?
  on : ∀ j d, j < ops.size → b j = true → dstOf ops j = some d → a.tmps[d]? = some (t j)
  below : KX X W w
  spec : ∀ j, j < ops.size → b j = true → specOf T t j
  has : ∀ j, Liv ops T b j → (∀ k, k < ops.size → b k = true → j ∉ (tsAt T k).cons) → HasX X W w (resOf T t j)
  apart : ∀ i j, Liv ops T b i → Liv ops T b j → i ≠ j → (∀ k, k < ops.size → b k = true → i ∉ (tsAt T k).cons) → (∀ k, k < ops.size → b k = true → j ∉ (tsAt T k).cons) → ∀ g ∈ (resOf T t i).fp, g ∉ (resOf T t j).fp
section
variable {P : Program} {ops : Array Oper} {Q : Exit → Act → World → Prop} {X : List Nat} {T : List TS} {a0 : Act} {W : World}
theorem StepX.toI (hB : back ops = true) (hF : fitsX ops T = true) (hZ : ∀ j d, j < ops.size → dstOf ops j = some d → d < a0.tmps.size) {i : Nat} (hi : i < ops.size) (hs : StepX P ops Q X T a0 W i) :
    StepI P ops Q (fun b a w => ∃ t, InvX ops X T a0 W b a w t) i (needs ops i) (users ops i) := by
  rintro b a w ⟨t, f⟩ hb hon hoff
  have hnd : ∀ j, j ∈ needs ops i → j < ops.size := by
    intro j hj
    have h1 := List.all_eq_true.1 hB i (List.mem_range.2 hi)
    have h2 := List.all_eq_true.1 h1 j hj
    have : j < i := by simpa using h2
    omega
  have hlive : ∀ j ∈ (tsAt T i).cons, ∀ k, k < ops.size → b k = true → j ∉ (tsAt T k).cons := by
    intro j hj k hk hbk
    refine fitsX_one hF hi hk (fun e => ?_) hj
    rw [e, hb] at hbk; cases hbk
  have hcl : ∀ j ∈ (tsAt T i).cons, Liv ops T b j := by
    intro j hj
    rcases fitsX_cons hF hi hj with h | h
    · exact .inl ⟨hnd j h, hon j h⟩
    · exact .inr h
  have hX : ∀ x, okX ops i x = true → a.eval x = Tok.look ops i a0 t x := by
    intro x hx
    cases x with
    | tmp d =>
      simp only [okX, Bool.or_eq_true] at hx
      simp only [Tok.look]
      cases hq : (needs ops i).find? fun j => dstOf ops j == some d with
      | some j =>
        have h1 := List.mem_of_find?_eq_some hq
        have h2 := List.find?_some hq
        simp only [beq_iff_eq] at h2
        exact eval_at (f.on j d (hnd j h1) (hon j h1) h2)
      | none =>
        rw [hq] at hx
        have hx := hx.resolve_left (by simp)
        have : a.tmps[d]? = a0.tmps[d]? := by
          refine f.off d fun j hj hbj => ?_
          have h1 := List.all_eq_true.1 hx j (List.mem_range.2 hj)
          simp only [Bool.or_eq_true, bne_iff_ne, beq_iff_eq, List.contains_iff_mem] at h1
          rcases h1 with h1 | h1 | h1
          · exact h1
          · rw [h1, hb] at hbj; cases hbj
          · rw [hoff j h1] at hbj; cases hbj
        simp [Act.eval, this]
    | _ => rfl
  obtain ⟨oi, hoi, hg, hK⟩ := hs a w t hX (fun j hj => f.spec j (hnd j (fitsX_dn hF hi hj)) (hon j (fitsX_dn hF hi hj))) f.below (fun j hj => f.has j (hcl j hj) (hlive j hj))
  refine ⟨oi, hoi, fun K hKK => ?_⟩
  have hw : Region.wanted oi (yielded ops a.tmps) = true := by simp [Region.wanted, hg]
  rw [if_pos hw]
  refine hK K fun v w1 hsp hbl hef hok hfp => hKK _ _ ⟨fun j => if j = i then v else t j, ?_⟩
  have hdo : dstOf ops i = oi.dst := by simp [dstOf, hoi]
  have hti : ∀ k, k < ops.size → b k = true → argsOf T (fun j => if j = i then v else t j) k = argsOf T t k := by
    intro k hk hbk
    refine List.map_congr_left fun j hj => ?_
    have : j ≠ i := by
      rintro rfl
      have := hoff k (users_mem.2 ⟨hk, fitsX_dn hF hk hj⟩)
      rw [hbk] at this; cases this
    simp [this]
  have htv : argsOf T (fun j => if j = i then v else t j) i = argsOf T t i := by
    refine List.map_congr_left fun j hj => ?_
    have : j ≠ i := by
      rintro rfl
      have := hon j (fitsX_dn hF hi hj)
      rw [hb] at this; cases this
    simp [this]
  have hri : resOf T (fun j => if j = i then v else t j) i = (tsAt T i).res (argsOf T t i) v := by
    unfold resOf; rw [htv]; simp
  have hrk : ∀ k, Liv ops T b k → resOf T (fun j => if j = i then v else t j) k = resOf T t k := by
    rintro k (⟨hk, hbk⟩ | ⟨h1, h2⟩)
    · have hki : k ≠ i := by rintro rfl; rw [hb] at hbk; cases hbk
      unfold resOf; rw [hti k hk hbk]; simp [hki]
    · have hki : k ≠ i := by omega
      have hd := fitsX_virt hF h1 h2
      unfold resOf argsOf; rw [hd]; simp [hki]
  have hup : ∀ k, upd b i k = true → k = i ∨ (k ≠ i ∧ b k = true) := by
    intro k hk
    by_cases e : k = i
    · exact .inl e
    · rw [upd_ne e] at hk; exact .inr ⟨e, hk⟩
  have hdown : ∀ k, b k = true → upd b i k = true := by
    intro k hk
    by_cases e : k = i
    · rw [e]; exact upd_self b i
    · rw [upd_ne e]; exact hk
  have hlu : ∀ k, Liv ops T (upd b i) k → k = i ∨ (k ≠ i ∧ Liv ops T b k) := by
    rintro k (⟨hk, hbk⟩ | h)
    · rcases hup k hbk with h | ⟨h, hbk⟩
      · exact .inl h
      · exact .inr ⟨h, .inl ⟨hk, hbk⟩⟩
    · exact .inr ⟨by omega, .inr h⟩
  have keep : ∀ j, Liv ops T b j → (∀ k, k < ops.size → upd b i k = true → j ∉ (tsAt T k).cons) → (∀ g ∈ (resOf T t j).fp, g < w.heap.size ∧ g ∉ consFp T t i) ∧ HasX X W w (resOf T t j) := by
    intro j hbj hl
    have hl' : ∀ k, k < ops.size → b k = true → j ∉ (tsAt T k).cons := fun k hk hbk => hl k hk (hdown k hbk)
    have hh := f.has j hbj hl'
    refine ⟨fun g hg => ⟨(hh.2 g hg).2, fun hc => ?_⟩, hh⟩
    obtain ⟨m, hm, hgm⟩ := List.mem_flatMap.1 hc
    have hmj : j ≠ m := by
      rintro rfl
      exact hl i hi (upd_self b i) hm
    exact f.apart j m hbj (hcl m hm) hmj hl' (hlive m hm) g hg hgm
  constructor
  case defers => cases hd : oi.dst <;> exact f.defers
  case size => cases hd : oi.dst <;> simpa [Act.put] using f.size
  case off =>
    intro d hd
    have h1 : oi.dst ≠ some d := by rw [← hdo]; exact hd i hi (upd_self b i)
    rw [← f.off d fun j hj hbj => hd j hj (hdown j hbj)]
    cases he : oi.dst with
    | none => rfl
    | some e => exact at_ne (fun h => h1 (by rw [he, h]))
  case on =>
    intro j d hj hbj hd
    rcases hup j hbj with rfl | ⟨hji, hbj⟩
    · rw [hdo] at hd
      rw [hd]
      have := hZ j d hj (hdo.trans hd)
      simp only [if_true]
      exact at_put (f.size ▸ this)
    · have h1 := f.on j d hj hbj hd
      simp only [if_neg hji]
      rw [← h1]
      cases he : oi.dst with
      | none => rfl
      | some e => exact at_ne (fun h => fitsX_dst hF hj hi (Ne.symm hji) hd (by rw [hdo, he, h]))
  case below => exact hbl
  case spec =>
    intro j hj hbj
    rcases hup j hbj with rfl | ⟨hji, hbj⟩
    · unfold specOf; rw [htv]; simpa using hsp
    · have := f.spec j hj hbj
      unfold specOf at this ⊢
      rw [hti j hj hbj]; simpa [hji] using this
  case has =>
    intro j hbj hl
    rcases hlu j hbj with rfl | ⟨hji, hbj⟩
    · rw [hri]
      refine ⟨hok, fun g hg => ⟨?_, (hfp g hg).2⟩⟩
      rcases (hfp g hg).1 with h1 | h1
      · obtain ⟨m, hm, hgm⟩ := List.mem_flatMap.1 h1
        exact ((f.has m (hcl m hm) (hlive m hm)).2 g hgm).1
      · exact .inl (Nat.le_trans f.below.size h1)
    · obtain ⟨h1, h2⟩ := keep j hbj hl
      rw [hrk j hbj]
      exact ⟨(resOf T t j).loc w w1 (fun g hg => hef.2 g (h1 g hg).1 (h1 g hg).2) h2.1, fun g hg => ⟨(h2.2 g hg).1, Nat.lt_of_lt_of_le (h2.2 g hg).2 hef.1⟩⟩
  case apart =>
    intro p q hbp hbq hpq hlp hlq g hg hg2
    rcases hlu p hbp with rfl | ⟨hpi, hbp'⟩
    · rcases hlu q hbq with rfl | ⟨hqi, hbq'⟩
      · exact hpq rfl
      · rw [hri] at hg
        rw [hrk q hbq'] at hg2
        obtain ⟨h1, h2⟩ := keep q hbq' hlq
        rcases (hfp g hg).1 with h3 | h3
        · exact (h1 g hg2).2 h3
        · have := (h1 g hg2).1; omega
    · rcases hlu q hbq with rfl | ⟨hqi, hbq'⟩
      · rw [hri] at hg2
        rw [hrk p hbp'] at hg
        obtain ⟨h1, h2⟩ := keep p hbp' hlp
        rcases (hfp g hg2).1 with h3 | h3
        · exact (h1 g hg).2 h3
        · have := (h1 g hg).1; omega
      · rw [hrk p hbp'] at hg
        rw [hrk q hbq'] at hg2
        exact f.apart p q hbp' hbq' hpq (fun k hk hbk => hlp k hk (hdown k hbk)) (fun k hk hbk => hlq k hk (hdown k hbk)) g hg hg2
theorem wp_region_bor {id : Nat} {a : Act} {w : World} (T : List TS) (hm : P.follows .mixedOrders = true) (hB : back ops = true) (hF : fitsX ops T = true) (hZ : dstsOk ops a.tmps.size = true)
    (hlent : ∀ j, ops.size ≤ j → j < T.length → HasX X w w ((tsAt T j).res [] undef))
    (hap : ∀ i j, ops.size ≤ i → i < T.length → ops.size ≤ j → j < T.length → i ≠ j → ∀ g ∈ ((tsAt T i).res [] undef).fp, g ∉ ((tsAt T j).res [] undef).fp)
    (hs : StepsX P ops Q X T a w 0 ops.size)
    (hend : ∀ (t : Nat → Value) (w' : World), KX X w w' → (∀ j, j < ops.size → specOf T t j) →
      (∀ j, j < T.length → ((List.range ops.size).all fun k => !(tsAt T k).cons.contains j) = true → HasX X w w' (resOf T t j)) →
      (∀ i j, i < T.length → j < T.length → i ≠ j → ((List.range ops.size).all fun k => !(tsAt T k).cons.contains i) = true → ((List.range ops.size).all fun k => !(tsAt T k).cons.contains j) = true → ∀ g ∈ (resOf T t i).fp, g ∉ (resOf T t j).fp) →
      Q .normal (puts a (slots ops t)) w') : (Code.region id ops true).wp P Q a w := by
  have hZ' : ∀ j d, j < ops.size → dstOf ops j = some d → d < a.tmps.size := by
    intro j d hj hd
    have := List.all_eq_true.1 hZ j (List.mem_range.2 hj)
    rw [hd] at this
    simpa using this
  have hlive : ∀ {j : Nat} {b : Nat → Bool}, ((List.range ops.size).all fun k => !(tsAt T k).cons.contains j) = true → ∀ k, k < ops.size → b k = true → j ∉ (tsAt T k).cons := by
    intro j b h k hk _ hc
    have := List.all_eq_true.1 h k (List.mem_range.2 hk)
    simp [hc] at this
  refine wp_region_inv _ (fun b a' w' => ∃ t, InvX ops X T a w b a' w' t) hm hB rfl ⟨fun _ => undef, ?_⟩ ?_ ?_
  · constructor
    case defers => rfl
    case size => rfl
    case off => intro d _; rfl
    case below => exact (KX.refl X w).step (b_drew (b_refl w))
    case has =>
      rintro j (⟨_, h⟩ | ⟨h1, h2⟩) _
      · cases h
      · have hd := fitsX_virt hF h1 h2
        have h0 := hlent j h1 h2
        have e : resOf T (fun _ => undef) j = (tsAt T j).res [] undef := by unfold resOf argsOf; rw [hd]; rfl
        rw [e]
        exact ⟨((tsAt T j).res [] undef).loc w w.drew (fun g hg => (b_drew (b_refl w)).block g (h0.2 g hg).2) h0.1, h0.2⟩
    case apart =>
      rintro p q (⟨_, h⟩ | ⟨h1, h2⟩) (⟨_, h⟩ | ⟨h3, h4⟩) hpq _ _ g hg hg2
      · cases h
      · cases h
      · cases h
      · have hd := fitsX_virt hF h1 h2
        have hd2 := fitsX_virt hF h3 h4
        have e : resOf T (fun _ => undef) p = (tsAt T p).res [] undef := by unfold resOf argsOf; rw [hd]; rfl
        have e2 : resOf T (fun _ => undef) q = (tsAt T q).res [] undef := by unfold resOf argsOf; rw [hd2]; rfl
        rw [e] at hg
        rw [e2] at hg2
        exact hap p q h1 h2 h3 h4 hpq g hg hg2
    all_goals (intros; contradiction)
  · have hall : ∀ i, i < ops.size → StepI P ops Q (fun b a' w' => ∃ t, InvX ops X T a w b a' w' t) i (needs ops i) (users ops i) := fun i hi => (hs.get i (Nat.zero_le _) (by omega)).toI hB hF hZ' hi
    have : ∀ (l : List Nat), (∀ i ∈ l, i < ops.size) → StepsI P ops Q (fun b a' w' => ∃ t, InvX ops X T a w b a' w' t) (l.map fun i => (i, needs ops i, users ops i)) := by
      intro l
      induction l with
      | nil => intro _; trivial
      | cons i l ih => intro h; exact ⟨hall i (h i List.mem_cons_self), ih fun j hj => h j (List.mem_cons_of_mem _ hj)⟩
    exact this _ fun i hi => List.mem_range.1 hi
  · rintro b a' w' hall ⟨t, f⟩
    have e : a' = puts a (slots ops t) := by
      have hmem : ∀ e, e ∈ slots ops t ↔ ∃ i, i < ops.size ∧ ∃ d, dstOf ops i = some d ∧ e = (d, t i) := by
        intro e
        simp only [slots, List.mem_filterMap, List.mem_range, Option.map_eq_some_iff]
        constructor
        · rintro ⟨i, hi, d, hd, rfl⟩; exact ⟨i, hi, d, hd, rfl⟩
        · rintro ⟨i, hi, d, hd, rfl⟩; exact ⟨i, hi, d, hd, rfl⟩
      refine Same.eq ⟨f.defers, f.size, fun d hd => f.off d fun j hj _ hjd => ?_⟩ ?_ ?_ ?_
      · have : d ∈ (slots ops t).map (·.1) := List.mem_map.2 ⟨(d, t j), (hmem _).2 ⟨j, hj, d, hjd, rfl⟩, rfl⟩
        rw [← List.contains_iff_mem, hd] at this
        cases this
      · have hnd : ∀ l : List Nat, l.Nodup → (∀ i ∈ l, i < ops.size) → ((l.filterMap fun i => (dstOf ops i).map fun d => (d, t i)).map (·.1)).Nodup := by
          intro l
          induction l with
          | nil => intro _ _; simp
          | cons i l ih =>
            intro hn hl
            rw [List.nodup_cons] at hn
            have ih := ih hn.2 fun j hj => hl j (List.mem_cons_of_mem _ hj)
            cases hd : dstOf ops i with
            | none => simpa [List.filterMap_cons, hd] using ih
            | some d =>
              simp only [List.filterMap_cons, hd, Option.map_some, List.map_cons, List.nodup_cons]
              refine ⟨fun hc => ?_, ih⟩
              obtain ⟨e, he, hed⟩ := List.mem_map.1 hc
              obtain ⟨k, hk, hke⟩ := List.mem_filterMap.1 he
              obtain ⟨d2, hd2, rfl⟩ := Option.map_eq_some_iff.1 hke
              simp only at hed
              subst hed
              have hki : k ≠ i := by rintro rfl; exact hn.1 hk
              exact fitsX_dst hF (hl i List.mem_cons_self) (hl k (List.mem_cons_of_mem _ hk)) hki hd hd2
        exact hnd _ List.nodup_range fun i hi => List.mem_range.1 hi
      · intro e he
        obtain ⟨i, hi, d, hd, rfl⟩ := (hmem e).1 he
        exact hZ' i d hi hd
      · intro e he
        obtain ⟨i, hi, d, hd, rfl⟩ := (hmem e).1 he
        exact f.on i d hi (hall i hi) hd
    subst e
    have hL : ∀ j, j < T.length → Liv ops T b j := fun j hj => by
      rcases Nat.lt_or_ge j ops.size with h | h
      · exact .inl ⟨h, hall j h⟩
      · exact .inr ⟨h, hj⟩
    exact hend t w' f.below (fun j hj => f.spec j hj (hall j hj)) (fun j hj hl => f.has j (hL j hj) (hlive hl))
      fun i j hi hj hij hli hlj => f.apart i j (hL i hi) (hL j hj) hij (hlive hli) (hlive hlj)
end
section
variable {P : Program} {ops : Array Oper} {Q : Exit → Act → World → Prop} {X : List Nat} {T : List TS} {a0 : Act} {W : World} {i : Nat} {oi : Oper}
/-- What the operations ahead of i owe it. -/
def OwedX (X : List Nat) (T : List TS) (W : World) (i : Nat) (w : World) (t : Nat → Value) : Prop := KX X W w ∧ (∀ j ∈ (tsAt T i).dn, specOf T t j) ∧ (∀ j ∈ (tsAt T i).cons, HasX X W w (resOf T t j))
theorem OwedX.spec {w : World} {t : Nat → Value} (h : OwedX X T W i w t) (j : Nat) (hj : (tsAt T i).dn.contains j = true) : specOf T t j := h.2.1 j (List.contains_iff_mem.1 hj)
theorem OwedX.has {w : World} {t : Nat → Value} (h : OwedX X T W i w t) (j : Nat) (hj : (tsAt T i).cons.contains j = true) : HasX X W w (resOf T t j) := h.2.2 j (List.contains_iff_mem.1 hj)
theorem B_val (hoi : ops[i]? = some oi) (hg : oi.guard = none) (hx : oi.op.operands.toList.all (okX ops i) = true) (hsel : noSel oi.op = true) (hres : (tsAt T i).res = none0)
    (h : ∀ w t, OwedX X T W i w t → ∃ v, (execOp (Tok.look ops i a0 t) oi).run P w = .ok (.value v) w ∧ (tsAt T i).spec (argsOf T t i) v) : StepX P ops Q X T a0 W i := by
  intro a w t ha hs hb hc
  refine ⟨oi, hoi, hg, fun K hK => ?_⟩
  obtain ⟨v, hrun, hsp⟩ := h w t ⟨hb, hs, hc⟩
  unfold Oper.wp
  rw [exec_look hx hsel ha, hrun]
  refine hK v w hsp hb (eff_refl _ _) ?_ ?_
  · rw [hres]; trivial
  · rw [hres]; intro g hg; cases hg
theorem B_new (hoi : ops[i]? = some oi) (hg : oi.guard = none) (hx : oi.op.operands.toList.all (okX ops i) = true) (hsel : noSel oi.op = true)
    (h : ∀ w t, OwedX X T W i w t → ∃ v o, (execOp (Tok.look ops i a0 t) oi).run P w = .ok (.value v) (w.alloc o) ∧ (tsAt T i).spec (argsOf T t i) v ∧ ((tsAt T i).res (argsOf T t i) v).ok (w.alloc o) ∧ ∀ g ∈ ((tsAt T i).res (argsOf T t i) v).fp, g = w.heap.size) : StepX P ops Q X T a0 W i := by
  intro a w t ha hs hb hc
  refine ⟨oi, hoi, hg, fun K hK => ?_⟩
  obtain ⟨v, o, hrun, hsp, hok, hfp⟩ := h w t ⟨hb, hs, hc⟩
  unfold Oper.wp
  rw [exec_look hx hsel ha, hrun]
  exact hK v _ hsp (hb.alloc o) (eff_below (b_alloc (b_refl w) o) _) hok fun g hg => ⟨.inr (Nat.le_of_eq (hfp g hg).symm), by rw [hfp g hg]; simp⟩
theorem B_call (hoi : ops[i]? = some oi) (hg : oi.guard = none) (hx : oi.op.operands.toList.all (okX ops i) = true) (hsel : noSel oi.op = true) (f : FuncId)
    (h : ∀ w t, OwedX X T W i w t → ∃ args, (execOp (Tok.look ops i a0 t) oi).run P w = .ok (.enter f args) w ∧ Calls P f args w fun e w' => ∃ v, e = .returned v ∧ Below w.heap.size w w' ∧ (tsAt T i).spec (argsOf T t i) v ∧ ((tsAt T i).res (argsOf T t i) v).ok w' ∧
      ∀ g ∈ ((tsAt T i).res (argsOf T t i) v).fp, w.heap.size ≤ g ∧ g < w'.heap.size) : StepX P ops Q X T a0 W i := by
  intro a w t ha hs hb hc
  refine ⟨oi, hoi, hg, fun K hK => ?_⟩
  obtain ⟨args, hrun, hcall⟩ := h w t ⟨hb, hs, hc⟩
  unfold Oper.wp
  rw [exec_look hx hsel ha, hrun, Oper.upon_enter]
  refine hcall.mono fun e w' hh => ?_
  obtain ⟨v, rfl, hbc, hsp, hok, hfp⟩ := hh
  exact hK v w' hsp (hb.step hbc) (eff_below hbc _) hok fun g hg => ⟨.inr (hfp g hg).1, (hfp g hg).2⟩
/-- A move, an assignment. -/
theorem B_move (x : Operand) (hoi : ops[i]? = some oi) (ho : oi.op = .move x ∨ oi.op = .assign x) (hg : oi.guard = none) (hx : okX ops i x = true) (hres : (tsAt T i).res = none0)
    (h : ∀ w t, OwedX X T W i w t → (tsAt T i).spec (argsOf T t i) (Tok.look ops i a0 t x)) : StepX P ops Q X T a0 W i := by
  refine B_val hoi hg ?_ ?_ hres fun w t ht => ⟨Tok.look ops i a0 t x, ?_, h w t ht⟩
  · rcases ho with ho | ho <;> (rw [ho]; simpa [Op.operands] using hx)
  · rcases ho with ho | ho <;> (rw [ho]; rfl)
  · rcases ho with ho | ho <;> (unfold execOp; rw [ho]; rfl)
/-- A store into a variable of one's own, or lent. -/
theorem B_store (hoi : ops[i]? = some oi) (hg : oi.guard = none) (hd : oi.dst = none) (hx : oi.op.operands.toList.all (okX ops i) = true) (hsel : noSel oi.op = true)
    (h : ∀ w t, OwedX X T W i w t → ∃ v w1, (execOp (Tok.look ops i a0 t) oi).run P w = .ok .skip w1 ∧ (tsAt T i).spec (argsOf T t i) v ∧ KX X W w1 ∧ Eff w w1 (consFp T t i) ∧ ((tsAt T i).res (argsOf T t i) v).ok w1 ∧
      ∀ g ∈ ((tsAt T i).res (argsOf T t i) v).fp, (g ∈ consFp T t i ∨ w.heap.size ≤ g) ∧ g < w1.heap.size) : StepX P ops Q X T a0 W i := by
  intro a w t ha hs hb hc
  refine ⟨oi, hoi, hg, fun K hK => ?_⟩
  obtain ⟨v, w1, hrun, hsp, hbl, hef, hok, hfp⟩ := h w t ⟨hb, hs, hc⟩
  unfold Oper.wp
  rw [exec_look hx hsel ha, hrun]
  have := hK v w1 hsp hbl hef hok hfp
  rw [hd] at this
  simpa [Oper.upon, hd, Act.put] using this
end
end Go.Proofs.YtlldjildedbjlaaDoor.Bor
