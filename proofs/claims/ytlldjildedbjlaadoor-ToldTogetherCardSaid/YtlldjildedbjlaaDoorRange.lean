/- A range over a function that keeps its own state in a cell: the law of the loop. No condition. -/
import Derived.Test.YtlldjildedbjlaaDoorBor
import Derived.RangeFuncNested
import Derived.RangeFuncBound
import Derived.RangeFuncCalls
import Derived.RangeFuncLeaves
namespace Go.Proofs.YtlldjildedbjlaaDoor.Rng
open Go.RowKit Go.Proofs.YtlldjildedbjlaaDoor.Com Go.Proofs.YtlldjildedbjlaaDoor.Bor
set_option linter.unusedVariables false
variable {P : Program}
/-- The blocks X lie as they lay. -/
def SameX (X : List Nat) (W W' : World) : Prop := ∀ b ∈ X, W'.heap[b]? = W.heap[b]?
theorem SameX.trans {X : List Nat} {A B C : World} (h : SameX X A B) (k : SameX X B C) : SameX X A C := fun b hb => (k b hb).trans (h b hb)
theorem SameX.put {X : List Nat} {W : World} {l : Nat} (o : Obj) (hl : l ∉ X) : SameX X W (W.putObj l o) := fun b hb => World.putObj_heap_other (fun e => hl (e ▸ hb))
/-- What an iterator answers that turns the blocks X and no others that were there, lays new ones, and asks of a round that it leave the blocks X. -/
def Iter {α : Type} (P : Program) (X : List Nat) (gf : Nat) (lb : Array Value) (encs : α → Array Value) (ok : α → Prop) (G : World → Prop) (S Sp : List α → Prop) (w : World) : Prop :=
  ∀ (l : Nat) (J Jx : List α → World → Prop) (W : World), KX X w W → SameX X w W → (∀ s A, J s A → G A) → (∀ s A B, J s A → KX X A B → J s B) → (∀ s A B, Jx s A → KX X A B → Jx s B) →
    (∀ pre x W1, J pre W1 → ok x → YieldAt Fence.wide 3 P l (encs x) W1 fun e W' => (e = .returned (.bool true) ∧ J (pre ++ [x]) W' ∧ SameX X W1 W') ∨ (e = .returned (.bool false) ∧ Jx (pre ++ [x]) W')) → J [] W →
    CallsIn Fence.wide 4 P gf (#[.func (.yield l) #[] #[]] ++ lb) W fun e W' => (∃ v, e = .returned v) ∧ ((∃ xs, S xs ∧ J xs W') ∨ (∃ pre, Sp pre ∧ Jx pre W'))
/-- How a round's body may be left. -/
def roundOK {α : Type} (B : Nat) (X : List Nat) (I Ix : List α → World → Prop) (xs : List α) (W : World) : Exit → Act → World → Prop
  | .normal, _, W' => KeepsFrom B W W' ∧ SameX X W W' ∧ I xs W'
  | .ret, _, W' => KeepsFrom B W W' ∧ Ix xs W'
  | _, _, _ => False
/-- The loop: its body either goes on or returns. -/
theorem wp_range {α : Type} {g : Operand} {ps : Array Tmp} {assign body : Code} {Q : Exit → Act → World → Prop} {a : Act} {w : World} (X : List Nat) (hX : ∀ b ∈ X, b < w.heap.size)
    {gf : Nat} {lb : Array Value} (hg : a.eval g = .func (.func gf) #[] lb) (eg : ∀ args w, (callFunc gf args).run P w = .ok (.enter gf args) w)
    {encs : α → Array Value} {ok : α → Prop} {G : World → Prop} {S Sp : List α → Prop} (hit : Iter P X gf lb encs ok G S Sp w) (hps : ∀ x, (encs x).size = ps.size)
    (I Ix : List α → World → Prop) (hG : ∀ s A, I s A → G A) (hI : OwnFrom w.heap.size I) (hIx : OwnFrom w.heap.size Ix) (kI : ∀ s A B, I s A → KX X A B → I s B) (kIx : ∀ s A B, Ix s A → KX X A B → Ix s B) (h0 : I [] w)
    (a₁ : α → Act)
    (hassign : ∀ (l : Nat) (x : α) (W : World) (K : Act → World → Prop), K (a₁ x) W → assign.wpIn (Fence.wide.inRound l) 3 P (Exit.then K (fun _ _ _ => False)) { tmps := (ps.zip (encs x)).foldl (fun t (p, v) => t.setIfInBounds p v) a.tmps, defers := [] } W)
    (hbody : ∀ (l : Nat) (pre : List α) (x : α) (W : World), I pre W → ok x → body.wpIn (Fence.wide.inRound l) 3 P (roundOK w.heap.size X I Ix (pre ++ [x]) W) (a₁ x) W)
    (hdone : ∀ (D : Nat) (xs : List α) (W : World), w.heap.size ≤ D → S xs → I xs W → W.heap[D]? = some (.deferred (some [])) → Q .normal { a with defers := { target := .collected D, args := #[] } :: a.defers } W)
    (hstop : ∀ (D : Nat) (pre : List α) (W : World), w.heap.size ≤ D → Sp pre → Ix pre W → W.heap[D]? = some (.deferred (some [])) → Code.ret.wpIn Fence.wide 5 P Q { a with defers := { target := .collected D, args := #[] } :: a.defers } W) :
    (Code.rangeFunc g ps assign body).wpIn Fence.wide 5 P Q a w := by
  have hXl : w.heap.size + 1 ∉ X := fun h => by have := hX _ h; omega
  have hXd : w.heap.size ∉ X := fun h => by have := hX _ h; omega
  refine wpIn_rangeFunc fun fn hfn => ?_
  generalize hrec : (fun (st : LoopState) (pe : Option Code) => ({ state := st, pending := pe, fn, tmps := a.tmps, params := ps, assign, body, defers := w.heap.size } : Loop)) = rec
  have er : ∀ st pe, rec st pe = { state := st, pending := pe, fn, tmps := a.tmps, params := ps, assign, body, defers := w.heap.size } := fun st pe => by rw [← hrec]
  generalize hW1 : (w.alloc (.deferred (some []))).alloc (.loop (rec .ready none)) = W1
  have hb1 : Below w.heap.size w W1 := by rw [← hW1]; exact b_alloc (b_alloc (b_refl w) _) _
  have rl : W1.heap[w.heap.size + 1]? = some (.loop (rec .ready none)) := by
    have h := World.alloc_heap_new (w.alloc (.deferred (some []))) (.loop (rec .ready none))
    rw [World.size_alloc] at h
    rw [← hW1]; exact h
  have rd : W1.heap[w.heap.size]? = some (.deferred (some [])) := by
    rw [← hW1]
    exact (Below.heap_alloc _ _ _ (by simp)).trans (World.alloc_heap_new w _)
  have i1 : I [] W1 := by rw [← hW1]; exact hI.alloc _ (hI.alloc _ h0)
  have hkx : KX X w W1 := (KX.refl X w).step hb1
  have hsx : SameX X w W1 := fun b hb => hb1.block b (hX b hb)
  -- what the machine keeps of the loop, through whatever the iterator or the body does
  have keep : ∀ {A B : World} (r : Loop), A.heap[w.heap.size + 1]? = some (.loop r) → A.heap[w.heap.size]? = some (.deferred (some [])) → KX X A B → B.heap[w.heap.size + 1]? = some (.loop r) ∧ B.heap[w.heap.size]? = some (.deferred (some [])) :=
    fun r h1 h2 k => ⟨(k.block _ (Array.getElem?_eq_some_iff.1 h1).1 hXl).trans h1, (k.block _ (Array.getElem?_eq_some_iff.1 h2).1 hXd).trans h2⟩
  refine ⟨w.heap.size + 1, [{ target := .collected w.heap.size, args := #[] }], W1, { target := .fn (.func gf) lb, args := #[.func (.yield (w.heap.size + 1)) #[] #[]] }, W1, gf, #[.func (.yield (w.heap.size + 1)) #[] #[]] ++ lb, W1, ?_, ?_, fun _ _ => trivial, ?_, fun _ => by omega, ?_⟩
  · rw [← hW1, er]; exact run_enterLoop_outer fn a.tmps ps assign body
  · simp only [resolve, hg]
    simp [go_sem]
  · simp [invoke, go_sem, eg]
  refine (hit (w.heap.size + 1) (fun s A => I s A ∧ A.heap[w.heap.size + 1]? = some (.loop (rec .ready none)) ∧ A.heap[w.heap.size]? = some (.deferred (some [])))
    (fun s A => Ix s A ∧ A.heap[w.heap.size + 1]? = some (.loop (rec .done (some .ret))) ∧ A.heap[w.heap.size]? = some (.deferred (some []))) W1 hkx hsx (fun s A h => hG s A h.1)
    (fun s A B h k => ⟨kI s A B h.1 k, keep _ h.2.1 h.2.2 k⟩) (fun s A B h k => ⟨kIx s A B h.1 k, keep _ h.2.1 h.2.2 k⟩) ?_ ⟨i1, rl, rd⟩).mono ?_
  · -- a round
    rintro pre x W ⟨hi, hl, hd⟩ hok
    have hlt := (Array.getElem?_eq_some_iff.1 hl).1
    have hy := run_yield (P := P) (args := encs x) hl (by rw [er]; exact hps x)
    rw [er] at hy
    refine ⟨fn, _, assign, body, hy, roundIn_of_wpIn hfn (hassign _ x W _ ⟨_, run_beginRound hl (by rw [er]), ?_⟩)⟩
    generalize hWb : W.putObj (w.heap.size + 1) (.loop { rec .ready none with state := .busy }) = Wb
    have bl : Wb.heap[w.heap.size + 1]? = some (.loop { rec .ready none with state := .busy }) := by rw [← hWb]; exact World.putObj_heap_same hlt
    have bd : Wb.heap[w.heap.size]? = some (.deferred (some [])) := by rw [← hWb]; exact (World.putObj_heap_other (by omega)).trans hd
    have bi : I pre Wb := by rw [← hWb]; exact hI.putObj _ hi (by omega) hl rfl
    have bx : SameX X W Wb := by rw [← hWb]; exact SameX.put _ hXl
    refine wpIn_mono (hbody _ pre x Wb bi hok) ?_
    rintro e a3 W3 hp
    cases e with
    | normal =>
      obtain ⟨hk, hs, hi3⟩ := hp
      have l3 := hk.same _ _ (by omega) bl rfl
      have d3 := hk.same _ _ (Nat.le_refl _) bd rfl
      have he := run_endRound (P := P) none l3
      rw [er] at he l3
      refine ⟨_, _, he, .inl ⟨rfl, ⟨hI.putObj _ hi3 (by omega) l3 rfl, ?_, (World.putObj_heap_other (by omega)).trans d3⟩, (bx.trans hs).trans (SameX.put _ hXl)⟩⟩
      rw [er]
      exact World.putObj_heap_same (Array.getElem?_eq_some_iff.1 l3).1
    | ret =>
      obtain ⟨hk, hi3⟩ := hp
      have l3 := hk.same _ _ (by omega) bl rfl
      have d3 := hk.same _ _ (Nat.le_refl _) bd rfl
      have he := run_endRound (P := P) (some .ret) l3
      rw [er] at he l3
      refine ⟨_, _, he, .inr ⟨rfl, hIx.putObj _ hi3 (by omega) l3 rfl, ?_, (World.putObj_heap_other (by omega)).trans d3⟩⟩
      rw [er]
      exact World.putObj_heap_same (Array.getElem?_eq_some_iff.1 l3).1
    | exit id => exact hp.elim
    | goto t => exact hp.elim
    | panic ch => exact hp.elim
    | outgrown => exact hp.elim
  · -- behind the iterator
    rintro e W2 ⟨⟨v, rfl⟩, (⟨xs, hS, hi, hl, hd⟩ | ⟨pre, hS, hi, hl, hd⟩)⟩
    · have he := run_endLoop (P := P) hl (by rw [er]; simp)
      rw [er] at he hl
      exact ⟨none, _, he, hdone _ xs _ (Nat.le_refl _) hS (hI.putObj _ hi (by omega) hl rfl) ((World.putObj_heap_other (by omega)).trans hd)⟩
    · have he := run_endLoop (P := P) hl (by rw [er]; simp)
      rw [er] at he hl
      exact ⟨some .ret, _, he, hstop _ pre _ (Nat.le_refl _) hS (hIx.putObj _ hi (by omega) hl rfl) ((World.putObj_heap_other (by omega)).trans hd)⟩
end Go.Proofs.YtlldjildedbjlaaDoor.Rng
