/- Small words that the walks of this seat share: what is kept below the call's own blocks. No condition. -/
import Derived.Test.YtefihmfilahppaaProg
import Derived.WalkKit
import Derived.WalkMore
import Derived.KernelRfl
import Derived.Below
import Derived.Lib.Hide
import Derived.WalkLawsBesides
import Derived.WideLaws
import Derived.Deep.LoopGhost
import Derived.Deep.QuietTactic
import Derived.BigQuiet
import Derived.Deep.RegionHeld3
import Derived.Laws.OwnMore
import Derived.Laws.Rows
import Derived.Maps.AppendAt
import Derived.Deep.AppendLies
import Derived.OwnWalk
import Derived.Outline
namespace Go.Proofs.Ytefihmfilahppaa.Com
open Go.RowKit
set_option linter.unusedVariables false

theorem ret_int {k : IntKind} {a b : Int} (h : a = b) : Ending.returned (.int k a) = .returned (.int k b) := by rw [h]
theorem ret_bool {a b : Bool} (h : a = b) : Ending.returned (.bool a) = .returned (.bool b) := by rw [h]

/-! Below, step by step. -/
theorem b_refl (w : World) : Below w.heap.size w w := Below.refl _ _
theorem b_alloc {w W : World} (h : Below w.heap.size w W) (o : Obj) : Below w.heap.size w (W.alloc o) := h.alloc h.size o
theorem b_drew {w W : World} (h : Below w.heap.size w W) : Below w.heap.size w W.drew := h.drew
theorem b_drewN {w W : World} (h : Below w.heap.size w W) (n : Nat) : Below w.heap.size w (W.drewN n) := ⟨h.os, h.tape, h.output, h.size, h.block⟩
theorem b_step {w W w2 : World} (h : Below w.heap.size w W) (k : Below W.heap.size W w2) : Below w.heap.size w w2 := h.trans (k.mono h.size)
theorem b_set {w W : World} {p : Addr} (h : Below w.heap.size w W) (hp : w.heap.size ≤ p.block) (u : Value) : Below w.heap.size w (W.setCell p u) := h.setCell hp u
theorem b_grown {w w1 w2 : World} {row : Option Nat} (h : Below w.heap.size w w1) (hg : w1.grownBy w2 row) (hr : ∀ k, row = some k → w.heap.size ≤ k) : Below w.heap.size w w2 := h.grown hg h.size hr
/-- Old cells and old marks read as before. -/
theorem b_cells {W w1 : World} (hb : Below W.heap.size W w1) : (∀ b o, b < W.heap.size → w1.cell? ⟨b, o, none⟩ = W.cell? ⟨b, o, none⟩) ∧ (∀ b o, b < W.heap.size → w1.frozen? ⟨b, o, none⟩ = W.frozen? ⟨b, o, none⟩) :=
  ⟨fun b o h => hb.cell (p := ⟨b, o, none⟩) h, fun b o h => hb.frozen (p := ⟨b, o, none⟩) h⟩
/-- A cell that was there is as it was. -/
theorem b_keep {w w1 : World} (h : Below w.heap.size w w1) {a : Addr} {v : Value} (hc : w.cell? a = some v) : w1.cell? a = some v := (h.cell (World.block_lt_of_cell? w a hc)).trans hc

/-! A block that is known whole. -/
def Blk (w : World) (g : Nat) (t : TypeId) (cs : Array Value) : Prop := w.heap[g]? = some (.cells cs t (0, 0))
theorem Blk.lt {w : World} {g : Nat} {t : TypeId} {cs : Array Value} (h : Blk w g t cs) : g < w.heap.size := (Array.getElem?_eq_some_iff.1 h).1
theorem Blk.cell {w : World} {g : Nat} {t : TypeId} {cs : Array Value} (h : Blk w g t cs) (i : Nat) : w.cell? ⟨g, i, none⟩ = cs[i]? := cell_of_row w g i cs t (0, 0) h
theorem Blk.frozen {w : World} {g : Nat} {t : TypeId} {cs : Array Value} (h : Blk w g t cs) (i : Nat) : w.frozen? ⟨g, i, none⟩ = false := by
  unfold Blk at h
  simp [World.frozen?, h]
theorem Blk.new (w : World) (t : TypeId) (cs : Array Value) : Blk (w.alloc (.cells cs t)) w.heap.size t cs := heap_alloc_new w _
theorem Blk.drew {w : World} {g : Nat} {t : TypeId} {cs : Array Value} (h : Blk w g t cs) : Blk w.drew g t cs := h
theorem Blk.drewN {w : World} {g : Nat} {t : TypeId} {cs : Array Value} (h : Blk w g t cs) (n : Nat) : Blk (w.drewN n) g t cs := h
theorem Blk.alloc {w : World} {g : Nat} {t : TypeId} {cs : Array Value} (h : Blk w g t cs) (o : Obj) : Blk (w.alloc o) g t cs := (Below.heap_alloc w o g h.lt).trans h
theorem Blk.set_ {w : World} {g : Nat} {t : TypeId} {cs : Array Value} (h : Blk w g t cs) (i : Nat) (u : Value) : Blk (w.setCell ⟨g, i, none⟩ u) g t (cs.setIfInBounds i u) := by
  unfold Blk at h ⊢
  simp [World.setCell, Array.getElem?_modify, h]
theorem Blk.far {w : World} {g : Nat} {t : TypeId} {cs : Array Value} (h : Blk w g t cs) {p : Addr} (hp : g ≠ p.block) (u : Value) : Blk (w.setCell p u) g t cs := (Below.heap_setCell w p u g hp).trans h
theorem Blk.below {w w' : World} {g : Nat} {t : TypeId} {cs : Array Value} (h : Blk w g t cs) (hb : Below w.heap.size w w') : Blk w' g t cs := (hb.block g h.lt).trans h
theorem Blk.grown {w w' : World} {g : Nat} {t : TypeId} {cs : Array Value} {row : Option Nat} (h : Blk w g t cs) (hb : w.grownBy w' row) (hg : some g ≠ row) : Blk w' g t cs := (hb.block g h.lt hg).trans h

/-! A slice that reads as a list of cells; nil let in. -/
theorem block_of_add (a : Addr) (n : Nat) : (a.add n).block = a.block := by unfold Addr.add; split <;> rfl
theorem add_of_add (a : Addr) (i j : Nat) : (a.add i).add j = a.add (i + j) := by
  unfold Addr.add
  by_cases hi : i = 0 <;> by_cases hj : j = 0 <;> simp [hi, hj, Nat.add_assoc]
theorem add_plain (g j : Nat) : (⟨g, 0, none⟩ : Addr).add j = ⟨g, j, none⟩ := by unfold Addr.add; split <;> simp_all
/-- The slice at A, of n elements of 'size' cells each, holds the cells xs. -/
def Reads (w : World) (size : Nat) (A : Option Addr) (n : Nat) (xs : List Value) : Prop :=
  xs.length = n * size ∧ (0 < n → ∃ ad, A = some ad ∧ ∀ j u, xs[j]? = some u → w.cell? (ad.add j) = some u)
theorem Reads.none_ {w : World} {size : Nat} : Reads w size none 0 [] := ⟨by simp, fun h => absurd h (by omega)⟩
theorem Reads.below {w w1 : World} {size n : Nat} {A : Option Addr} {xs : List Value} (h : Reads w size A n xs) (hb : Below w.heap.size w w1) : Reads w1 size A n xs :=
  ⟨h.1, fun hn => by
    obtain ⟨ad, e, hc⟩ := h.2 hn
    exact ⟨ad, e, fun j u hj => b_keep hb (hc j u hj)⟩⟩
theorem Reads.of_own {w : World} {base size n : Nat} {A : Option Addr} {e : TypeId} {c : Nat} {xs : List Value} (h : w.ownsRow base e size (.slice A n c) n xs) : Reads w size A n xs := by
  refine ⟨h.1, fun hn => ?_⟩
  obtain ⟨g, cap, hv, _, hlt⟩ := h.form hn
  have hA : A = some ⟨g, 0, none⟩ := by injection hv
  subst hA
  exact ⟨_, rfl, h.cells (g := g) rfl⟩
theorem Reads.cut {w : World} {size n k cap : Nat} {A : Option Addr} {xs : List Value} (h : Reads w size A n xs) (hk : k ≤ n) (hc : n ≤ cap) :
    Reads w size (if cap = k then A else A.map (·.add (k * size))) (n - k) (xs.drop (k * size)) := by
  refine ⟨by rw [List.length_drop, h.1, Nat.sub_mul], fun hn => ?_⟩
  obtain ⟨ad, rfl, hcell⟩ := h.2 (by omega)
  rw [if_neg (by omega)]
  refine ⟨ad.add (k * size), rfl, fun j u hu => ?_⟩
  rw [add_of_add]
  exact hcell _ u (by rw [← hu, List.getElem?_drop])

/-! A region that draws its order, whose operations only read and whose callees keep what was there: one walk, in the order of the text, in whatever world that has all of the region's first world. -/
/-- A world that has all that W has. -/
def On (W : World) : Type := {x : World // Below W.heap.size W x}
instance (W : World) : Nonempty (On W) := ⟨⟨W, b_refl W⟩⟩
theorem On.cell {W : World} {a : Addr} {v : Value} (h : W.cell? a = some v) : ∀ s : On W, s.1.cell? a = some v := fun s => b_keep s.2 h
theorem On.ends {W w2 : World} (s : On W) (h : Below s.1.heap.size s.1 w2) : ∃ s' : On W, w2 = s'.1 := ⟨⟨w2, b_step s.2 h⟩, rfl⟩
theorem On.same {W : World} (s : On W) : ∃ s' : On W, s.1 = s'.1 := ⟨s, rfl⟩
theorem On.drewn {W : World} (s : On W) (n : Nat) : ∃ s' : On W, s.1.drewN n = s'.1 := ⟨⟨_, b_step s.2 (b_drewN (b_refl _) n)⟩, rfl⟩
theorem wp_region_on {P : Program} {id : Nat} {Q : Exit → Act → World → Prop} {a : Act} {W : World} {l : List Oper} (hm : P.follows .mixedOrders = true) (hB : Region.lexB .any l.toArray = true)
    (h : wpQuiet P l.toArray (fun w' => ∃ s : On W, w' = s.1) (fun a' => ∀ w', (∃ s : On W, w' = s.1) → Q .normal a' w') l a) : (Code.region id l.toArray true).wp P Q a W :=
  wp_region_quiet (C := fun w' => ∃ s : On W, w' = s.1) hm hB ⟨⟨_, b_drew (b_refl W)⟩, rfl⟩ (by simpa using h)
/-- A contract, met in such a world. -/
theorem Calls.on {P : Program} {f : FuncId} {args : Array Value} {W : World} {s : On W} {v : Value} (h : Calls P f args s.1 fun e w' => e = .returned v ∧ Below s.1.heap.size s.1 w') :
    Calls P f args s.1 fun e w'' => e = .returned v ∧ ∃ s' : On W, w'' = s'.1 := h.mono fun _ _ ⟨he, hb⟩ => ⟨he, s.ends hb⟩
theorem Calls.on_same {P : Program} {f : FuncId} {args : Array Value} {W : World} {s : On W} {v : Value} (h : Calls P f args s.1 fun e w' => e = .returned v ∧ w' = s.1) :
    Calls P f args s.1 fun e w'' => e = .returned v ∧ ∃ s' : On W, w'' = s'.1 := h.mono fun _ _ ⟨he, hw⟩ => ⟨he, s, hw⟩

theorem add_succ (a : Addr) (j : Nat) : a.add (j + 1) = ⟨(a.add j).block, (a.add j).off + 1, none⟩ := by
  unfold Addr.add
  by_cases hj : j = 0 <;> simp [hj, Nat.add_assoc]
/-- The cells of element k, of two cells each. -/
theorem Reads.two {w : World} {n : Nat} {ad : Addr} {xs : List Value} (h : Reads w 2 (some ad) n xs) {k : Nat} (hk : k < n) {u v : Value} (hu : xs[k * 2]? = some u) (hv : xs[k * 2 + 1]? = some v) :
    w.cell? (ad.add (k * 2)) = some u ∧ w.cell? ⟨(ad.add (k * 2)).block, (ad.add (k * 2)).off + 1, none⟩ = some v := by
  obtain ⟨ad', e, hc⟩ := h.2 (by omega)
  injection e with e
  subst e
  refine ⟨hc _ _ hu, ?_⟩
  rw [← add_succ]
  exact hc _ _ hv
end Go.Proofs.Ytefihmfilahppaa.Com
