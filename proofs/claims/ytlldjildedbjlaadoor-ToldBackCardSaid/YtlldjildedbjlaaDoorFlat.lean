/- Arguments opened to cells: structs of whole numbers, nested ones too, by value and in slices. No condition. -/
import Derived.Test.YtlldjildedbjlaaDoorCom
import Derived.Deep.Slices
import Derived.Deep.Fields
import Derived.ChangeSame
import Derived.ProofKit
import Derived.OpenShut
import Derived.ChangeOld
import Derived.SizedLaws
import Derived.Carry
import Derived.Lib.SmallJoins
namespace Go.Proofs.YtlldjildedbjlaaDoor.Flat
open Go.ChangeShapes Go.WideShapes Go.Deep Go.RowKit Go.Joins Go.Proofs.YtlldjildedbjlaaDoor.Com
set_option linter.unusedVariables false
/-- Whatever reads as t is whole numbers of the kinds ks. -/
def Flat (P : Program) (t : TypeId) (ks : List IntKind) : Prop :=
  ∀ {H : Type} {enc : TypeId × Value → H} {w : World} {base : Nat} {spare : Nat → Bool} {held : Bool} {fuel : Nat} {cs : List Value} {x : DataW H × List MemPlace}, DataW.trod enc P w base spare held fuel t cs = some x →
    cs.length = ks.length ∧ ∀ (j : Nat) (k : IntKind), ks[j]? = some k → ∃ z : Int, cs[j]? = some (Value.int k z) ∧ (Lit.int k z).wf = true
section
variable {P : Program} {t : TypeId}
theorem flat_int {k : IntKind} (h : P.underlying t = some (.int k)) : Flat P t [k] := by
  intro H enc w base spare held fuel cs x hx
  obtain ⟨z, e, _, wz⟩ := DataW.trod_int h hx
  subst e
  refine ⟨rfl, fun j k' hj => ?_⟩
  cases j with
  | zero => simp at hj; subst hj; exact ⟨z, rfl, wz⟩
  | succ j => simp at hj
theorem flatten_at {α : Type} : ∀ (kss : List (List α)) (j : Nat) (k : α), kss.flatten[j]? = some k → ∃ i ks j', kss[i]? = some ks ∧ ks[j']? = some k ∧ j = (kss.take i).flatten.length + j'
  | [], j, k, h => by simp at h
  | ks :: r, j, k, h => by
    rw [List.flatten_cons] at h
    by_cases hj : j < ks.length
    · rw [List.getElem?_append_left hj] at h
      exact ⟨0, ks, j, rfl, h, by simp⟩
    · rw [List.getElem?_append_right (by omega)] at h
      obtain ⟨i, ks', j', h1, h2, h3⟩ := flatten_at r _ k h
      exact ⟨i + 1, ks', j', by simpa using h1, h2, by rw [List.take_succ_cons, List.flatten_cons, List.length_append]; omega⟩
theorem flat_struct (fs : List Field) (ht : P.underlying t = some (.struct fs.toArray)) (kss : List (List IntKind)) (hc : P.cellsOf t = kss.flatten.length)
    (hf : ∀ i ks, kss[i]? = some ks → ∃ f, fs[i]? = some f ∧ Flat P f.type ks ∧ P.cellsOf f.type = ks.length ∧ f.offset = (kss.take i).flatten.length) : Flat P t kss.flatten := by
  intro H enc w base spare held fuel cs x hx
  obtain ⟨xs, n, _, _, hcs, hxl, hfs⟩ := DataW.trod_struct ht hx
  refine ⟨hcs.trans hc, fun j k hj => ?_⟩
  obtain ⟨i, ks, j', h1, h2, rfl⟩ := flatten_at kss j k hj
  obtain ⟨f, g1, g2, g3, g4⟩ := hf i ks h1
  have h3 := hfs i f (by simpa using g1)
  have hix : i < xs.length := by
    have := (List.getElem?_eq_some_iff.1 g1).1
    simp at hxl
    omega
  rw [List.getElem?_eq_getElem hix, g3, g4] at h3
  obtain ⟨z, hz, wz⟩ := (g2 h3).2 j' k h2
  refine ⟨z, ?_, wz⟩
  have hj' : j' < ks.length := (List.getElem?_eq_some_iff.1 h2).1
  rw [List.getElem?_take_of_lt hj', List.getElem?_drop] at hz
  exact hz
end
/-- Whole numbers as cells. -/
def nums (zs : List Int) : List Value := zs.map (Value.int .i64)
theorem Flat.toNums {P : Program} {t : TypeId} {m : Nat} (hF : Flat P t (List.replicate m .i64)) {H : Type} {enc : TypeId × Value → H} {w : World} {base : Nat} {spare : Nat → Bool} {held : Bool} {fuel : Nat} {cs : List Value} {x : DataW H × List MemPlace}
    (h : DataW.trod enc P w base spare held fuel t cs = some x) : ∃ zs : List Int, zs.length = m ∧ cs = nums zs ∧ ∀ z ∈ zs, (Lit.int .i64 z).wf = true := by
  obtain ⟨hl, hj⟩ := hF h
  rw [List.length_replicate] at hl
  have each : ∀ j, j < m → ∃ z : Int, cs[j]? = some (.int .i64 z) ∧ (Lit.int .i64 z).wf = true := fun j hjm => hj j .i64 (by simp [hjm])
  have pick : ∃ f : Nat → Int, ∀ j, j < m → cs[j]? = some (.int .i64 (f j)) ∧ (Lit.int .i64 (f j)).wf = true :=
    ⟨fun j => if h : j < m then Classical.choose (each j h) else 0, fun j hjm => by simp only [dif_pos hjm]; exact Classical.choose_spec (each j hjm)⟩
  obtain ⟨f, hf⟩ := pick
  refine ⟨(List.range m).map f, by simp, ?_, fun z hz => ?_⟩
  · apply List.ext_getElem?
    intro j
    by_cases hjm : j < m
    · rw [(hf j hjm).1]; simp [hjm, nums]
    · rw [List.getElem?_eq_none (by omega), List.getElem?_eq_none (by simp [nums]; omega)]
  · obtain ⟨j, hjm, rfl⟩ := List.mem_map.1 hz
    exact (hf j (List.mem_range.1 hjm)).2
/-- A struct by value. -/
theorem open_nums {P : Program} {t : TypeId} {fs : Array Field} {m : Nat} (ht : P.underlying t = some (.struct fs)) (hF : Flat P t (List.replicate m .i64)) {H : Type} {enc : TypeId × Value → H} {w : World} {base b0 : Nat} {spare : Nat → Bool} {r : Reach} {held : Bool} {v : Value} {d : DataW H} {p : List MemPlace}
    (hv : Value.okWide P w r b0 t v) (h : DataW.Trod enc P w base spare held t v d p) : ∃ zs : List Int, zs.length = m ∧ v = .agg (nums zs).toArray ∧ ∀ z ∈ zs, (Lit.int .i64 z).wf = true := by
  obtain ⟨cs, rfl, hsz⟩ := okWide_struct ht hv
  obtain ⟨fuel, hf⟩ := h
  obtain ⟨zs, h1, h2, h3⟩ := hF.toNums hf
  refine ⟨zs, h1, ?_, h3⟩
  have : cs.toList = nums zs := by simpa [Value.cells] using h2
  rw [← this]
/-- A slice of such. -/
theorem open_nums_slice {P : Program} {t e : TypeId} {m : Nat} (hm : 0 < m) (ht : P.underlying t = some (.slice e)) (hC : P.cellsOf e = m) (hF : Flat P e (List.replicate m .i64)) {H : Type} {enc : TypeId × Value → H} {W : World} {A : Option Addr} {n c : Nat} {d : DataW H} {p : List MemPlace}
    (h : DataW.Trod enc P W 0 (fun _ => true) true t (.slice A n c) d p) :
    ∃ zss : List (List Int), zss.length = n ∧ (∀ zs ∈ zss, zs.length = m ∧ ∀ z ∈ zs, (Lit.int .i64 z).wf = true) ∧ Reads W m A n (nums zss.flatten) ∧ n ≤ c ∧ c ≤ maxLen := by
  obtain ⟨fuel, hf⟩ := h
  rcases open_slice ht hf with ⟨hcs, _⟩ | ⟨a, len, cap, mm, nn, D, Pl, hcs, hb, hl, hmx, hmm, hx, hi⟩
  · simp [Value.cells] at hcs
    obtain ⟨rfl, rfl, rfl⟩ := hcs
    exact ⟨[], rfl, by simp, Reads.none_, by omega, by simp [maxLen]⟩
  · simp [Value.cells] at hcs
    obtain ⟨rfl, rfl, rfl⟩ := hcs
    simp only [if_true] at hmm
    subst hmm
    have each : ∀ i, i < mm → ∃ zs : List Int, zs.length = m ∧ (∀ z ∈ zs, (Lit.int .i64 z).wf = true) ∧ ∀ j u, (nums zs)[j]? = some u → W.cell? (a.add (i * m + j)) = some u := fun i him => by
      obtain ⟨cs', hc, ht'⟩ := hi i him
      rw [hC] at hc
      obtain ⟨zs, h1, rfl, h3⟩ := hF.toNums ht'
      obtain ⟨_, hcl, hat⟩ := World.cells?_some hc
      refine ⟨zs, h1, h3, fun j u hj => ?_⟩
      have hjl : j < m := by
        have := (List.getElem?_eq_some_iff.1 hj).1
        simpa [nums, h1] using this
      rw [← Go.Deep.add_add, hat j hjl, hj]
    have pick : ∃ f : Nat → List Int, ∀ i, i < mm → (f i).length = m ∧ (∀ z ∈ f i, (Lit.int .i64 z).wf = true) ∧ ∀ j u, (nums (f i))[j]? = some u → W.cell? (a.add (i * m + j)) = some u :=
      ⟨fun i => if h : i < mm then Classical.choose (each i h) else [], fun i hi => by simp only [dif_pos hi]; exact Classical.choose_spec (each i hi)⟩
    obtain ⟨f, hfs⟩ := pick
    have hlen : ∀ k, k ≤ mm → ((List.range k).map f).flatten.length = k * m := by
      intro k
      induction k with
      | zero => intro _; simp
      | succ k ih =>
        intro hk
        rw [List.range_succ, List.map_append, List.flatten_append, List.length_append, ih (by omega)]
        simp [(hfs k (by omega)).1, Nat.succ_mul]
    have hcell : ∀ k, k ≤ mm → ∀ j u, (nums ((List.range k).map f).flatten)[j]? = some u → W.cell? (a.add j) = some u := by
      intro k
      induction k with
      | zero => intro _ j u hj; simp [nums] at hj
      | succ k ih =>
        intro hk j u hj
        rw [List.range_succ, List.map_append, List.flatten_append] at hj
        unfold nums at hj
        rw [List.map_append] at hj
        by_cases hjk : j < k * m
        · rw [List.getElem?_append_left (by rw [List.length_map, hlen k (by omega)]; exact hjk)] at hj
          exact ih (by omega) j u hj
        · rw [List.getElem?_append_right (by rw [List.length_map, hlen k (by omega)]; omega), List.length_map, hlen k (by omega)] at hj
          have := (hfs k (by omega)).2.2 (j - k * m) u (by simpa [nums] using hj)
          rwa [show k * m + (j - k * m) = j by omega] at this
    refine ⟨(List.range n).map f, by simp, fun zs hz => ?_, ⟨?_, fun _ => ⟨a, rfl, hcell n hl⟩⟩, hl, hmx⟩
    · obtain ⟨i, hi', rfl⟩ := List.mem_map.1 hz
      have := hfs i (by have := List.mem_range.1 hi'; omega)
      exact ⟨this.1, this.2.1⟩
    · simp only [nums, List.length_map]
      exact hlen n hl
end Go.Proofs.YtlldjildedbjlaaDoor.Flat
