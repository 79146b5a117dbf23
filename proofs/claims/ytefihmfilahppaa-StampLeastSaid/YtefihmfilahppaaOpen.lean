/- Arguments opened to cells: slices of structs. No condition. -/
import Derived.Test.YtefihmfilahppaaOldest
import Derived.Deep.Slices
import Derived.Deep.Fields
import Derived.ChangeSame
import Derived.ProofKit
import Derived.OpenShut
import Derived.ChangeOld
import Derived.SizedLaws
import Derived.Carry
import Derived.Lib.SmallJoins
namespace Go.Proofs.Ytefihmfilahppaa.Open
open Go.ChangeShapes Go.WideShapes Go.Deep Go.RowKit Go.Joins Go.Proofs.Ytefihmfilahppaa.Com Go.Proofs.Ytefihmfilahppaa.StampW
set_option linter.unusedVariables false
section
variable {H : Type} {enc : TypeId × Value → H} {P : Program} {w : World} {base : Nat} {spare : Nat → Bool} {held : Bool}
/-- A slice of structs of one-cell fields, opened. -/
theorem open_slice_fields {t e : TypeId} {fs : Array Field} {fuel : Nat} {cs : List Value} {x : DataW H × List MemPlace} (ht : P.underlying t = some (.slice e)) (he : P.underlying e = some (.struct fs))
    (hone : oneCellFields P fs = true) (hC : P.cellsOf e = fs.size) (h : DataW.trod enc P w base spare held fuel t cs = some x) :
    (cs = [.slice none 0 0] ∧ x = (.nil, [])) ∨
    ∃ (a : Addr) (len cap m : Nat), cs = [.slice (some a) len cap] ∧ len ≤ cap ∧ cap ≤ maxLen ∧ m = (if spare a.block then cap else len) ∧
      ∀ i, i < m → ∃ (ys : List (DataW H × List MemPlace)) (n : Nat), ys.length = fs.size ∧
        ∀ (j : Nat) (f : Field), fs[j]? = some f → ∃ (v : Value) (y : DataW H × List MemPlace), w.cell? (a.add (i * fs.size + j)) = some v ∧ ys[j]? = some y ∧ DataW.trod enc P w base spare held n f.type [v] = some y := by
  rcases open_slice ht h with h0 | ⟨a, len, cap, m, n, D, Pl, hcs, hb, hl, hm, hmm, hx, hi⟩
  · exact .inl h0
  · refine .inr ⟨a, len, cap, m, hcs, hl, hm, hmm, fun i him => ?_⟩
    obtain ⟨cs', hc, ht'⟩ := hi i him
    rw [hC] at hc
    obtain ⟨ys, n', hn', hy, hlen, hyl, hf⟩ := DataW.trod_struct he ht'
    obtain ⟨_, hcl, hat⟩ := World.cells?_some hc
    refine ⟨ys, n', hyl, fun j f hj => ?_⟩
    obtain ⟨ho, hk⟩ := hone_of hone j f hj
    have hjl : j < fs.size := (Array.getElem?_eq_some_iff.1 hj).1
    have hcell := hat j hjl
    have hv : cs'[j]? = some (cs'[j]'(by omega)) := List.getElem?_eq_getElem (by omega)
    have h1 := hf j f hj
    rw [ho, hk] at h1
    have hone' : (cs'.drop j).take 1 = [cs'[j]'(by omega)] := by
      rw [List.drop_eq_getElem_cons (by omega)]
      rfl
    rw [hone'] at h1
    have hys : ys[j]? = some (ys[j]'(by omega)) := List.getElem?_eq_getElem (by omega)
    refine ⟨_, _, ?_, hys, h1.trans hys⟩
    rw [← Go.Deep.add_add, hcell, hv]
end

theorem cells2 : Try.prog.cellsOf 30 = 2 := by kernel_rfl
theorem laidOut : laidOutB Try.prog = true := by kernel_rfl
/-- A slice of stamps that came in reads as a list of pairs of numbers. -/
theorem open_stamps {H : Type} {enc : TypeId × Value → H} {W : World} {A : Option Addr} {n c : Nat} {d : DataW H} {p : List MemPlace}
    (h : DataW.Trod enc Try.prog W 0 (fun _ => true) true 40 (.slice A n c) d p) :
    ∃ l : List (Int × Int), Reads W 2 A n (cellsS l) ∧ n ≤ c ∧ c ≤ maxLen ∧ ∀ s ∈ l, (Lit.int .i64 s.1).wf = true ∧ (Lit.int .i64 s.2).wf = true := by
  obtain ⟨fuel, hf⟩ := h
  rcases open_slice_fields Try.underlying40 Try.underlying30 (by kernel_rfl) cells2 hf with ⟨hcs, _⟩ | ⟨a, len, cap, m, hcs, hl, hm, hmm, hi⟩
  · simp [Value.cells] at hcs
    obtain ⟨rfl, rfl, rfl⟩ := hcs
    exact ⟨[], Reads.none_, by omega, by simp [maxLen], by simp⟩
  · simp [Value.cells] at hcs
    obtain ⟨rfl, rfl, rfl⟩ := hcs
    simp only [if_true] at hmm
    subst hmm
    have each : ∀ i, i < m → ∃ s : Int × Int, W.cell? (a.add (i * 2)) = some (.int .i64 s.1) ∧ W.cell? (a.add (i * 2 + 1)) = some (.int .i64 s.2) ∧ (Lit.int .i64 s.1).wf = true ∧ (Lit.int .i64 s.2).wf = true := fun i him => by
      obtain ⟨ys, k, _, hj⟩ := hi i him
      obtain ⟨v0, y0, hc0, _, ht0⟩ := hj 0 _ rfl
      obtain ⟨v1, y1, hc1, _, ht1⟩ := hj 1 _ rfl
      obtain ⟨x0, e0, _, wf0⟩ := DataW.trod_int Try.underlying2 ht0
      obtain ⟨x1, e1, _, wf1⟩ := DataW.trod_int Try.underlying3 ht1
      simp at e0 e1
      subst e0 e1
      exact ⟨(x0, x1), by simpa using hc0, by simpa using hc1, wf0, wf1⟩
    have pick : ∃ f : Nat → Int × Int, ∀ i, i < m → W.cell? (a.add (i * 2)) = some (.int .i64 (f i).1) ∧ W.cell? (a.add (i * 2 + 1)) = some (.int .i64 (f i).2) ∧ (Lit.int .i64 (f i).1).wf = true ∧ (Lit.int .i64 (f i).2).wf = true :=
      ⟨fun i => if h : i < m then Classical.choose (each i h) else (0, 0), fun i hi => by simp only [dif_pos hi]; exact Classical.choose_spec (each i hi)⟩
    obtain ⟨f, hfs⟩ := pick
    refine ⟨(List.range n).map f, ⟨by rw [cellsS_len]; simp, fun _ => ⟨a, rfl, fun j u hu => ?_⟩⟩, hl, hm, fun s hs => ?_⟩
    · have hjl : j < n * 2 := by
        have := (List.getElem?_eq_some_iff.1 hu).1
        rw [cellsS_len] at this
        simpa using this
      have hk : j / 2 < n := by omega
      obtain ⟨g0, g1, _, _⟩ := hfs (j / 2) (by omega)
      obtain ⟨x0, x1⟩ := cellsS_at ((List.range n).map f) (j / 2) (by simpa using hk)
      simp only [List.getElem_map, List.getElem_range] at x0 x1
      rcases (by omega : j % 2 = 0 ∨ j % 2 = 1) with h2 | h2
      · have e : j = j / 2 * 2 := by omega
        rw [e] at hu ⊢
        rw [x0] at hu
        rw [g0, hu]
      · have e : j = j / 2 * 2 + 1 := by omega
        rw [e] at hu ⊢
        rw [x1] at hu
        rw [g1, hu]
    · obtain ⟨i, hi', rfl⟩ := List.mem_map.1 hs
      obtain ⟨_, _, a1, a2⟩ := hfs i (by have := List.mem_range.1 hi'; omega)
      exact ⟨a1, a2⟩
end Go.Proofs.Ytefihmfilahppaa.Open
