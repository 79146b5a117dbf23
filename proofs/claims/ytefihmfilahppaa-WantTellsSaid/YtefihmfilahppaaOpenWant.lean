/- Arguments opened: lists of whole numbers. No condition. -/
import Derived.Test.YtefihmfilahppaaFlat
import Derived.Test.YtefihmfilahppaaWant2
namespace Go.Proofs.Ytefihmfilahppaa.Flat
open Go.ChangeShapes Go.WideShapes Go.Deep Go.RowKit Go.Joins Go.Proofs.Ytefihmfilahppaa.Com
set_option linter.unusedVariables false
theorem open_nums64 {H : Type} {enc : TypeId × Value → H} {W : World} {A : Option Addr} {n c : Nat} {d : DataW H} {p : List MemPlace}
    (h : DataW.Trod enc Try.prog W 0 (fun _ => true) true 60 (.slice A n c) d p) : ∃ l : List Int, Reads W 1 A n (nums l) ∧ n ≤ c := by
  obtain ⟨zss, h1, h2, h3, h4, h5⟩ := open_nums_slice (m := 1) (by omega) Try.underlying60 (by kernel_rfl) (flat_int Try.underlying2) h
  exact ⟨_, h3, h4⟩
end Go.Proofs.Ytefihmfilahppaa.Flat
