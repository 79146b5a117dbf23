/- Arguments opened to cells: slices of bytes; the table. No condition. -/
import Derived.Test.YtefihmfilahppaaDoorCrcLaw
import Derived.Test.YtefihmfilahppaaDoorRows
import Derived.ProofKit
import Derived.OpenShut
import Derived.ChangeOld
import Derived.Carry
import Derived.Lib.LaidTab
namespace Go.Proofs.YtefihmfilahppaaDoor.Open
open Go.ChangeShapes Go.WideShapes Go.RowKit Go.Proofs.YtefihmfilahppaaDoor.Com Go.Proofs.YtefihmfilahppaaDoor.Crc Go.Proofs.YtefihmfilahppaaDoor.CrcW
set_option linter.unusedVariables false
/-- A slice of bytes that came in reads as a list of numbers. -/
theorem open_octets {H : Type} {enc : TypeId × Value → H} {W : World} {A : Option Addr} {n c : Nat} {d : DataW H} {p : List MemPlace}
    (h : DataW.Trod enc Tryd.prog W 0 (fun _ => true) true 22 (.slice A n c) d p) :
    ∃ xs : List Int, Reads W 1 A n (xs.map fun x => .int .u8 x) ∧ n ≤ 9223372036854775807 ∧ (∀ x ∈ xs, 0 ≤ x ∧ x ≤ 255) ∧ n ≤ c ∧ (A = none → c = 0) := by
  obtain ⟨fuel, hf⟩ := h
  rcases open_ints Tryd.underlying22 Tryd.underlying5 (by kernel_rfl) hf with ⟨hcs, _⟩ | ⟨x, l, c', zs, hcs, _, hl, hm, hz, _, hcell, hwz⟩
  · simp [Value.cells] at hcs
    obtain ⟨rfl, rfl, rfl⟩ := hcs
    exact ⟨[], Reads.none_, by omega, by simp, by omega, fun _ => rfl⟩
  · simp [Value.cells] at hcs
    obtain ⟨rfl, rfl, rfl⟩ := hcs
    have hz' : zs.length = c := by simpa using hz
    refine ⟨zs.take n, ⟨by simp; omega, fun _ => ⟨x, rfl, fun j u hu => ?_⟩⟩, by simp only [maxLen] at hm; omega, fun z hzm => ?_, hl, fun h => by cases h⟩
    · rw [List.getElem?_map] at hu
      obtain ⟨y, hy, rfl⟩ := Option.map_eq_some_iff.1 hu
      have hj : j < n := by
        have := (List.getElem?_eq_some_iff.1 hy).1
        simp at this
        omega
      rw [List.getElem?_take_of_lt hj] at hy
      rw [hcell j (by omega), List.getD_eq_getElem?_getD, hy]
      rfl
    · have := bounds_u8 (hwz z (List.mem_of_mem_take hzm))
      omega
theorem gTab : Tryd.prog.globalNamed "coffers/crc.half" = some 0 := by kernel_rfl
theorem gTabType : (Tryd.prog.globals[(0 : Nat)]?).map (·.type) = some 32 := by kernel_rfl
theorem cellsTab : Tryd.prog.cellsOf 32 = 16 := by kernel_rfl
theorem cellsElem : Tryd.prog.cellsOf 24 = 1 := by kernel_rfl
theorem table {W : World} (h : laidMetH Tryd.prog [("coffers/crc.half", Rows.laid_coffers_crc_half)] W) : Table W := by
  have ht : Lib.TabIs Tryd.prog W "coffers/crc.half" .u32 (tab.map num) := Lib.tabIs_of_head (rest := []) gTab gTabType Tryd.underlying32 Tryd.underlying24 cellsElem cellsTab h
  intro j hj
  have this : j < tab.length := hj
  rw [ht.cell gTab j (by rw [List.length_map]; exact this), List.getD_eq_getElem?_getD, List.getD_eq_getElem?_getD, List.getElem?_map]
  rw [List.getElem?_eq_getElem this]
  rfl
end Go.Proofs.YtefihmfilahppaaDoor.Open
