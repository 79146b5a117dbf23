/- What the document's examples come to; no program. No condition. -/
import Derived.Test.YtlldjildedbjlaaDoorToldZ
namespace Go.Proofs.YtlldjildedbjlaaDoor.ToldW
open Go.Proofs.YtlldjildedbjlaaDoor.ToldP
set_option linter.unusedVariables false
def ex1 : List UInt8 := [100, 101, 99, 32, 97, 109, 111, 117, 110, 116, 61, 53, 10, 99, 114, 97, 115, 104, 32, 119, 104, 111, 61, 49, 10]
def ex2 : List UInt8 := [100, 101, 99, 10, 100, 101, 99, 32, 97, 109, 111, 117, 110, 116, 61, 48, 53, 10]
def ex3 : List UInt8 := [100, 101, 99, 32, 97, 109, 111, 117, 110, 116, 61, 53, 10]
def dec5 : DoA := ⟨2, 0, 5, 0, 0, 0, 0⟩
def crash1 : DoA := ⟨8, 1, 0, 0, 0, 0, 0⟩
theorem i5 : Lib.itoa 5 = [53] := by decide +kernel
theorem i1 : Lib.itoa 1 = [49] := by decide +kernel
theorem t1 : textA dec5 = [100, 101, 99, 32, 97, 109, 111, 117, 110, 116, 61, 53] := by decide +kernel
theorem ex1_eq : textsA [dec5, crash1] = ex1 := by decide +kernel
theorem ex3_eq : textsA [dec5] = ex3 := by decide +kernel
theorem v5 : Valid dec5 := by constructor <;> first | decide | (unfold In64 dec5; decide)
theorem v1 : Valid crash1 := by constructor <;> first | decide | (unfold In64 crash1; decide)
theorem p1 : parseP ex1 = ([dec5, crash1], 0, 0) := by
  rw [← ex1_eq]
  refine print_parse (by decide) fun a ha => ?_
  simp only [List.mem_cons, List.not_mem_nil, or_false] at ha
  rcases ha with rfl | rfl
  · exact v5
  · exact v1
theorem p2 : parseP ex2 = ([], 2, 8) := by decide +kernel
theorem p3 : printP [dec5] = (ex3, 0) := by decide +kernel
end Go.Proofs.YtlldjildedbjlaaDoor.ToldW
