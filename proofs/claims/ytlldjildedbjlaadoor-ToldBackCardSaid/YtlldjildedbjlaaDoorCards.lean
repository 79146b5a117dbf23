/-
  DERIVED. GIVEN WITH THE SEED: THE CARDS: each row of YtlldjildedbjlaaDoorRows.lean that lists a variable, with what it lists TIED to the program's text (the seventh form; the later family's looks); each row that meets fmt, with fmt's text TOLD by the authors' own Lean function (tested against real Go, not proved from fmt's source: count such statements apart). THE CARD IS WHAT COUNTS. Prove the row's statement (the work); the ties are given (YtlldjildedbjlaaDoorTie.lean); close each card by the builder's one call (the guide's Derived/Test/ToyasCard.lean, 'card_holds'). Laid BY PROGRAM, IN A SANDBOX (cutbox-door.mjs). By AI agents, Wed Nov 11 2026. No macro, syntax, notation, axiom, sorry.
-/
import Derived.Test.YtlldjildedbjlaaDoorRows
import GoSem.ClaimSeven
namespace Go.Proofs.YtlldjildedbjlaaDoor
namespace Rows

/-- THE TIED CARD OF 'cofferslaw22.ToldParses'. -/
def toldParsesCard : Claim7 := { stood := { row := toldParsesRow, standIns := [], harness := (true, "d333416dc98c41b818bc84bca9adfb7a224ba3164cd724d7b878185e5af34d38"), looks := true }, kinds := [], alts := [], laidByText := true, laidKinds := [.data, .data, .data, .data, .sentinel, .sentinel, .widerDeep, .widerDeep, .pinned], laidTests := true, laidLooks := .later }
def ToldParsesCardSaid : Prop := Claim7.holds Tryd.pinned (.plain (OpenSpec.ofChange toldParsesSpec)) toldParsesCard

/-- THE TIED CARD OF 'cofferslaw22.ToldBack'. -/
def toldBackCard : Claim7 := { stood := { row := toldBackRow, standIns := [], harness := (true, "d333416dc98c41b818bc84bca9adfb7a224ba3164cd724d7b878185e5af34d38"), looks := true }, kinds := [], alts := [], laidByText := true, laidKinds := [.data, .data, .data, .data, .sentinel, .sentinel, .widerDeep, .widerDeep, .pinned], laidTests := true, laidLooks := .later }
def ToldBackCardSaid : Prop := Claim7.holds Tryd.pinned (.plain (OpenSpec.ofChange toldBackSpec)) toldBackCard

/-- THE TIED CARD OF 'cofferslaw22.ToldTogether'. -/
def toldTogetherCard : Claim7 := { stood := { row := toldTogetherRow, standIns := [], harness := (true, "d333416dc98c41b818bc84bca9adfb7a224ba3164cd724d7b878185e5af34d38"), looks := true }, kinds := [], alts := [], laidByText := true, laidKinds := [.data, .data, .data, .data, .sentinel, .sentinel, .widerDeep, .widerDeep, .pinned], laidTests := true, laidLooks := .later }
def ToldTogetherCardSaid : Prop := Claim7.holds Tryd.pinned (.plain (OpenSpec.ofChange toldTogetherSpec)) toldTogetherCard

/-- THE SECOND FORM's CARD OF 'cofferslaw22.ToldParses'. -/
def toldParsesUptoCard : Claim7 := { stood := { row := toldParsesUptoRow, standIns := [], harness := (true, "d333416dc98c41b818bc84bca9adfb7a224ba3164cd724d7b878185e5af34d38"), looks := true }, kinds := [], alts := [], laidByText := true, laidKinds := [.data, .data, .data, .data, .sentinel, .sentinel, .widerDeep, .widerDeep, .pinned], laidTests := true, laidLooks := .later }
def ToldParsesUptoCardSaid : Prop := Claim7.holds Tryd.pinned (.plain (OpenSpec.upto toldParsesSpec)) toldParsesUptoCard

/-- THE SECOND FORM's CARD OF 'cofferslaw22.ToldBack'. -/
def toldBackUptoCard : Claim7 := { stood := { row := toldBackUptoRow, standIns := [], harness := (true, "d333416dc98c41b818bc84bca9adfb7a224ba3164cd724d7b878185e5af34d38"), looks := true }, kinds := [], alts := [], laidByText := true, laidKinds := [.data, .data, .data, .data, .sentinel, .sentinel, .widerDeep, .widerDeep, .pinned], laidTests := true, laidLooks := .later }
def ToldBackUptoCardSaid : Prop := Claim7.holds Tryd.pinned (.plain (OpenSpec.upto toldBackSpec)) toldBackUptoCard

/-- THE SECOND FORM's CARD OF 'cofferslaw22.ToldTogether'. -/
def toldTogetherUptoCard : Claim7 := { stood := { row := toldTogetherUptoRow, standIns := [], harness := (true, "d333416dc98c41b818bc84bca9adfb7a224ba3164cd724d7b878185e5af34d38"), looks := true }, kinds := [], alts := [], laidByText := true, laidKinds := [.data, .data, .data, .data, .sentinel, .sentinel, .widerDeep, .widerDeep, .pinned], laidTests := true, laidLooks := .later }
def ToldTogetherUptoCardSaid : Prop := Claim7.holds Tryd.pinned (.plain (OpenSpec.upto toldTogetherSpec)) toldTogetherUptoCard
end Rows
end Go.Proofs.YtlldjildedbjlaaDoor
