/-
  No cell of these rows narrows 'for every input' (looked for: loops, veiled, ifaces, maps, wideKeys, modest, calm, conditions, laid).
  DERIVED. THE GIVEN ROWS OF THIS SEAT. 13 by the template 'for every input the law returns true; each argument reads behind the call as it read before'; 0 by the template 'total and deterministic' (their statements: YtefihmfilahppaaTotals.lean).
  GIVEN WITH THE SEED: the statements are not yours to turn. If you find one false, say at which input.
  Laid BY PROGRAM, IN A SANDBOX (cutbox-rows.mjs): the forced cells as the released guide's own fill.sh prints them over the translation 3944d0e56d3b80af… (all of the seat's roots in one cut). By AI agents, Wed Nov 11 2026. No macro, syntax, notation, axiom, sorry.
-/
import Derived.Test.YtefihmfilahppaaChecked
import GoSem.Claim
import GoSem.ClaimJoined
import GoSem.ClaimMapViews
import Derived.JoinedTies
import Derived.KernelRfl
namespace Go.Proofs.Ytefihmfilahppaa
/- THE CELL 'sum', in the pinned program and in every row, IS THE sha256 OF THE DUMP (.gsa) THAT YtefihmfilahppaaProg.lean LOADS. Nothing in Lean hashes anything: it is a label: what it is worth is what the hold of that sum in a sandbox is worth. -/
noncomputable def Try.pinned : Pinned := { name := "ytefihmfilahppaa", sum := "3944d0e56d3b80af927a77cfccb2dd80200207569be1c691e97e4281667dffd0", checked := Try.checked }
namespace Rows
def none {H : Type} : Left H := { results := [], args := [] }

/-- 'cofferslaw10.WaitTells': WHATEVER THE INPUT: true; the input reads as it did. -/
def waitTellsSpec : ChangeSpec := { name := "waitTells", fn := fun _ => fun
  | [d1, d2, d3] => { results := [.lit (.bool true)], args := [d1, d2, d3] }
  | _ => none }
def waitTellsRow : OpenClaim := { program := "ytefihmfilahppaa", sum := "3944d0e56d3b80af927a77cfccb2dd80200207569be1c691e97e4281667dffd0", func := "coffers/cofferslaw10.WaitTells", spec := "waitTells", apart := false }
def WaitTellsSaid : Prop := waitTellsRow.holds Try.pinned (OpenSpec.ofChange waitTellsSpec)

/-- ITS FALSE NEIGHBOUR: 'it returns false'. Refute it at one input. -/
def waitTellsWrong : ChangeSpec := { name := "waitTells", fn := fun _ => fun
  | [d1, d2, d3] => { results := [.lit (.bool false)], args := [d1, d2, d3] }
  | _ => none }
def WaitTellsWrongFalsely : Prop := waitTellsRow.holds Try.pinned (OpenSpec.ofChange waitTellsWrong)

/-- 'cofferslaw10.WaitGrows': WHATEVER THE INPUT: true; the input reads as it did. -/
def waitGrowsSpec : ChangeSpec := { name := "waitGrows", fn := fun _ => fun
  | [d1, d2, d3, d4] => { results := [.lit (.bool true)], args := [d1, d2, d3, d4] }
  | _ => none }
def waitGrowsRow : OpenClaim := { program := "ytefihmfilahppaa", sum := "3944d0e56d3b80af927a77cfccb2dd80200207569be1c691e97e4281667dffd0", func := "coffers/cofferslaw10.WaitGrows", spec := "waitGrows", apart := false }
def WaitGrowsSaid : Prop := waitGrowsRow.holds Try.pinned (OpenSpec.ofChange waitGrowsSpec)

/-- ITS FALSE NEIGHBOUR: 'it returns false'. Refute it at one input. -/
def waitGrowsWrong : ChangeSpec := { name := "waitGrows", fn := fun _ => fun
  | [d1, d2, d3, d4] => { results := [.lit (.bool false)], args := [d1, d2, d3, d4] }
  | _ => none }
def WaitGrowsWrongFalsely : Prop := waitGrowsRow.holds Try.pinned (OpenSpec.ofChange waitGrowsWrong)

/-- 'cofferslaw10.WaitAll': WHATEVER THE INPUT: true; the input reads as it did. -/
def waitAllSpec : ChangeSpec := { name := "waitAll", fn := fun _ => fun
  | [d1, d2, d3] => { results := [.lit (.bool true)], args := [d1, d2, d3] }
  | _ => none }
def waitAllRow : OpenClaim := { program := "ytefihmfilahppaa", sum := "3944d0e56d3b80af927a77cfccb2dd80200207569be1c691e97e4281667dffd0", func := "coffers/cofferslaw10.WaitAll", spec := "waitAll", apart := false }
def WaitAllSaid : Prop := waitAllRow.holds Try.pinned (OpenSpec.ofChange waitAllSpec)

/-- ITS FALSE NEIGHBOUR: 'it returns false'. Refute it at one input. -/
def waitAllWrong : ChangeSpec := { name := "waitAll", fn := fun _ => fun
  | [d1, d2, d3] => { results := [.lit (.bool false)], args := [d1, d2, d3] }
  | _ => none }
def WaitAllWrongFalsely : Prop := waitAllRow.holds Try.pinned (OpenSpec.ofChange waitAllWrong)

/-- 'cofferslaw03.StampOrder': WHATEVER THE INPUT: true; the input reads as it did. -/
def stampOrderSpec : ChangeSpec := { name := "stampOrder", fn := fun _ => fun
  | [d1, d2, d3, d4] => { results := [.lit (.bool true)], args := [d1, d2, d3, d4] }
  | _ => none }
def stampOrderRow : OpenClaim := { program := "ytefihmfilahppaa", sum := "3944d0e56d3b80af927a77cfccb2dd80200207569be1c691e97e4281667dffd0", func := "coffers/cofferslaw03.StampOrder", spec := "stampOrder", apart := false }
def StampOrderSaid : Prop := stampOrderRow.holds Try.pinned (OpenSpec.ofChange stampOrderSpec)

/-- ITS FALSE NEIGHBOUR: 'it returns false'. Refute it at one input. -/
def stampOrderWrong : ChangeSpec := { name := "stampOrder", fn := fun _ => fun
  | [d1, d2, d3, d4] => { results := [.lit (.bool false)], args := [d1, d2, d3, d4] }
  | _ => none }
def StampOrderWrongFalsely : Prop := stampOrderRow.holds Try.pinned (OpenSpec.ofChange stampOrderWrong)

/-- 'cofferslaw03.StampTicks': WHATEVER THE INPUT: true; the input reads as it did. -/
def stampTicksSpec : ChangeSpec := { name := "stampTicks", fn := fun _ => fun
  | [d1, d2] => { results := [.lit (.bool true)], args := [d1, d2] }
  | _ => none }
def stampTicksRow : OpenClaim := { program := "ytefihmfilahppaa", sum := "3944d0e56d3b80af927a77cfccb2dd80200207569be1c691e97e4281667dffd0", func := "coffers/cofferslaw03.StampTicks", spec := "stampTicks", apart := false }
def StampTicksSaid : Prop := stampTicksRow.holds Try.pinned (OpenSpec.ofChange stampTicksSpec)

/-- ITS FALSE NEIGHBOUR: 'it returns false'. Refute it at one input. -/
def stampTicksWrong : ChangeSpec := { name := "stampTicks", fn := fun _ => fun
  | [d1, d2] => { results := [.lit (.bool false)], args := [d1, d2] }
  | _ => none }
def StampTicksWrongFalsely : Prop := stampTicksRow.holds Try.pinned (OpenSpec.ofChange stampTicksWrong)

/-- 'cofferslaw03.StampOldest': WHATEVER THE INPUT: true; the input reads as it did. -/
def stampOldestSpec : ChangeSpec := { name := "stampOldest", fn := fun _ => fun
  | [d] => { results := [.lit (.bool true)], args := [d] }
  | _ => none }
def stampOldestRow : OpenClaim := { program := "ytefihmfilahppaa", sum := "3944d0e56d3b80af927a77cfccb2dd80200207569be1c691e97e4281667dffd0", func := "coffers/cofferslaw03.StampOldest", spec := "stampOldest", unfollowed := true, recurses := true, apart := false }
def StampOldestSaid : Prop := stampOldestRow.holds Try.pinned (OpenSpec.ofChange stampOldestSpec)

/-- ITS FALSE NEIGHBOUR: 'it returns false'. Refute it at one input. -/
def stampOldestWrong : ChangeSpec := { name := "stampOldest", fn := fun _ => fun
  | [d] => { results := [.lit (.bool false)], args := [d] }
  | _ => none }
def StampOldestWrongFalsely : Prop := stampOldestRow.holds Try.pinned (OpenSpec.ofChange stampOldestWrong)

/-- 'cofferslaw03.StampLeast': WHATEVER THE INPUT: true; the input reads as it did. -/
def stampLeastSpec : ChangeSpec := { name := "stampLeast", fn := fun _ => fun
  | [d1, d2] => { results := [.lit (.bool true)], args := [d1, d2] }
  | _ => none }
def stampLeastRow : OpenClaim := { program := "ytefihmfilahppaa", sum := "3944d0e56d3b80af927a77cfccb2dd80200207569be1c691e97e4281667dffd0", func := "coffers/cofferslaw03.StampLeast", spec := "stampLeast", unfollowed := true, recurses := true, apart := false }
def StampLeastSaid : Prop := stampLeastRow.holds Try.pinned (OpenSpec.ofChange stampLeastSpec)

/-- ITS FALSE NEIGHBOUR: 'it returns false'. Refute it at one input. -/
def stampLeastWrong : ChangeSpec := { name := "stampLeast", fn := fun _ => fun
  | [d1, d2] => { results := [.lit (.bool false)], args := [d1, d2] }
  | _ => none }
def StampLeastWrongFalsely : Prop := stampLeastRow.holds Try.pinned (OpenSpec.ofChange stampLeastWrong)

/-- 'cofferslaw11.LineJoins': WHATEVER THE INPUT: true; the input reads as it did. -/
def lineJoinsSpec : ChangeSpec := { name := "lineJoins", fn := fun _ => fun
  | [d1, d2, d3, d4] => { results := [.lit (.bool true)], args := [d1, d2, d3, d4] }
  | _ => none }
def lineJoinsRow : OpenClaim := { program := "ytefihmfilahppaa", sum := "3944d0e56d3b80af927a77cfccb2dd80200207569be1c691e97e4281667dffd0", func := "coffers/cofferslaw11.LineJoins", spec := "lineJoins", unfollowed := true, recurses := true, apart := false }
def LineJoinsSaid : Prop := lineJoinsRow.holds Try.pinned (OpenSpec.ofChange lineJoinsSpec)

/-- ITS FALSE NEIGHBOUR: 'it returns false'. Refute it at one input. -/
def lineJoinsWrong : ChangeSpec := { name := "lineJoins", fn := fun _ => fun
  | [d1, d2, d3, d4] => { results := [.lit (.bool false)], args := [d1, d2, d3, d4] }
  | _ => none }
def LineJoinsWrongFalsely : Prop := lineJoinsRow.holds Try.pinned (OpenSpec.ofChange lineJoinsWrong)

/-- 'cofferslaw11.LineOrder': WHATEVER THE INPUT: true; the input reads as it did. -/
def lineOrderSpec : ChangeSpec := { name := "lineOrder", fn := fun _ => fun
  | [d1, d2] => { results := [.lit (.bool true)], args := [d1, d2] }
  | _ => none }
def lineOrderRow : OpenClaim := { program := "ytefihmfilahppaa", sum := "3944d0e56d3b80af927a77cfccb2dd80200207569be1c691e97e4281667dffd0", func := "coffers/cofferslaw11.LineOrder", spec := "lineOrder", unfollowed := true, recurses := true, apart := false }
def LineOrderSaid : Prop := lineOrderRow.holds Try.pinned (OpenSpec.ofChange lineOrderSpec)

/-- ITS FALSE NEIGHBOUR: 'it returns false'. Refute it at one input. -/
def lineOrderWrong : ChangeSpec := { name := "lineOrder", fn := fun _ => fun
  | [d1, d2] => { results := [.lit (.bool false)], args := [d1, d2] }
  | _ => none }
def LineOrderWrongFalsely : Prop := lineOrderRow.holds Try.pinned (OpenSpec.ofChange lineOrderWrong)

/-- 'cofferslaw11.LineStays': WHATEVER THE INPUT: true; the input reads as it did. -/
def lineStaysSpec : ChangeSpec := { name := "lineStays", fn := fun _ => fun
  | [d1, d2, d3, d4] => { results := [.lit (.bool true)], args := [d1, d2, d3, d4] }
  | _ => none }
def lineStaysRow : OpenClaim := { program := "ytefihmfilahppaa", sum := "3944d0e56d3b80af927a77cfccb2dd80200207569be1c691e97e4281667dffd0", func := "coffers/cofferslaw11.LineStays", spec := "lineStays", unfollowed := true, recurses := true, apart := false }
def LineStaysSaid : Prop := lineStaysRow.holds Try.pinned (OpenSpec.ofChange lineStaysSpec)

/-- ITS FALSE NEIGHBOUR: 'it returns false'. Refute it at one input. -/
def lineStaysWrong : ChangeSpec := { name := "lineStays", fn := fun _ => fun
  | [d1, d2, d3, d4] => { results := [.lit (.bool false)], args := [d1, d2, d3, d4] }
  | _ => none }
def LineStaysWrongFalsely : Prop := lineStaysRow.holds Try.pinned (OpenSpec.ofChange lineStaysWrong)

/-- 'cofferslaw12.WantTells': WHATEVER THE INPUT: true; the input reads as it did. -/
def wantTellsSpec : ChangeSpec := { name := "wantTells", fn := fun _ => fun
  | [d1, d2] => { results := [.lit (.bool true)], args := [d1, d2] }
  | _ => none }
def wantTellsRow : OpenClaim := { program := "ytefihmfilahppaa", sum := "3944d0e56d3b80af927a77cfccb2dd80200207569be1c691e97e4281667dffd0", func := "coffers/cofferslaw12.WantTells", spec := "wantTells", inPlace := ["math.archFloor", "math.Float64bits", "math.Float64frombits", "math.archTrunc"], apart := false }
def WantTellsSaid : Prop := wantTellsRow.holds Try.pinned (OpenSpec.ofChange wantTellsSpec)

/-- ITS FALSE NEIGHBOUR: 'it returns false'. Refute it at one input. -/
def wantTellsWrong : ChangeSpec := { name := "wantTells", fn := fun _ => fun
  | [d1, d2] => { results := [.lit (.bool false)], args := [d1, d2] }
  | _ => none }
def WantTellsWrongFalsely : Prop := wantTellsRow.holds Try.pinned (OpenSpec.ofChange wantTellsWrong)

/-- 'cofferslaw12.WantGoes': WHATEVER THE INPUT: true; the input reads as it did. -/
def wantGoesSpec : ChangeSpec := { name := "wantGoes", fn := fun _ => fun
  | [d] => { results := [.lit (.bool true)], args := [d] }
  | _ => none }
def wantGoesRow : OpenClaim := { program := "ytefihmfilahppaa", sum := "3944d0e56d3b80af927a77cfccb2dd80200207569be1c691e97e4281667dffd0", func := "coffers/cofferslaw12.WantGoes", spec := "wantGoes", inPlace := ["math.archFloor", "math.Float64bits", "math.Float64frombits", "math.archTrunc"], apart := false }
def WantGoesSaid : Prop := wantGoesRow.holds Try.pinned (OpenSpec.ofChange wantGoesSpec)

/-- ITS FALSE NEIGHBOUR: 'it returns false'. Refute it at one input. -/
def wantGoesWrong : ChangeSpec := { name := "wantGoes", fn := fun _ => fun
  | [d] => { results := [.lit (.bool false)], args := [d] }
  | _ => none }
def WantGoesWrongFalsely : Prop := wantGoesRow.holds Try.pinned (OpenSpec.ofChange wantGoesWrong)

/-- 'cofferslaw12.WantMore': WHATEVER THE INPUT: true; the input reads as it did. -/
def wantMoreSpec : ChangeSpec := { name := "wantMore", fn := fun _ => fun
  | [d1, d2] => { results := [.lit (.bool true)], args := [d1, d2] }
  | _ => none }
def wantMoreRow : OpenClaim := { program := "ytefihmfilahppaa", sum := "3944d0e56d3b80af927a77cfccb2dd80200207569be1c691e97e4281667dffd0", func := "coffers/cofferslaw12.WantMore", spec := "wantMore", inPlace := ["math.archFloor", "math.Float64bits", "math.Float64frombits", "math.archTrunc"], apart := false }
def WantMoreSaid : Prop := wantMoreRow.holds Try.pinned (OpenSpec.ofChange wantMoreSpec)

/-- ITS FALSE NEIGHBOUR: 'it returns false'. Refute it at one input. -/
def wantMoreWrong : ChangeSpec := { name := "wantMore", fn := fun _ => fun
  | [d1, d2] => { results := [.lit (.bool false)], args := [d1, d2] }
  | _ => none }
def WantMoreWrongFalsely : Prop := wantMoreRow.holds Try.pinned (OpenSpec.ofChange wantMoreWrong)

/- THE SECOND FORM. 'bulk': how many values and letters a reading holds, each counted each time it is reached (what is shared counts as often as it is met; a slice's spare places count too). A statement '..UptoSaid' is the law's where the arguments, and the package variables that the reading takes, are together of bulk at most 1048576: NARROWER than '..Said'. Prove '..Said' where nothing that the law and all that it calls make is longer than what came in: it says more and counts as full. Else prove '..UptoSaid'. A law counts once. -/
mutual
def uptoBulk {H : Type} : DataW H → Nat
  | .lit (.string bytes) => bytes.length + 1
  | .lit _ => 1
  | .nil => 1
  | .ptr d => uptoBulk d + 1
  | .slice elems spare => uptoBulkAll elems + uptoBulkAll spare + 1
  | .agg parts => uptoBulkAll parts + 1
  | .iface _ d => uptoBulk d + 1
  | .map entries => uptoBulkEntries entries + 1
  | .held _ => 1
def uptoBulkAll {H : Type} : List (DataW H) → Nat
  | [] => 0
  | d :: r => uptoBulk d + uptoBulkAll r
def uptoBulkEntries {H : Type} : List (Lit × DataW H) → Nat
  | [] => 0
  | x :: r => uptoBulkEntry x + uptoBulkEntries r
def uptoBulkEntry {H : Type} : Lit × DataW H → Nat
  | (.string bytes, d) => bytes.length + uptoBulk d + 1
  | (_, d) => uptoBulk d + 1
 end
def uptoSmall : (H : Type) → List (DataW H) → Bool := fun _ ds => decide (uptoBulkAll ds ≤ 1048576)
def OpenSpec.upto (s : _root_.Go.ChangeSpec) : _root_.Go.OpenSpec := { _root_.Go.OpenSpec.ofChange s with cond := some uptoSmall }

/-- 'cofferslaw10.WaitTells', WHERE WHAT IT READS IS OF BULK AT MOST 1048576: true; the input reads as it did. -/
def waitTellsUptoRow : OpenClaim := { program := "ytefihmfilahppaa", sum := "3944d0e56d3b80af927a77cfccb2dd80200207569be1c691e97e4281667dffd0", func := "coffers/cofferslaw10.WaitTells", spec := "waitTells", apart := false, narrowed := true }
def WaitTellsUptoSaid : Prop := waitTellsUptoRow.holds Try.pinned (OpenSpec.upto waitTellsSpec)

/-- 'cofferslaw10.WaitGrows', WHERE WHAT IT READS IS OF BULK AT MOST 1048576: true; the input reads as it did. -/
def waitGrowsUptoRow : OpenClaim := { program := "ytefihmfilahppaa", sum := "3944d0e56d3b80af927a77cfccb2dd80200207569be1c691e97e4281667dffd0", func := "coffers/cofferslaw10.WaitGrows", spec := "waitGrows", apart := false, narrowed := true }
def WaitGrowsUptoSaid : Prop := waitGrowsUptoRow.holds Try.pinned (OpenSpec.upto waitGrowsSpec)

/-- 'cofferslaw10.WaitAll', WHERE WHAT IT READS IS OF BULK AT MOST 1048576: true; the input reads as it did. -/
def waitAllUptoRow : OpenClaim := { program := "ytefihmfilahppaa", sum := "3944d0e56d3b80af927a77cfccb2dd80200207569be1c691e97e4281667dffd0", func := "coffers/cofferslaw10.WaitAll", spec := "waitAll", apart := false, narrowed := true }
def WaitAllUptoSaid : Prop := waitAllUptoRow.holds Try.pinned (OpenSpec.upto waitAllSpec)

/-- 'cofferslaw03.StampOrder', WHERE WHAT IT READS IS OF BULK AT MOST 1048576: true; the input reads as it did. -/
def stampOrderUptoRow : OpenClaim := { program := "ytefihmfilahppaa", sum := "3944d0e56d3b80af927a77cfccb2dd80200207569be1c691e97e4281667dffd0", func := "coffers/cofferslaw03.StampOrder", spec := "stampOrder", apart := false, narrowed := true }
def StampOrderUptoSaid : Prop := stampOrderUptoRow.holds Try.pinned (OpenSpec.upto stampOrderSpec)

/-- 'cofferslaw03.StampTicks', WHERE WHAT IT READS IS OF BULK AT MOST 1048576: true; the input reads as it did. -/
def stampTicksUptoRow : OpenClaim := { program := "ytefihmfilahppaa", sum := "3944d0e56d3b80af927a77cfccb2dd80200207569be1c691e97e4281667dffd0", func := "coffers/cofferslaw03.StampTicks", spec := "stampTicks", apart := false, narrowed := true }
def StampTicksUptoSaid : Prop := stampTicksUptoRow.holds Try.pinned (OpenSpec.upto stampTicksSpec)

/-- 'cofferslaw03.StampOldest', WHERE WHAT IT READS IS OF BULK AT MOST 1048576: true; the input reads as it did. -/
def stampOldestUptoRow : OpenClaim := { program := "ytefihmfilahppaa", sum := "3944d0e56d3b80af927a77cfccb2dd80200207569be1c691e97e4281667dffd0", func := "coffers/cofferslaw03.StampOldest", spec := "stampOldest", unfollowed := true, recurses := true, apart := false, narrowed := true }
def StampOldestUptoSaid : Prop := stampOldestUptoRow.holds Try.pinned (OpenSpec.upto stampOldestSpec)

/-- 'cofferslaw03.StampLeast', WHERE WHAT IT READS IS OF BULK AT MOST 1048576: true; the input reads as it did. -/
def stampLeastUptoRow : OpenClaim := { program := "ytefihmfilahppaa", sum := "3944d0e56d3b80af927a77cfccb2dd80200207569be1c691e97e4281667dffd0", func := "coffers/cofferslaw03.StampLeast", spec := "stampLeast", unfollowed := true, recurses := true, apart := false, narrowed := true }
def StampLeastUptoSaid : Prop := stampLeastUptoRow.holds Try.pinned (OpenSpec.upto stampLeastSpec)

/-- 'cofferslaw11.LineJoins', WHERE WHAT IT READS IS OF BULK AT MOST 1048576: true; the input reads as it did. -/
def lineJoinsUptoRow : OpenClaim := { program := "ytefihmfilahppaa", sum := "3944d0e56d3b80af927a77cfccb2dd80200207569be1c691e97e4281667dffd0", func := "coffers/cofferslaw11.LineJoins", spec := "lineJoins", unfollowed := true, recurses := true, apart := false, narrowed := true }
def LineJoinsUptoSaid : Prop := lineJoinsUptoRow.holds Try.pinned (OpenSpec.upto lineJoinsSpec)

/-- 'cofferslaw11.LineOrder', WHERE WHAT IT READS IS OF BULK AT MOST 1048576: true; the input reads as it did. -/
def lineOrderUptoRow : OpenClaim := { program := "ytefihmfilahppaa", sum := "3944d0e56d3b80af927a77cfccb2dd80200207569be1c691e97e4281667dffd0", func := "coffers/cofferslaw11.LineOrder", spec := "lineOrder", unfollowed := true, recurses := true, apart := false, narrowed := true }
def LineOrderUptoSaid : Prop := lineOrderUptoRow.holds Try.pinned (OpenSpec.upto lineOrderSpec)

/-- 'cofferslaw11.LineStays', WHERE WHAT IT READS IS OF BULK AT MOST 1048576: true; the input reads as it did. -/
def lineStaysUptoRow : OpenClaim := { program := "ytefihmfilahppaa", sum := "3944d0e56d3b80af927a77cfccb2dd80200207569be1c691e97e4281667dffd0", func := "coffers/cofferslaw11.LineStays", spec := "lineStays", unfollowed := true, recurses := true, apart := false, narrowed := true }
def LineStaysUptoSaid : Prop := lineStaysUptoRow.holds Try.pinned (OpenSpec.upto lineStaysSpec)

/-- 'cofferslaw12.WantTells', WHERE WHAT IT READS IS OF BULK AT MOST 1048576: true; the input reads as it did. -/
def wantTellsUptoRow : OpenClaim := { program := "ytefihmfilahppaa", sum := "3944d0e56d3b80af927a77cfccb2dd80200207569be1c691e97e4281667dffd0", func := "coffers/cofferslaw12.WantTells", spec := "wantTells", inPlace := ["math.archFloor", "math.Float64bits", "math.Float64frombits", "math.archTrunc"], apart := false, narrowed := true }
def WantTellsUptoSaid : Prop := wantTellsUptoRow.holds Try.pinned (OpenSpec.upto wantTellsSpec)

/-- 'cofferslaw12.WantGoes', WHERE WHAT IT READS IS OF BULK AT MOST 1048576: true; the input reads as it did. -/
def wantGoesUptoRow : OpenClaim := { program := "ytefihmfilahppaa", sum := "3944d0e56d3b80af927a77cfccb2dd80200207569be1c691e97e4281667dffd0", func := "coffers/cofferslaw12.WantGoes", spec := "wantGoes", inPlace := ["math.archFloor", "math.Float64bits", "math.Float64frombits", "math.archTrunc"], apart := false, narrowed := true }
def WantGoesUptoSaid : Prop := wantGoesUptoRow.holds Try.pinned (OpenSpec.upto wantGoesSpec)

/-- 'cofferslaw12.WantMore', WHERE WHAT IT READS IS OF BULK AT MOST 1048576: true; the input reads as it did. -/
def wantMoreUptoRow : OpenClaim := { program := "ytefihmfilahppaa", sum := "3944d0e56d3b80af927a77cfccb2dd80200207569be1c691e97e4281667dffd0", func := "coffers/cofferslaw12.WantMore", spec := "wantMore", inPlace := ["math.archFloor", "math.Float64bits", "math.Float64frombits", "math.archTrunc"], apart := false, narrowed := true }
def WantMoreUptoSaid : Prop := wantMoreUptoRow.holds Try.pinned (OpenSpec.upto wantMoreSpec)

end Rows
end Go.Proofs.Ytefihmfilahppaa
