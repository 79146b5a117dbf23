/- Arguments opened: configs, requests, lines. No condition. -/
import Derived.Test.YtefihmfilahppaaFlat
import Derived.Test.YtefihmfilahppaaLineAw
namespace Go.Proofs.Ytefihmfilahppaa.Flat
open Go.ChangeShapes Go.WideShapes Go.Deep Go.RowKit Go.Joins Go.Proofs.Ytefihmfilahppaa.Com Go.Proofs.Ytefihmfilahppaa.RightsW Go.Proofs.Ytefihmfilahppaa.LineW
set_option linter.unusedVariables false
theorem laidOutF : laidOutB Try.prog = true := by kernel_rfl
theorem flat_stamp : Flat Try.prog 30 [.i64, .i64] := by
  refine flat_struct _ Try.underlying30 [[.i64], [.i64]] (by kernel_rfl) fun i ks h => ?_
  match i, h with
  | 0, h => cases h; exact ⟨_, rfl, flat_int Try.underlying2, by kernel_rfl, rfl⟩
  | 1, h => cases h; exact ⟨_, rfl, flat_int Try.underlying3, by kernel_rfl, rfl⟩
theorem flat_req : Flat Try.prog 49 (List.replicate 3 .i64) := by
  refine flat_struct _ Try.underlying49 [[.i64, .i64], [.i64]] (by kernel_rfl) fun i ks h => ?_
  match i, h with
  | 0, h => cases h; exact ⟨_, rfl, flat_stamp, by kernel_rfl, rfl⟩
  | 1, h => cases h; exact ⟨_, rfl, flat_int Try.underlying2, by kernel_rfl, rfl⟩
theorem flat_cfg : Flat Try.prog 46 (List.replicate 6 .i64) := by
  refine flat_struct _ Try.underlying46 [[.i64], [.i64], [.i64], [.i64], [.i64], [.i64]] (by kernel_rfl) fun i ks h => ?_
  match i, h with
  | 0, h => cases h; exact ⟨_, rfl, flat_int Try.underlying3, by kernel_rfl, rfl⟩
  | 1, h => cases h; exact ⟨_, rfl, flat_int Try.underlying3, by kernel_rfl, rfl⟩
  | 2, h => cases h; exact ⟨_, rfl, flat_int Try.underlying3, by kernel_rfl, rfl⟩
  | 3, h => cases h; exact ⟨_, rfl, flat_int Try.underlying3, by kernel_rfl, rfl⟩
  | 4, h => cases h; exact ⟨_, rfl, flat_int Try.underlying2, by kernel_rfl, rfl⟩
  | 5, h => cases h; exact ⟨_, rfl, flat_int Try.underlying2, by kernel_rfl, rfl⟩
section
variable {H : Type} {enc : TypeId × Value → H} {w : World} {base b0 : Nat} {spare : Nat → Bool} {r : Reach} {held : Bool} {v : Value} {d : DataW H} {p : List MemPlace}
theorem wf_max {z : Int} (h : (Lit.int .i64 z).wf = true) : z ≤ 9223372036854775807 := by
  have : IntKind.min .i64 ≤ z ∧ z ≤ IntKind.max .i64 := by simpa [Lit.wf] using h
  exact this.2
theorem open_cfg (hv : Value.okWide Try.prog w r b0 46 v) (h : DataW.Trod enc Try.prog w base spare held 46 v d p) :
    ∃ c : Cfg, v = cfgV c ∧ c.C ≤ 9223372036854775807 ∧ c.K ≤ 9223372036854775807 := by
  obtain ⟨zs, h1, rfl, h3⟩ := open_nums Try.underlying46 flat_cfg hv h
  match zs, h1 with
  | [a, b, c, e, f, g], _ => exact ⟨⟨a, b, c, e, f, g⟩, rfl, wf_max (h3 g (by simp)), wf_max (h3 f (by simp))⟩
theorem open_req (hv : Value.okWide Try.prog w r b0 49 v) (h : DataW.Trod enc Try.prog w base spare held 49 v d p) : ∃ q : Req, v = reqV q := by
  obtain ⟨zs, h1, rfl, h3⟩ := open_nums Try.underlying49 flat_req hv h
  match zs, h1 with
  | [a, b, c], _ => exact ⟨⟨a, b, c⟩, rfl⟩
end
theorem cells_reqs : ∀ (zss : List (List Int)), (∀ zs ∈ zss, zs.length = 3) → ∃ l : List Req, nums zss.flatten = cellsR l
  | [], _ => ⟨[], rfl⟩
  | zs :: r, h => by
    obtain ⟨l, hl⟩ := cells_reqs r fun x hx => h x (List.mem_cons_of_mem _ hx)
    match zs, h zs List.mem_cons_self with
    | [a, b, c], _ => exact ⟨⟨a, b, c⟩ :: l, by
        unfold nums at hl ⊢
        rw [List.flatten_cons, List.map_append, hl]
        simp [cellsR, List.flatMap_cons, Req.cells]⟩
theorem open_line {H : Type} {enc : TypeId × Value → H} {W : World} {A : Option Addr} {n c : Nat} {d : DataW H} {p : List MemPlace}
    (h : DataW.Trod enc Try.prog W 0 (fun _ => true) true 47 (.slice A n c) d p) : ∃ l : List Req, Reads W 3 A n (cellsR l) ∧ n ≤ c := by
  obtain ⟨zss, h1, h2, h3, h4, h5⟩ := open_nums_slice (by omega) Try.underlying47 (by kernel_rfl) flat_req h
  obtain ⟨l, hl⟩ := cells_reqs zss fun zs hz => (h2 zs hz).1
  rw [hl] at h3
  exact ⟨l, h3, h4⟩
end Go.Proofs.Ytefihmfilahppaa.Flat
