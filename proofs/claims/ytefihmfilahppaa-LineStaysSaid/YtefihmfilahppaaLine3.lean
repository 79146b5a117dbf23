/- Layer 11's walks: one more, one less. No condition. -/
import Derived.Test.YtefihmfilahppaaLine2
import Derived.Lib.SliceRun
namespace Go.Proofs.Ytefihmfilahppaa.LineW
open Go.RowKit Go.Proofs.Ytefihmfilahppaa.Com Go.Proofs.Ytefihmfilahppaa.StampW Go.Proofs.Ytefihmfilahppaa.RightsW Go.Proofs.Ytefihmfilahppaa.Ord
set_option linter.unusedVariables false
theorem infoReq : (Try.prog.info? 49).map (fun i => (i.zero, i.size, i.bytes)) = some (some (.agg #[.int .i64 0, .int .i64 0, .int .i64 0]), 3, 24) := by kernel_rfl
theorem one_cellsR (l : List Req) : ∀ u ∈ cellsR l, u.oneCell' = true := by
  intro u hu
  obtain ⟨s, _, hs⟩ := List.mem_flatMap.1 hu
  simp only [Req.cells, List.mem_cons, List.not_mem_nil, or_false] at hs
  rcases hs with rfl | rfl | rfl <;> rfl
theorem reads_oneR {w : World} {g : Nat} {t : TypeId} {r : Req} (h : Blk w g t #[.int .i64 r.t, .int .i64 r.o, .int .i64 r.am]) : Reads w 3 (some ⟨g, 0, none⟩) 1 (cellsR [r]) := by
  refine ⟨rfl, fun _ => ⟨_, rfl, fun j x hx => ?_⟩⟩
  rw [add_plain, h.cell]
  simpa [cellsR, Req.cells] using hx
theorem cellsR_snoc (l : List Req) (r : Req) : cellsR l ++ cellsR [r] = cellsR (l ++ [r]) := by
  simp [cellsR, List.flatMap_append]
/-- Leave, the line being empty. -/
theorem Leave_none (A : Option Addr) (cap : Nat) (w : World) :
    Calls Try.prog 36 #[.slice A 0 cap] w fun e w' => e = .returned (.tuple #[.agg #[.int .i64 0, .int .i64 0, .int .i64 0], .slice none 0 0, .bool false]) ∧ Below w.heap.size w w' := by
  go_enter Try.func36, Try.ntmps36
  go_wp2_with fail
  refine bodyPost_ret (v := .tuple #[.agg #[.int .i64 0, .int .i64 0, .int .i64 0], .slice none 0 0, .bool false]) (by simp [results, Try.results36, go_sem]) rfl ⟨rfl, ?_⟩
  repeat (first | exact b_refl _ | apply b_drew | apply b_drewN | apply b_alloc)
theorem Leave_some (ad : Addr) (n cap : Nat) (l : List Req) (w : World) (hr : Reads w 3 (some ad) n (cellsR l)) (h0 : 0 < n) (hc : n ≤ cap) (hl : 0 < l.length) :
    Calls Try.prog 36 #[.slice (some ad) n cap] w fun e w' => e = .returned (.tuple #[reqV l[0], .slice (if n = 1 then some ad else some (ad.add 3)) (n - 1) (n - 1), .bool true]) ∧ Below w.heap.size w w' := by
  obtain ⟨r0, r1, r2⟩ := Reads.three hr h0 hl
  rw [show ad.add (0 * 3) = ad by simp [Addr.add]] at r0 r1 r2
  unfold reqV
  generalize l[0].t = t0 at *
  generalize l[0].o = t1 at *
  generalize l[0].am = t2 at *
  have hlt := World.block_lt_of_cell? w _ r0
  have b1 : (1 : Int) ≤ (n : Int) := by omega
  have b2 : (n : Int) ≤ (cap : Int) := by omega
  have b3 : (0 : Int) ≤ (n : Int) := by omega
  by_cases h1 : n = 1
  · subst h1
    have b4 : (1 : Int) ≤ (cap : Int) := by omega
    have b5 : ¬ (cap : Int) < 1 := by omega
    have b6 : 1 ≤ cap := by omega
    clear b1 b2 b3
    rw [if_pos rfl]
    go_enter Try.func36, Try.ntmps36
    go_wp2_with fail
    go_region_held3 (fun w' => w'.cell? ad = some (.int .i64 t0) ∧ w'.cell? ⟨ad.block, ad.off + 1, none⟩ = some (.int .i64 t1) ∧ w'.cell? ⟨ad.block, ad.off + 2, none⟩ = some (.int .i64 t2)) (go_keep) (fail)
    all_goals (
      go_wp2_with fail
      refine bodyPost_ret (v := .tuple #[.agg #[.int .i64 t0, .int .i64 t1, .int .i64 t2], .slice (some ad) 0 0, .bool true]) (by simp [results, Try.results36, go_sem]) rfl ⟨rfl, ?_⟩
      repeat (first | exact b_refl _ | apply b_drew | apply b_drewN | apply b_alloc))
  · rw [if_neg h1]
    have e1 : ((n : Int) - 1).toNat = n - 1 := by omega
    have e2 : n - 1 ≠ 0 := by omega
    go_enter Try.func36, Try.ntmps36
    go_wp2_with fail
    go_region_held3 (fun w' => w'.cell? ad = some (.int .i64 t0) ∧ w'.cell? ⟨ad.block, ad.off + 1, none⟩ = some (.int .i64 t1) ∧ w'.cell? ⟨ad.block, ad.off + 2, none⟩ = some (.int .i64 t2)) (go_keep) (fail)
    all_goals (
      go_wp2_with fail
      refine bodyPost_ret (v := .tuple #[.agg #[.int .i64 t0, .int .i64 t1, .int .i64 t2], .slice (some (ad.add 3)) (n - 1) (n - 1), .bool true]) (by simp [results, Try.results36, go_sem, Addr.add]) rfl ⟨rfl, ?_⟩
      repeat (first | exact b_refl _ | apply b_drew | apply b_drewN | apply b_alloc))
@[go_sem] theorem eqNone (n c : Nat) (w : World) : (binOp .eql 47 (.slice none n c) (.slice none 0 0)).run Try.prog w = .ok (.bool true) w := by
  rw [Lib.run_eql_slice_nil w _ _ _ _ _ _ _ Try.underlying47]; rfl
@[go_sem] theorem eqSome (ad : Addr) (n c : Nat) (w : World) : (binOp .eql 47 (.slice (some ad) n c) (.slice none 0 0)).run Try.prog w = .ok (.bool false) w := by
  rw [Lib.run_eql_slice_nil w _ _ _ _ _ _ _ Try.underlying47]; rfl
/-- A copy: a row of the call's own. -/
theorem Clone_none (cap : Nat) (w : World) :
    Calls Try.prog 46 #[.slice none 0 cap] w fun e w' => e = .returned (.slice none 0 0) ∧ Below w.heap.size w w' := by
  go_enter Try.func46, Try.ntmps46
  go_wp2_with fail
  go_ret
  exact ⟨rfl, by repeat (first | exact b_refl _ | apply b_drew | apply b_drewN | apply b_alloc)⟩
theorem Clone_some (ad : Addr) (n cap : Nat) (l : List Req) (w : World) (hr : Reads w 3 (some ad) n (cellsR l)) (hn : n ≤ 1000000) :
    Calls Try.prog 46 #[.slice (some ad) n cap] w fun e w' => ∃ v, e = .returned v ∧ w'.ownsRow w.heap.size 49 3 v n (cellsR l) ∧ Below w.heap.size w w' := by
  obtain ⟨i0, hi0, hz0, hz1, hz2⟩ := info_parts infoReq
  go_enter Try.func46, Try.ntmps46
  go_wp2_with (first
    | (refine wpList_append_any _ rfl (.tmp 5) (.tmp 6) _ rfl w.heap.size 49 i0 _ 3 24 Try.underlying47 hi0 hz0 hz1 hz2 rfl (by omega) (.slice (some ⟨w.heap.size, 0, none⟩) 0 0) 0 [] rfl (own_empty (Blk.new _ _ _) (Nat.le_refl _)) (some ad) n cap _ rfl (hr.below (b_alloc (b_refl _) _)) (one_cellsR l) (by simp only [maxLen]; omega) (by omega) (by simp) ?_; intro v1 wa hown1 hg1 hat1))
  go_ret
  refine ⟨v1, rfl, by simpa using hown1, b_grown (b_alloc (b_refl _) _) hg1 (by simp [Value.ownBlock])⟩
end Go.Proofs.Ytefihmfilahppaa.LineW
