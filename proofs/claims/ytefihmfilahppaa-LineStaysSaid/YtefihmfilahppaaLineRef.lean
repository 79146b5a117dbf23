/- Layer 11's reference, walked. No condition. -/
import Derived.Test.YtefihmfilahppaaJoin
namespace Go.Proofs.Ytefihmfilahppaa.LineW
open Go.RowKit Go.Proofs.Ytefihmfilahppaa.Com Go.Proofs.Ytefihmfilahppaa.StampW Go.Proofs.Ytefihmfilahppaa.RightsW Go.Proofs.Ytefihmfilahppaa.Ord
set_option linter.unusedVariables false
/-- May a request be in a line? -/
def oneB (n who : Int) (r : Req) : Bool := ownB n who r.t r.o && amB r.am
set_option maxHeartbeats 1000000 in
theorem one_calls (c : Cfg) (who : Int) (r : Req) (w : World) : Calls Try.prog 47 #[cfgV c, .int .i64 who, reqV r] w fun e w' => e = .returned (.bool (oneB c.N who r)) ∧ Below w.heap.size w w' := by
  unfold oneB ownB cfgV reqV
  generalize hm : mayS r.t r.o c.N = m
  have q := Lib.hid (fun w => hm ▸ RMay_calls r.t r.o c.N w)
  clear hm
  have e2 : (r.o == who) = decide (r.o = who) := rfl
  cases m
  · go_enter Try.func47, Try.ntmps47
    go_wp2_with (go_at_call 25; refine (q.out _).mono ?_; rintro e w1 ⟨rfl, hb⟩)
    go_ret
    exact ⟨rfl, b_step (by repeat (first | exact b_refl _ | apply b_drew | apply b_drewN | apply b_alloc)) hb⟩
  · by_cases h1 : r.o = who
    · have h1' : decide (r.o = who) = true := decide_eq_true h1
      rw [h1'] at e2 ⊢
      clear h1 h1'
      by_cases h2 : 1 ≤ r.am
      · rw [show amB r.am = decide (r.am ≤ 1099511627776) by simp only [amB, decide_eq_decide]; omega]
        have e3 : decide (r.am ≥ 1) = true := decide_eq_true h2
        go_enter Try.func47, Try.ntmps47
        go_wp2_with (go_at_call 25; refine (q.out _).mono ?_; rintro e w1 ⟨rfl, hb⟩; have hk : w1.cell? ⟨w.heap.size + 1, 1, none⟩ = some (.int .i64 r.o) := b_keep hb (by go_simp); have hk2 : w1.cell? ⟨w.heap.size + 1, 2, none⟩ = some (.int .i64 r.am) := b_keep hb (by go_simp))
        go_ret
        exact ⟨by simp, b_step (by repeat (first | exact b_refl _ | apply b_drew | apply b_drewN | apply b_alloc)) hb⟩
      · rw [show amB r.am = false by simp only [amB, decide_eq_false_iff_not]; omega]
        have e3 : decide (r.am ≥ 1) = false := decide_eq_false h2
        go_enter Try.func47, Try.ntmps47
        go_wp2_with (go_at_call 25; refine (q.out _).mono ?_; rintro e w1 ⟨rfl, hb⟩; have hk : w1.cell? ⟨w.heap.size + 1, 1, none⟩ = some (.int .i64 r.o) := b_keep hb (by go_simp); have hk2 : w1.cell? ⟨w.heap.size + 1, 2, none⟩ = some (.int .i64 r.am) := b_keep hb (by go_simp))
        go_ret
        exact ⟨by simp, b_step (by repeat (first | exact b_refl _ | apply b_drew | apply b_drewN | apply b_alloc)) hb⟩
    · have h1' : decide (r.o = who) = false := decide_eq_false h1
      rw [h1'] at e2 ⊢
      clear h1 h1'
      go_enter Try.func47, Try.ntmps47
      go_wp2_with (go_at_call 25; refine (q.out _).mono ?_; rintro e w1 ⟨rfl, hb⟩; have hk : w1.cell? ⟨w.heap.size + 1, 1, none⟩ = some (.int .i64 r.o) := b_keep hb (by go_simp))
      go_ret
      exact ⟨by simp, b_step (by repeat (first | exact b_refl _ | apply b_drew | apply b_drewN | apply b_alloc)) hb⟩
/-- Are two requests equal? -/
def reqEqB (x0 x1 x2 y0 y1 y2 : Int) : Bool := x0 == y0 && (x1 == y1 && x2 == y2)
theorem eqReq (x0 x1 x2 y0 y1 y2 : Int) (w : World) : (Op.equalIn 10000 49 (.agg #[.int .i64 x0, .int .i64 x1, .int .i64 x2]) (.agg #[.int .i64 y0, .int .i64 y1, .int .i64 y2])).run Try.prog w = .ok (reqEqB x0 x1 x2 y0 y1 y2) w := by
  unfold reqEqB
  cases h0 : x0 == y0 <;> cases h1 : x1 == y1 <;> cases h2 : x2 == y2 <;> go_simp
@[go_sem ↓] theorem neqReq (x0 x1 x2 y0 y1 y2 : Int) (w : World) : (binOp .neq 49 (.agg #[.int .i64 x0, .int .i64 x1, .int .i64 x2]) (.agg #[.int .i64 y0, .int .i64 y1, .int .i64 y2])).run Try.prog w = .ok (.bool (!reqEqB x0 x1 x2 y0 y1 y2)) w := by
  rw [run_neq_struct, eqReq]; rfl
@[go_sem ↓] theorem eqlReq (x0 x1 x2 y0 y1 y2 : Int) (w : World) : (binOp .eql 49 (.agg #[.int .i64 x0, .int .i64 x1, .int .i64 x2]) (.agg #[.int .i64 y0, .int .i64 y1, .int .i64 y2])).run Try.prog w = .ok (.bool (reqEqB x0 x1 x2 y0 y1 y2)) w := by
  rw [run_eql_struct, eqReq]; rfl
/-- The same lines? -/
def sameTo (a b : List Req) (k : Nat) : Bool := (List.range k).all fun j => decide (a[j]? = b[j]?)
theorem sameTo_succ (a b : List Req) (k : Nat) : sameTo a b (k + 1) = (sameTo a b k && decide (a[k]? = b[k]?)) := by
  unfold sameTo
  rw [List.range_succ, List.all_append]
  simp
theorem sameTo_all {a b : List Req} (h : a.length = b.length) : sameTo a b a.length = decide (a = b) := by
  unfold sameTo
  by_cases e : a = b
  · subst e; simp
  · rw [decide_eq_false e, List.all_eq_false]
    have : ¬ ∀ j, a[j]? = b[j]? := fun hj => e (List.ext_getElem? hj)
    obtain ⟨j, hj⟩ := Classical.not_forall.1 this
    refine ⟨j, List.mem_range.2 ?_, by simpa using hj⟩
    rcases Nat.lt_or_ge j a.length with h1 | h1
    · exact h1
    · exact absurd (by rw [List.getElem?_eq_none h1, List.getElem?_eq_none (by omega)]) hj
theorem sameTo_false {a b : List Req} {k m : Nat} (h : decide (a[k]? = b[k]?) = false) (hk : k < m) : sameTo a b m = false := by
  unfold sameTo
  rw [List.all_eq_false]
  exact ⟨k, List.mem_range.2 hk, by simpa using h⟩
set_option maxHeartbeats 1000000 in
theorem Same_calls (A B : Option Addr) (n m c1 c2 : Nat) (a b : List Req) (w : World) (ha : Reads w 3 A n (cellsR a)) (hb : Reads w 3 B m (cellsR b)) (hn : n ≤ 1000000) :
    Calls Try.prog 35 #[.slice A n c1, .slice B m c2] w fun e w' => e = .returned (.bool (decide (a = b))) ∧ Below w.heap.size w w' := by
  have hla : a.length = n := by have := ha.1; rw [cellsR_len] at this; omega
  have hlb : b.length = m := by have := hb.1; rw [cellsR_len] at this; omega
  by_cases hnm : n = m
  · have hs : Hid (sameTo a b n = decide (a = b)) := Lib.hid (by rw [← hla]; exact sameTo_all (by omega))
    have e1 : ((n : Int) != (m : Int)) = false := by simp [hnm]
    have HN := Lib.hid hnm
    clear hnm
    go_enter Try.func35, Try.ntmps35
    go_wp2_with fail
    go_loopw [5] (fun i wr => ∃ k : Nat, i = .int .i64 k ∧ k ≤ n ∧ Hid (sameTo a b k = true) ∧ Below w.heap.size w wr) (fun i _ => n - (intOf i).toNat)
    case atStart => exact ⟨0, rfl, by omega, Lib.hid rfl, b_refl _⟩
    case round =>
      obtain ⟨k, rfl, hk, hq, hbr⟩ := hrel
      by_cases hlt : k < n
      · have hlt2 : k < m := by have := HN.out; omega
        obtain ⟨ad, rfl, _⟩ := ha.2 (by omega)
        obtain ⟨bd, rfl, _⟩ := hb.2 (by omega)
        obtain ⟨r0, r1, r2⟩ := Reads.three (ha.below hbr) hlt (by omega)
        obtain ⟨s0, s1, s2⟩ := Reads.three (hb.below hbr) hlt2 (by omega)
        have hq2 := Lib.hid (sameTo_succ a b k)
        have hq3 := Lib.hid (fun (h : decide (a[k]? = b[k]?) = false) => sameTo_false h hlt)
        have he : Hid (decide (a[k]? = b[k]?) = reqEqB a[k].t a[k].o a[k].am b[k].t b[k].o b[k].am) := Lib.hid (by
          rw [List.getElem?_eq_getElem (by omega), List.getElem?_eq_getElem (by omega)]
          generalize a[k] = x
          generalize b[k] = y
          rw [Bool.eq_iff_iff]
          cases x; cases y
          simp [reqEqB])
        generalize a[k].t = x0 at *
        generalize a[k].o = x1 at *
        generalize a[k].am = x2 at *
        generalize b[k].t = y0 at *
        generalize b[k].o = y1 at *
        generalize b[k].am = y2 at *
        have o0 := On.cell r0
        have o1 := On.cell r1
        have o2 := On.cell r2
        have p0 := On.cell s0
        have p1 := On.cell s1
        have p2 := On.cell s2
        cases hE : reqEqB x0 x1 x2 y0 y1 y2
        · have hq4 : Hid (decide (a = b) = false) := Lib.hid (by rw [← hs.out]; exact hq3.out (he.out.trans hE))
          clear hq2 hq3 he
          go_wp2_with fail
          refine wp_region_on (by kernel_rfl) (by kernel_rfl) ?_
          repeat (go_big_quiet_step (fail))
          refine wpQuiet_nil ?_
          rintro _ ⟨⟨w2, hb2⟩, rfl⟩
          go_wp2_with fail
          rw [hq4.out]
          go_ret
          exact ⟨rfl, b_step hbr hb2⟩
        · have hq4 : Hid (sameTo a b (k + 1) = true) := Lib.hid (by rw [hq2.out, hq.out, he.out, hE]; rfl)
          clear hq2 hq3 he
          go_wp2_with fail
          refine wp_region_on (by kernel_rfl) (by kernel_rfl) ?_
          repeat (go_big_quiet_step (fail))
          refine wpQuiet_nil ?_
          rintro _ ⟨⟨w2, hb2⟩, rfl⟩
          go_wp2_with fail
          go_roundw
          case rel => exact ⟨k + 1, by go_num, by omega, hq4, b_step hbr hb2⟩
          case measure => simp [intOf]; omega
      · have hkn : Hid (decide (a = b) = true) := Lib.hid (by
          obtain rfl : k = n := by omega
          rw [← hs.out, hq.out])
        go_wp2_with fail
        rw [hkn.out]
        go_ret
        exact ⟨rfl, hbr⟩
  · have e1 : ((n : Int) != (m : Int)) = true := by rw [bne_iff_ne]; omega
    have e2 : decide (a = b) = false := decide_eq_false (by intro h; subst h; omega)
    go_enter Try.func35, Try.ntmps35
    go_wp2_with fail
    go_ret
    exact ⟨by rw [e2]; rfl, b_refl _⟩
end Go.Proofs.Ytefihmfilahppaa.LineW
