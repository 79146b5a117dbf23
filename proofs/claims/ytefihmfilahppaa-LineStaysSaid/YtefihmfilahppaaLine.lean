/- Layer 11's walks: requests that wait. No condition. -/
import Derived.Test.YtefihmfilahppaaStamp
import Derived.Test.YtefihmfilahppaaRights
import Derived.Test.YtefihmfilahppaaOrd
namespace Go.Proofs.Ytefihmfilahppaa.LineW
open Go.RowKit Go.Proofs.Ytefihmfilahppaa.Com Go.Proofs.Ytefihmfilahppaa.StampW Go.Proofs.Ytefihmfilahppaa.RightsW Go.Proofs.Ytefihmfilahppaa.Ord
set_option linter.unusedVariables false
/-- A request. -/
structure Req where
  t : Int
  o : Int
  am : Int
deriving DecidableEq
def Req.cells (r : Req) : List Value := [.int .i64 r.t, .int .i64 r.o, .int .i64 r.am]
def reqV (r : Req) : Value := .agg #[.int .i64 r.t, .int .i64 r.o, .int .i64 r.am]
def cellsR (l : List Req) : List Value := l.flatMap Req.cells
theorem cellsR_len (l : List Req) : (cellsR l).length = l.length * 3 := by
  induction l with
  | nil => rfl
  | cons a l ih => simp [cellsR, List.flatMap_cons, Req.cells] at ih ⊢; omega
theorem cellsR_at (l : List Req) (k : Nat) (h : k < l.length) : (cellsR l)[k * 3]? = some (.int .i64 l[k].t) ∧ (cellsR l)[k * 3 + 1]? = some (.int .i64 l[k].o) ∧ (cellsR l)[k * 3 + 2]? = some (.int .i64 l[k].am) := by
  induction l generalizing k with
  | nil => simp at h
  | cons a l ih =>
    cases k with
    | zero => simp [cellsR, List.flatMap_cons, Req.cells]
    | succ k =>
      have := ih k (by simpa using h)
      simp only [cellsR, List.flatMap_cons, Nat.succ_mul, List.getElem_cons_succ, Req.cells] at this ⊢
      refine ⟨?_, ?_, ?_⟩
      · rw [← this.1]; simp
      · rw [← this.2.1, show k * 3 + 3 + 1 = (k * 3 + 1) + 1 + 1 + 1 by omega]; simp
      · rw [← this.2.2, show k * 3 + 3 + 2 = (k * 3 + 2) + 1 + 1 + 1 by omega]; simp
/-- The cells of element k. -/
theorem Reads.three {w : World} {n : Nat} {ad : Addr} {l : List Req} (h : Reads w 3 (some ad) n (cellsR l)) {k : Nat} (hk : k < n) (hl : k < l.length) :
    w.cell? (ad.add (k * 3)) = some (.int .i64 l[k].t) ∧ w.cell? ⟨(ad.add (k * 3)).block, (ad.add (k * 3)).off + 1, none⟩ = some (.int .i64 l[k].o) ∧ w.cell? ⟨(ad.add (k * 3)).block, (ad.add (k * 3)).off + 2, none⟩ = some (.int .i64 l[k].am) := by
  obtain ⟨ad', e, hc⟩ := h.2 (by omega)
  injection e with e
  subst e
  obtain ⟨x0, x1, x2⟩ := cellsR_at l k hl
  refine ⟨hc _ _ x0, ?_, ?_⟩
  · rw [← add_succ]; exact hc _ _ x1
  · have e2 : (⟨(ad.add (k * 3)).block, (ad.add (k * 3)).off + 2, none⟩ : Addr) = ad.add (k * 3 + 2) := by
      rw [add_succ, add_succ]
    rw [e2]; exact hc _ _ x2
/-- May it be an amount? -/
def amB (v : Int) : Bool := decide (1 ≤ v ∧ v ≤ 1099511627776)
theorem amount_calls (v : Int) (w : World) : Calls Try.prog 45 #[.int .i64 v] w fun e w' => e = .returned (.bool (amB v)) ∧ w' = w := by
  by_cases h : 1 ≤ v
  · rw [show amB v = decide (v ≤ 1099511627776) by simp only [amB, decide_eq_decide]; omega]
    have e1 : decide (v ≥ 1) = true := decide_eq_true (by omega)
    go_enter Try.func45, Try.ntmps45
    go_wp2
    go_ret
    exact ⟨rfl, rfl⟩
  · rw [show amB v = false by simp only [amB, decide_eq_false_iff_not]; omega]
    have e1 : decide (v ≥ 1) = false := decide_eq_false (by omega)
    go_enter Try.func45, Try.ntmps45
    go_wp2
    go_ret
    exact ⟨rfl, rfl⟩
/-- Is it one of who's? -/
def ownB (n who t o : Int) : Bool := mayS t o n && decide (o = who)
theorem own_calls (c : Cfg) (who t o : Int) (w : World) : Calls Try.prog 50 #[cfgV c, .int .i64 who, .agg #[.int .i64 t, .int .i64 o]] w fun e w' => e = .returned (.bool (ownB c.N who t o)) ∧ Below w.heap.size w w' := by
  unfold ownB cfgV
  generalize hm : mayS t o c.N = m
  have q := Lib.hid (fun w => hm ▸ May_calls t o c.N w)
  clear hm
  have e2 : (o == who) = decide (o = who) := rfl
  cases m
  · go_enter Try.func50, Try.ntmps50
    go_wp2_with (go_at_call 24; refine (q.out _).mono ?_; rintro e w1 ⟨rfl, hb⟩)
    go_ret
    exact ⟨rfl, b_step (by repeat (first | exact b_refl _ | apply b_drew | apply b_drewN | apply b_alloc)) hb⟩
  · go_enter Try.func50, Try.ntmps50
    go_wp2_with (go_at_call 24; refine (q.out _).mono ?_; rintro e w1 ⟨rfl, hb⟩; have hk : w1.cell? ⟨w.heap.size + 1, 1, none⟩ = some (.int .i64 o) := b_keep hb (by go_simp))
    go_ret
    exact ⟨by simp, b_step (by repeat (first | exact b_refl _ | apply b_drew | apply b_drewN | apply b_alloc)) hb⟩
/-- Is place k of the line wrong? -/
def wrongB (n who : Int) (l : List Req) (k : Nat) : Bool :=
  match l[k]? with
  | none => false
  | some r => !ownB n who r.t r.o || (!amB r.am || (match k with
    | 0 => false
    | j + 1 => match l[j]? with
      | none => false
      | some p => !older p.t p.o r.t r.o))
set_option maxRecDepth 100000 in
set_option maxHeartbeats 1000000 in
theorem wrong_calls (c : Cfg) (who : Int) (gC gW gL : Nat) (A : Option Addr) (n cap k : Nat) (l : List Req) (w : World) (hr : Reads w 3 A n (cellsR l)) (hk : k < n) (hn : n ≤ 1000000)
    (h0 : w.cell? ⟨gC, 0, none⟩ = some (.int .i64 c.N)) (h1 : w.cell? ⟨gC, 1, none⟩ = some (.int .i64 c.Q)) (h2 : w.cell? ⟨gC, 2, none⟩ = some (.int .i64 c.R)) (h3 : w.cell? ⟨gC, 3, none⟩ = some (.int .i64 c.P)) (h4 : w.cell? ⟨gC, 4, none⟩ = some (.int .i64 c.K)) (h5 : w.cell? ⟨gC, 5, none⟩ = some (.int .i64 c.C))
    (h6 : w.cell? ⟨gW, 0, none⟩ = some (.int .i64 who)) (h7 : w.cell? ⟨gL, 0, none⟩ = some (.slice A n cap)) :
    Calls Try.prog 49 #[.int .i64 k, .pointer (some ⟨gC, 0, none⟩), .pointer (some ⟨gW, 0, none⟩), .pointer (some ⟨gL, 0, none⟩)] w fun e w' => e = .returned (.bool (wrongB c.N who l k)) ∧ Below w.heap.size w w' := by
  have hll : l.length = n := by have := hr.1; rw [cellsR_len] at this; omega
  obtain ⟨ad, rfl, _⟩ := hr.2 (by omega)
  obtain ⟨r0, r1, r2⟩ := Reads.three hr hk (by omega)
  have hw : Hid (wrongB c.N who l k = (!ownB c.N who l[k].t l[k].o || (!amB l[k].am || (match k with
    | 0 => false
    | j + 1 => match l[j]? with
      | none => false
      | some p => !older p.t p.o l[k].t l[k].o)))) := Lib.hid (by unfold wrongB; rw [List.getElem?_eq_getElem (by omega)])
  generalize hb1 : ownB c.N who l[k].t l[k].o = b1 at hw
  generalize hb2 : amB l[k].am = b2 at hw
  have q1 := Lib.hid (fun (w : World) => hb1 ▸ own_calls c who l[k].t l[k].o w)
  have q2 := Lib.hid (fun (w : World) => hb2 ▸ amount_calls l[k].am w)
  clear hb1 hb2
  unfold cfgV at q1
  have o0 := On.cell h0
  have o1 := On.cell h1
  have o2 := On.cell h2
  have o3 := On.cell h3
  have o4 := On.cell h4
  have o5 := On.cell h5
  have o6 := On.cell h6
  have o7 := On.cell h7
  have o8 := On.cell r0
  have o9 := On.cell r1
  have o10 := On.cell r2
  cases b1
  · rw [show wrongB c.N who l k = true by rw [hw.out]; rfl]
    clear hw
    go_enter Try.func49, Try.ntmps49
    go_wp2_with fail
    refine wp_region_on (by kernel_rfl) (by kernel_rfl) ?_
    repeat (go_big_quiet_step (first
      | (go_at_call 50; with_reducible exact Calls.on (q1.out _))))
    refine wpQuiet_nil ?_
    rintro _ ⟨⟨w2, hb2⟩, rfl⟩
    go_wp2_with fail
    go_ret
    exact ⟨rfl, hb2⟩
  · cases b2
    · rw [show wrongB c.N who l k = true by rw [hw.out]; rfl]
      clear hw
      go_enter Try.func49, Try.ntmps49
      go_wp2_with fail
      refine wp_region_on (by kernel_rfl) (by kernel_rfl) ?_
      repeat (go_big_quiet_step (first
        | (go_at_call 50; with_reducible exact Calls.on (q1.out _))
        | (go_at_call 45; with_reducible exact Calls.on_same (q2.out _))))
      refine wpQuiet_nil ?_
      rintro _ ⟨⟨w2, hb2⟩, rfl⟩
      go_wp2_with fail
      go_ret
      exact ⟨rfl, hb2⟩
    · rcases Nat.eq_zero_or_pos k with hk0 | hk0
      · rw [show wrongB c.N who l k = false by rw [hw.out]; subst hk0; rfl]
        have ek : decide ((k : Int) > 0) = false := decide_eq_false (by omega)
        have ek2 : decide ((0 : Int) < k) = false := decide_eq_false (by omega)
        have ek3 : decide (0 < k) = false := decide_eq_false (by omega)
        have HK := Lib.hid hk0
        clear hw hk0
        go_enter Try.func49, Try.ntmps49
        go_wp2_with fail
        refine wp_region_on (by kernel_rfl) (by kernel_rfl) ?_
        repeat (go_big_quiet_step (first
          | (go_at_call 50; with_reducible exact Calls.on (q1.out _))
          | (go_at_call 45; with_reducible exact Calls.on_same (q2.out _))))
        refine wpQuiet_nil ?_
        rintro _ ⟨⟨w2, hb2⟩, rfl⟩
        go_wp2_with fail
        go_ret
        exact ⟨rfl, hb2⟩
      · obtain ⟨j, hj⟩ : ∃ j, k = j + 1 := ⟨k - 1, by omega⟩
        have ek : decide ((k : Int) > 0) = true := decide_eq_true (by omega)
        have ek2 : decide ((0 : Int) < k) = true := decide_eq_true (by omega)
        have ek3 : decide (0 < k) = true := decide_eq_true (by omega)
        have ej : ((k : Int) - 1) = j := by omega
        obtain ⟨s0, s1, s2⟩ := Reads.three hr (show j < n by omega) (by omega)
        have o11 := On.cell s0
        have o12 := On.cell s1
        have hw2 : Hid (wrongB c.N who l k = !older l[j].t l[j].o l[k].t l[k].o) := Lib.hid (by
          rw [hw.out]
          clear hw
          subst hj
          simp only [Bool.not_true, Bool.false_or]
          rw [List.getElem?_eq_getElem (by omega)])
        clear hw
        clear s0 s1 s2
        generalize l[j].t = u0 at *
        generalize l[j].o = u1 at *
        generalize l[k].t = t0 at *
        generalize l[k].o = t1 at *
        generalize hb3 : older u0 u1 t0 t1 = b3 at hw2
        have q3 := Lib.hid (fun (w : World) => hb3 ▸ Older_calls u0 u1 t0 t1 w)
        clear hb3
        clear hj hk0
        rw [hw2.out]
        clear hw2
        go_enter Try.func49, Try.ntmps49
        go_wp2_with fail
        refine wp_region_on (by kernel_rfl) (by kernel_rfl) ?_
        repeat (go_big_quiet_step (first
          | (go_at_call 50; with_reducible exact Calls.on (q1.out _))
          | (go_at_call 45; with_reducible exact Calls.on_same (q2.out _))
          | (go_at_call 22; with_reducible exact Calls.on (q3.out _))))
        refine wpQuiet_nil ?_
        rintro _ ⟨⟨w2, hb2⟩, rfl⟩
        go_wp2_with fail
        go_ret
        exact ⟨rfl, hb2⟩
end Go.Proofs.Ytefihmfilahppaa.LineW
