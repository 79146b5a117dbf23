/- The reference's text of an act, walked. No condition. -/
import Derived.Test.YtlldjildedbjlaaDoorToldR
import Derived.Test.YtlldjildedbjlaaDoorTok2
namespace Go.Proofs.YtlldjildedbjlaaDoor.ToldW
open Go.RowKit Go.Proofs.YtlldjildedbjlaaDoor.Com Go.Proofs.YtlldjildedbjlaaDoor.Ord Go.Proofs.YtlldjildedbjlaaDoor.Tok Go.Proofs.YtlldjildedbjlaaDoor.ToldP
set_option linter.unusedVariables false
/-- A row that a slice names; that a pointer names. -/
def sl0 (R : Array Value) : List Value → Value → Res := fun _ v => match v with
  | .slice (some p) _ _ => blk p.block 9 R
  | _ => emp
def pt0 (R : Array Value) : List Value → Value → Res := fun _ v => match v with
  | .pointer (some p) => blk p.block 9 R
  | _ => emp
section
variable {P : Program} {ops : Array Oper} {Q : Exit → Act → World → Prop} {T : List TS} {a0 : Act} {W : World} {i : Nat} {oi : Oper}
/-- A value that hands on the memory that it has taken. -/
theorem T_pass (hoi : ops[i]? = some oi) (hg : oi.guard = none) (hx : oi.op.operands.toList.all (okX ops i) = true) (hsel : noSel oi.op = true)
    (h : ∀ w t, Owed T W i w t → ∃ v, (execOp (Tok.look ops i a0 t) oi).run P w = .ok (.value v) w ∧ (tsAt T i).spec (argsOf T t i) v ∧ ((tsAt T i).res (argsOf T t i) v).ok w ∧ ∀ g ∈ ((tsAt T i).res (argsOf T t i) v).fp, g ∈ consFp T t i ∧ g < w.heap.size) : StepT P ops Q T a0 W i := by
  intro a w t ha hs hb hc
  refine ⟨oi, hoi, hg, fun K hK => ?_⟩
  obtain ⟨v, hrun, hsp, hok, hfp⟩ := h w t ⟨hb, hs, hc⟩
  unfold Oper.wp
  rw [exec_look hx hsel ha, hrun]
  exact hK v w hsp hb (eff_refl _ _) hok fun g hg => ⟨.inl (hfp g hg).1, (hfp g hg).2⟩
end
section
variable (ρ : Operand → Value) (d : Option Tmp) (pos : String) (af : Array Edge)
theorem run_callkinds (hf : ρ (.func 25) = .func (.func 25) #[] #[]) (w : World) :
    (execOp ρ { dst := d, op := .call { callee := .value (.func 25), args := #[], argTypes := #[] }, type := 57, pos := pos, after := af, guard := none }).run Tryd.prog w = .ok (.enter 25 #[]) w := by
  go_simp
theorem run_callone (x y : Operand) (u v : Value) (hf : ρ (.func 30) = .func (.func 30) #[] #[]) (h : ρ x = u) (h2 : ρ y = v) (w : World) :
    (execOp ρ { dst := d, op := .call { callee := .value (.func 30), args := #[x, y], argTypes := #[9, 2] }, type := 9, pos := pos, after := af, guard := none }).run Tryd.prog w = .ok (.enter 30 #[u, v]) w := by
  go_simp
theorem run_field0 (x : Operand) (g : Nat) (h : ρ x = .pointer (some ⟨g, 0, none⟩)) (w : World) :
    (execOp ρ { dst := d, op := .fieldAddr 38 x 0, type := 0, pos := pos, after := af, guard := none }).run Tryd.prog w = .ok (.value (.pointer (some ⟨g, 0, none⟩))) w := by
  go_simp
theorem run_field1 (x : Operand) (g : Nat) (h : ρ x = .pointer (some ⟨g, 0, none⟩)) (w : World) :
    (execOp ρ { dst := d, op := .fieldAddr 38 x 1, type := 0, pos := pos, after := af, guard := none }).run Tryd.prog w = .ok (.value (.pointer (some ⟨g, 1, none⟩))) w := by
  go_simp
theorem run_field2 (x : Operand) (g : Nat) (h : ρ x = .pointer (some ⟨g, 0, none⟩)) (w : World) :
    (execOp ρ { dst := d, op := .fieldAddr 38 x 2, type := 0, pos := pos, after := af, guard := none }).run Tryd.prog w = .ok (.value (.pointer (some ⟨g, 2, none⟩))) w := by
  go_simp
theorem run_field3 (x : Operand) (g : Nat) (h : ρ x = .pointer (some ⟨g, 0, none⟩)) (w : World) :
    (execOp ρ { dst := d, op := .fieldAddr 38 x 3, type := 0, pos := pos, after := af, guard := none }).run Tryd.prog w = .ok (.value (.pointer (some ⟨g, 3, none⟩))) w := by
  go_simp
theorem run_field4 (x : Operand) (g : Nat) (h : ρ x = .pointer (some ⟨g, 0, none⟩)) (w : World) :
    (execOp ρ { dst := d, op := .fieldAddr 38 x 4, type := 0, pos := pos, after := af, guard := none }).run Tryd.prog w = .ok (.value (.pointer (some ⟨g, 4, none⟩))) w := by
  go_simp
theorem run_field5 (x : Operand) (g : Nat) (h : ρ x = .pointer (some ⟨g, 0, none⟩)) (w : World) :
    (execOp ρ { dst := d, op := .fieldAddr 38 x 5, type := 0, pos := pos, after := af, guard := none }).run Tryd.prog w = .ok (.value (.pointer (some ⟨g, 5, none⟩))) w := by
  go_simp
theorem run_field6 (x : Operand) (g : Nat) (h : ρ x = .pointer (some ⟨g, 0, none⟩)) (w : World) :
    (execOp ρ { dst := d, op := .fieldAddr 38 x 6, type := 0, pos := pos, after := af, guard := none }).run Tryd.prog w = .ok (.value (.pointer (some ⟨g, 6, none⟩))) w := by
  go_simp
theorem run_load3 (x : Operand) (p : Addr) (v : Int) (h : ρ x = .pointer (some p)) (w : World) (hc : w.cell? p = some (.int .i64 v)) :
    (execOp ρ { dst := d, op := .load 3 x, type := 3, pos := pos, after := af, guard := none }).run Tryd.prog w = .ok (.value (.int .i64 v)) w := by
  go_simp
theorem run_load2 (x : Operand) (p : Addr) (v : Int) (h : ρ x = .pointer (some p)) (w : World) (hc : w.cell? p = some (.int .i64 v)) :
    (execOp ρ { dst := d, op := .load 2 x, type := 2, pos := pos, after := af, guard := none }).run Tryd.prog w = .ok (.value (.int .i64 v)) w := by
  go_simp
theorem run_load36 (x : Operand) (p : Addr) (v : Int) (h : ρ x = .pointer (some p)) (w : World) (hc : w.cell? p = some (.int .u32 v)) :
    (execOp ρ { dst := d, op := .load 36 x, type := 36, pos := pos, after := af, guard := none }).run Tryd.prog w = .ok (.value (.int .u32 v)) w := by
  go_simp
theorem run_load9 (x : Operand) (g k : Nat) (v : Value) (h : ρ x = .pointer (some ⟨g, k, none⟩)) (w : World) (hc : w.cell? ⟨g, k, none⟩ = some v) :
    (execOp ρ { dst := d, op := .load 9 x, type := 9, pos := pos, after := af, guard := none }).run Tryd.prog w = .ok (.value v) w := by
  go_simp
theorem run_sub1 (x : Operand) (K k : Int) (h : ρ x = .int .i64 K) (h1 : ρ (.const (.int .i64 1)) = .int .i64 1) (hwr : IntKind.i64.wrap (K - 1) = k) (w : World) :
    (execOp ρ { dst := d, op := .binOp .sub 3 x (.const (.int .i64 1)) 3, type := 3, pos := pos, after := af, guard := none }).run Tryd.prog w = .ok (.value (.int .i64 k)) w := by
  go_simp
theorem run_idx9 (x y : Operand) (g k : Nat) (hk : k < 9) (h : ρ x = .slice (some ⟨g, 0, none⟩) 9 9) (h2 : ρ y = .int .i64 k) (w : World) :
    (execOp ρ { dst := d, op := .indexAddr 57 x y, type := 0, pos := pos, after := af, guard := none }).run Tryd.prog w = .ok (.value (.pointer (some ⟨g, k, none⟩))) w := by
  have e1 : (0 : Int) ≤ (k : Int) := by omega
  have e2 : (k : Int) < 9 := by omega
  go_simp
theorem run_conv (x : Operand) (v : Int) (h0 : 0 ≤ v) (h1 : v < 4294967296) (h : ρ x = .int .u32 v) (w : World) :
    (execOp ρ { dst := d, op := .convert 36 2 x, type := 2, pos := pos, after := af, guard := none }).run Tryd.prog w = .ok (.value (.int .i64 v)) w := by
  have e : IntKind.i64.wrap v = v := by simp [IntKind.wrap, IntKind.bits, IntKind.signed]; omega
  go_simp
theorem run_cat (x y : Operand) (a b : List UInt8) (hl : a.length + b.length ≤ 1000000) (h : ρ x = str a) (h2 : ρ y = str b) (w : World) :
    (execOp ρ { dst := d, op := .binOp .add 9 x y 9, type := 9, pos := pos, after := af, guard := none }).run Tryd.prog w = .ok (.value (str (a ++ b))) w := by
  unfold str at *
  have e : ¬ (9223372036854775807 < a.length + b.length) := by omega
  go_simp
  exact bcat a b
end
theorem prt_len (name : List UInt8) (v : Int) (hn : name.length ≤ 6) (hv : In64 v) : (prt name v).length ≤ 29 := by
  have := Lib.itoa_length_le v hv.1 hv.2
  unfold prt
  split <;> simp <;> omega
set_option maxRecDepth 100000 in
set_option maxHeartbeats 4000000 in
theorem Text_calls (a : DoA) (h1 : 1 ≤ a.kind) (h9 : a.kind ≤ 9) (h0 : 0 ≤ a.draw) (hd : a.draw < 4294967296) (hall : ∀ k, k < 6 → In64 ((vals a).getD k 0)) (w : World) :
    Calls Tryd.prog 18 #[actV a] w fun e w' => e = .returned (str (textA a)) ∧ Below w.heap.size w w' := by
  have a0 := hall 0 (by omega)
  have a1 := hall 1 (by omega)
  have a2 := hall 2 (by omega)
  have a3 := hall 3 (by omega)
  have a4 := hall 4 (by omega)
  have a5 := hall 5 (by omega)
  simp only [vals, List.getD_cons_zero, List.getD_cons_succ] at a0 a1 a2 a3 a4 a5
  obtain ⟨k, hk⟩ : ∃ k : Nat, a.kind = k + 1 := ⟨(a.kind - 1).toNat, by omega⟩
  have hk9 : k < 9 := by omega
  have ht : Hid (textA a = kinds9.getD k [] ++ prt [119, 104, 111] a.who ++ prt [97, 109, 111, 117, 110, 116] a.amount ++ prt [100, 114, 97, 119] a.draw ++ prt [97, 116] a.pos ++ prt [102, 97, 117, 108, 116] a.fault ++ prt [107, 101, 101, 112] a.keep) := Lib.hid (by
    unfold textA
    rw [hk, show ((k : Int) + 1).toNat = k + 1 by omega]
    simp [prts, vals, nameN, kinds9, kindN])
  have q0 := Lib.hid (one_calls [119, 104, 111] (by decide) a.who a0)
  have q1 := Lib.hid (one_calls [97, 109, 111, 117, 110, 116] (by decide) a.amount a1)
  have q2 := Lib.hid (one_calls [100, 114, 97, 119] (by decide) a.draw a2)
  have q3 := Lib.hid (one_calls [97, 116] (by decide) a.pos a3)
  have q4 := Lib.hid (one_calls [102, 97, 117, 108, 116] (by decide) a.fault a4)
  have q5 := Lib.hid (one_calls [107, 101, 101, 112] (by decide) a.keep a5)
  have l0 := prt_len [119, 104, 111] a.who (by decide) a0
  have l1 := prt_len [97, 109, 111, 117, 110, 116] a.amount (by decide) a1
  have l2 := prt_len [100, 114, 97, 119] a.draw (by decide) a2
  have l3 := prt_len [97, 116] a.pos (by decide) a3
  have l4 := prt_len [102, 97, 117, 108, 116] a.fault (by decide) a4
  have l5 := prt_len [107, 101, 101, 112] a.keep (by decide) a5
  have lk : (kinds9.getD k []).length ≤ 7 := by
    have hc : k = 0 ∨ k = 1 ∨ k = 2 ∨ k = 3 ∨ k = 4 ∨ k = 5 ∨ k = 6 ∨ k = 7 ∨ k = 8 := by omega
    rcases hc with rfl | rfl | rfl | rfl | rfl | rfl | rfl | rfl | rfl <;> decide
  have hrow : ∀ (w' : World) (g : Nat), Blk w' g 9 (kinds9.map str).toArray → w'.cell? ⟨g, k, none⟩ = some (str (kinds9.getD k [])) := by
    intro w' g hg
    rw [hg.cell k, List.getElem?_toArray, List.getElem?_map, List.getD_eq_getElem?_getD, List.getElem?_eq_getElem (show k < kinds9.length from hk9)]
    rfl
  have HR := Lib.hid hrow
  have HK := Lib.hid hk
  generalize prt [119, 104, 111] a.who = p0 at *
  generalize prt [97, 109, 111, 117, 110, 116] a.amount = p1 at *
  generalize prt [100, 114, 97, 119] a.draw = p2 at *
  generalize prt [97, 116] a.pos = p3 at *
  generalize prt [102, 97, 117, 108, 116] a.fault = p4 at *
  generalize prt [107, 101, 101, 112] a.keep = p5 at *
  generalize kinds9.getD k [] = kn at *
  unfold actV
  rw [hk]
  have d2 : (0 : Int) ≤ (k : Int) := by omega
  have d3 : (k : Int) < 9 := by omega
  obtain ⟨K, hKK⟩ : ∃ K : Int, K = (k : Int) + 1 := ⟨_, rfl⟩
  rw [← hKK]
  have hwr : IntKind.i64.wrap (K - 1) = (k : Int) := by simp [IntKind.wrap, IntKind.bits, IntKind.signed]; omega
  clear hKK
  obtain ⟨R, hR⟩ : ∃ R, (kinds9.map str).toArray = R := ⟨_, rfl⟩
  have q6 := Lib.hid Kinds_calls
  rw [hR] at HR q6
  clear hrow hk hR h1 h9
  go_enter Tryd.func18, Tryd.ntmps18
  go_upto_region 1 with (fail)
  have hB := Blk.new w 38 #[.int .i64 K, .int .i64 a.who, .int .i64 a.amount, .int .u32 a.draw, .int .i64 a.pos, .int .i64 a.fault, .int .i64 a.keep]
  have hbW := b_alloc (b_refl w) (.cells #[.int .i64 K, .int .i64 a.who, .int .i64 a.amount, .int .u32 a.draw, .int .i64 a.pos, .int .i64 a.fault, .int .i64 a.keep] 38)
  generalize w.alloc (.cells #[.int .i64 K, .int .i64 a.who, .int .i64 a.amount, .int .u32 a.draw, .int .i64 a.pos, .int .i64 a.fault, .int .i64 a.keep] 38) = w1 at *
  have c0 : w1.cell? ⟨w.heap.size, 0, none⟩ = some (.int .i64 K) := hB.cell 0
  have c1 : w1.cell? ⟨w.heap.size, 1, none⟩ = some (.int .i64 a.who) := hB.cell 1
  have c2 : w1.cell? ⟨w.heap.size, 2, none⟩ = some (.int .i64 a.amount) := hB.cell 2
  have c3 : w1.cell? ⟨w.heap.size, 3, none⟩ = some (.int .u32 a.draw) := hB.cell 3
  have c4 : w1.cell? ⟨w.heap.size, 4, none⟩ = some (.int .i64 a.pos) := hB.cell 4
  have c5 : w1.cell? ⟨w.heap.size, 5, none⟩ = some (.int .i64 a.fault) := hB.cell 5
  have c6 : w1.cell? ⟨w.heap.size, 6, none⟩ = some (.int .i64 a.keep) := hB.cell 6
  -- the region
  refine wp_region_tok [⟨[], [], fun _ v => ∃ g, v = .slice (some ⟨g, 0, none⟩) 9 9, sl0 R⟩, tsIs (.pointer (some ⟨w.heap.size, 0, none⟩)), tsOf [1] (.int .i64 K), tsOf [2] (.int .i64 k), ⟨[0, 3], [0], fun _ v => ∃ g, v = .pointer (some ⟨g, k, none⟩), pt0 R⟩, ⟨[4], [4], is0 (str kn), none0⟩, tsIs (.pointer (some ⟨w.heap.size, 1, none⟩)), tsOf [6] (.int .i64 a.who), tsOf [7] (str p0), tsOf [5, 8] (str (kn ++ p0)), tsIs (.pointer (some ⟨w.heap.size, 2, none⟩)), tsOf [10] (.int .i64 a.amount), tsOf [11] (str p1), tsOf [9, 12] (str ((kn ++ p0) ++ p1)), tsIs (.pointer (some ⟨w.heap.size, 3, none⟩)), tsOf [14] (.int .u32 a.draw), tsOf [15] (.int .i64 a.draw), tsOf [16] (str p2), tsOf [13, 17] (str (((kn ++ p0) ++ p1) ++ p2)), tsIs (.pointer (some ⟨w.heap.size, 4, none⟩)), tsOf [19] (.int .i64 a.pos), tsOf [20] (str p3), tsOf [18, 21] (str ((((kn ++ p0) ++ p1) ++ p2) ++ p3)), tsIs (.pointer (some ⟨w.heap.size, 5, none⟩)), tsOf [23] (.int .i64 a.fault), tsOf [24] (str p4), tsOf [22, 25] (str (((((kn ++ p0) ++ p1) ++ p2) ++ p3) ++ p4)), tsIs (.pointer (some ⟨w.heap.size, 6, none⟩)), tsOf [27] (.int .i64 a.keep), tsOf [28] (str p5), tsOf [26, 29] (str ((((((kn ++ p0) ++ p1) ++ p2) ++ p3) ++ p4) ++ p5)), tsCp 30]
    (by kernel_rfl) (by kernel_rfl) (by kernel_rfl) (by kernel_rfl) ⟨?_, ?_, ?_, ?_, ?_, ?_, ?_, ?_, ?_, ?_, ?_, ?_, ?_, ?_, ?_, ?_, ?_, ?_, ?_, ?_, ?_, ?_, ?_, ?_, ?_, ?_, ?_, ?_, ?_, ?_, ?_, ?_, trivial⟩ ?_
  · refine T_call rfl rfl rfl rfl 25 fun w3 t ht => ⟨#[], run_callkinds _ _ _ _ rfl w3, (q6.out w3).mono ?_⟩
    rintro e w4 ⟨rfl, rfl⟩
    exact ⟨_, rfl, b_alloc (b_refl w3) _, ⟨_, rfl⟩, Blk.new w3 9 R, fun g hg => by rw [List.mem_singleton.1 hg]; simp⟩
  · exact T_val rfl rfl rfl rfl rfl fun w3 t ht => ⟨_, run_field0 _ _ _ _ _ _ rfl w3, rfl⟩
  · exact T_val rfl rfl rfl rfl rfl fun w3 t ht => ⟨.int .i64 K, run_load3 _ _ _ _ _ _ _ (by exact ht.spec 1 rfl) w3 (b_keep ht.1 c0), rfl⟩
  · exact T_val rfl rfl rfl rfl rfl fun w3 t ht => ⟨.int .i64 k, run_sub1 _ _ _ _ _ K k (by exact ht.spec 2 rfl) rfl hwr w3, rfl⟩
  · refine T_pass rfl rfl rfl rfl fun w3 t ht => ?_
    obtain ⟨g, hg⟩ : ∃ g, t 0 = .slice (some ⟨g, 0, none⟩) 9 9 := ht.spec 0 rfl
    have hh : Has w1 w3 (blk g 9 R) := by
      have := ht.2.2 0 List.mem_cons_self
      rw [show resOf _ t 0 = sl0 R [] (t 0) from rfl, hg] at this
      exact this
    refine ⟨.pointer (some ⟨g, k, none⟩), run_idx9 _ _ _ _ _ _ g k hk9 hg (by exact ht.spec 3 rfl) w3, ⟨g, rfl⟩, hh.1, fun b hb => ⟨?_, (hh.2 b hb).2⟩⟩
    show b ∈ (sl0 R [] (t 0)).fp ++ []
    rw [hg]
    exact List.mem_append_left _ hb
  · refine T_val rfl rfl rfl rfl rfl fun w3 t ht => ?_
    obtain ⟨g, hg⟩ : ∃ g, t 4 = .pointer (some ⟨g, k, none⟩) := ht.spec 4 rfl
    have hh : Has w1 w3 (blk g 9 R) := by
      have := ht.2.2 4 List.mem_cons_self
      rw [show resOf _ t 4 = pt0 R [] (t 4) from rfl, hg] at this
      exact this
    exact ⟨str kn, run_load9 _ _ _ _ _ g k _ hg w3 (HR.out w3 g hh.1), rfl⟩
  · exact T_val rfl rfl rfl rfl rfl fun w3 t ht => ⟨_, run_field1 _ _ _ _ _ _ rfl w3, rfl⟩
  · exact T_val rfl rfl rfl rfl rfl fun w3 t ht => ⟨.int .i64 a.who, run_load3 _ _ _ _ _ _ _ (by exact ht.spec 6 rfl) w3 (b_keep ht.1 c1), rfl⟩
  · refine T_call rfl rfl rfl rfl 30 fun w3 t ht => ⟨#[str [119, 104, 111], .int .i64 a.who], run_callone _ _ _ _ _ _ _ _ rfl rfl (by exact ht.spec 7 rfl) w3, (q0.out w3).mono ?_⟩
    rintro e w4 ⟨rfl, rfl⟩
    exact ⟨_, rfl, b_refl _, rfl, trivial, fun g hg => by cases hg⟩
  · exact T_val rfl rfl rfl rfl rfl fun w3 t ht => ⟨str (kn ++ p0), run_cat _ _ _ _ _ _ kn p0 (by first | omega | (simp only [List.length_append]; omega)) (by exact ht.spec 5 rfl) (by exact ht.spec 8 rfl) w3, rfl⟩
  · exact T_val rfl rfl rfl rfl rfl fun w3 t ht => ⟨_, run_field2 _ _ _ _ _ _ rfl w3, rfl⟩
  · exact T_val rfl rfl rfl rfl rfl fun w3 t ht => ⟨.int .i64 a.amount, run_load2 _ _ _ _ _ _ _ (by exact ht.spec 10 rfl) w3 (b_keep ht.1 c2), rfl⟩
  · refine T_call rfl rfl rfl rfl 30 fun w3 t ht => ⟨#[str [97, 109, 111, 117, 110, 116], .int .i64 a.amount], run_callone _ _ _ _ _ _ _ _ rfl rfl (by exact ht.spec 11 rfl) w3, (q1.out w3).mono ?_⟩
    rintro e w4 ⟨rfl, rfl⟩
    exact ⟨_, rfl, b_refl _, rfl, trivial, fun g hg => by cases hg⟩
  · exact T_val rfl rfl rfl rfl rfl fun w3 t ht => ⟨str ((kn ++ p0) ++ p1), run_cat _ _ _ _ _ _ (kn ++ p0) p1 (by first | omega | (simp only [List.length_append]; omega)) (by exact ht.spec 9 rfl) (by exact ht.spec 12 rfl) w3, rfl⟩
  · exact T_val rfl rfl rfl rfl rfl fun w3 t ht => ⟨_, run_field3 _ _ _ _ _ _ rfl w3, rfl⟩
  · exact T_val rfl rfl rfl rfl rfl fun w3 t ht => ⟨.int .u32 a.draw, run_load36 _ _ _ _ _ _ _ (by exact ht.spec 14 rfl) w3 (b_keep ht.1 c3), rfl⟩
  · exact T_val rfl rfl rfl rfl rfl fun w3 t ht => ⟨.int .i64 a.draw, run_conv _ _ _ _ _ _ h0 hd (by exact ht.spec 15 rfl) w3, rfl⟩
  · refine T_call rfl rfl rfl rfl 30 fun w3 t ht => ⟨#[str [100, 114, 97, 119], .int .i64 a.draw], run_callone _ _ _ _ _ _ _ _ rfl rfl (by exact ht.spec 16 rfl) w3, (q2.out w3).mono ?_⟩
    rintro e w4 ⟨rfl, rfl⟩
    exact ⟨_, rfl, b_refl _, rfl, trivial, fun g hg => by cases hg⟩
  · exact T_val rfl rfl rfl rfl rfl fun w3 t ht => ⟨str (((kn ++ p0) ++ p1) ++ p2), run_cat _ _ _ _ _ _ ((kn ++ p0) ++ p1) p2 (by first | omega | (simp only [List.length_append]; omega)) (by exact ht.spec 13 rfl) (by exact ht.spec 17 rfl) w3, rfl⟩
  · exact T_val rfl rfl rfl rfl rfl fun w3 t ht => ⟨_, run_field4 _ _ _ _ _ _ rfl w3, rfl⟩
  · exact T_val rfl rfl rfl rfl rfl fun w3 t ht => ⟨.int .i64 a.pos, run_load3 _ _ _ _ _ _ _ (by exact ht.spec 19 rfl) w3 (b_keep ht.1 c4), rfl⟩
  · refine T_call rfl rfl rfl rfl 30 fun w3 t ht => ⟨#[str [97, 116], .int .i64 a.pos], run_callone _ _ _ _ _ _ _ _ rfl rfl (by exact ht.spec 20 rfl) w3, (q3.out w3).mono ?_⟩
    rintro e w4 ⟨rfl, rfl⟩
    exact ⟨_, rfl, b_refl _, rfl, trivial, fun g hg => by cases hg⟩
  · exact T_val rfl rfl rfl rfl rfl fun w3 t ht => ⟨str ((((kn ++ p0) ++ p1) ++ p2) ++ p3), run_cat _ _ _ _ _ _ (((kn ++ p0) ++ p1) ++ p2) p3 (by first | omega | (simp only [List.length_append]; omega)) (by exact ht.spec 18 rfl) (by exact ht.spec 21 rfl) w3, rfl⟩
  · exact T_val rfl rfl rfl rfl rfl fun w3 t ht => ⟨_, run_field5 _ _ _ _ _ _ rfl w3, rfl⟩
  · exact T_val rfl rfl rfl rfl rfl fun w3 t ht => ⟨.int .i64 a.fault, run_load3 _ _ _ _ _ _ _ (by exact ht.spec 23 rfl) w3 (b_keep ht.1 c5), rfl⟩
  · refine T_call rfl rfl rfl rfl 30 fun w3 t ht => ⟨#[str [102, 97, 117, 108, 116], .int .i64 a.fault], run_callone _ _ _ _ _ _ _ _ rfl rfl (by exact ht.spec 24 rfl) w3, (q4.out w3).mono ?_⟩
    rintro e w4 ⟨rfl, rfl⟩
    exact ⟨_, rfl, b_refl _, rfl, trivial, fun g hg => by cases hg⟩
  · exact T_val rfl rfl rfl rfl rfl fun w3 t ht => ⟨str (((((kn ++ p0) ++ p1) ++ p2) ++ p3) ++ p4), run_cat _ _ _ _ _ _ ((((kn ++ p0) ++ p1) ++ p2) ++ p3) p4 (by first | omega | (simp only [List.length_append]; omega)) (by exact ht.spec 22 rfl) (by exact ht.spec 25 rfl) w3, rfl⟩
  · exact T_val rfl rfl rfl rfl rfl fun w3 t ht => ⟨_, run_field6 _ _ _ _ _ _ rfl w3, rfl⟩
  · exact T_val rfl rfl rfl rfl rfl fun w3 t ht => ⟨.int .i64 a.keep, run_load3 _ _ _ _ _ _ _ (by exact ht.spec 27 rfl) w3 (b_keep ht.1 c6), rfl⟩
  · refine T_call rfl rfl rfl rfl 30 fun w3 t ht => ⟨#[str [107, 101, 101, 112], .int .i64 a.keep], run_callone _ _ _ _ _ _ _ _ rfl rfl (by exact ht.spec 28 rfl) w3, (q5.out w3).mono ?_⟩
    rintro e w4 ⟨rfl, rfl⟩
    exact ⟨_, rfl, b_refl _, rfl, trivial, fun g hg => by cases hg⟩
  · exact T_val rfl rfl rfl rfl rfl fun w3 t ht => ⟨str ((((((kn ++ p0) ++ p1) ++ p2) ++ p3) ++ p4) ++ p5), run_cat _ _ _ _ _ _ (((((kn ++ p0) ++ p1) ++ p2) ++ p3) ++ p4) p5 (by first | omega | (simp only [List.length_append]; omega)) (by exact ht.spec 26 rfl) (by exact ht.spec 29 rfl) w3, rfl⟩
  · exact T_move (.tmp 33) rfl (.inr rfl) rfl rfl rfl fun _ _ _ => rfl
  · intro t w3 hb3 hs hh hap
    have g30 : t 30 = str ((((((kn ++ p0) ++ p1) ++ p2) ++ p3) ++ p4) ++ p5) := hs 30 (Nat.le_of_ble_eq_true rfl)
    have g31 : [t 30] = [t 31] := hs 31 (Nat.le_of_ble_eq_true rfl)
    have g31 : t 31 = str ((((((kn ++ p0) ++ p1) ++ p2) ++ p3) ++ p4) ++ p5) := by rw [← (List.cons.inj g31).1]; exact g30
    clear hs hh hap
    rw [show slots _ t = [(3, t 0), (4, t 1), (5, t 2), (6, t 3), (7, t 4), (8, t 5), (9, t 6), (10, t 7), (11, t 8), (12, t 9), (13, t 10), (14, t 11), (15, t 12), (16, t 13), (17, t 14), (18, t 15), (19, t 16), (20, t 17), (21, t 18), (22, t 19), (23, t 20), (24, t 21), (25, t 22), (26, t 23), (27, t 24), (28, t 25), (29, t 26), (30, t 27), (31, t 28), (32, t 29), (33, t 30), (2, t 31)] from rfl, g31]
    clear g30 g31
    simp only [puts, Act.put, List.setIfInBounds_toArray, List.set_cons_zero, List.set_cons_succ]
    go_wp2_with fail
    refine bodyPost_ret (v := str ((((((kn ++ p0) ++ p1) ++ p2) ++ p3) ++ p4) ++ p5)) (by unfold str; simp [results, Tryd.results18, go_sem]) rfl ⟨by rw [ht.out], hbW.trans (hb3.mono hbW.size)⟩
  -- the region's end
end Go.Proofs.YtlldjildedbjlaaDoor.ToldW
