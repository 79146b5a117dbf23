/- Operations of a region of open order, each kind once. No condition. -/
import Derived.Test.YtlldjildedbjlaaDoorTok
namespace Go.Proofs.YtlldjildedbjlaaDoor.Tok
open Go.RowKit Go.Proofs.YtlldjildedbjlaaDoor.Com Go.Proofs.YtlldjildedbjlaaDoor.Ord
set_option linter.unusedVariables false
def noSel : Op → Bool
  | .select .. => false
  | _ => true
def own0 (W : World) (e : TypeId) (size n : Nat) (xs : List Value) : List Value → Value → Res := fun _ v => row W.heap.size e size v n xs
def none0 : List Value → Value → Res := fun _ _ => emp
def any0 : List Value → Value → Prop := fun _ _ => True
def is0 (X : Value) : List Value → Value → Prop := fun _ v => v = X
def cp0 : List Value → Value → Prop := fun l v => l = [v]
def ptr0 (e : TypeId) (cs : Array Value) : List Value → Value → Res := fun _ v => match v with
  | .pointer (some p) => blk p.block e cs
  | _ => emp
def isPtr0 : List Value → Value → Prop := fun _ v => ∃ g, v = .pointer (some ⟨g, 0, none⟩)
/-- A value that is known. -/
def tsIs (X : Value) : TS := ⟨[], [], is0 X, none0⟩
/-- A value that is known, of the values of others. -/
def tsOf (dn : List Nat) (X : Value) : TS := ⟨dn, [], is0 X, none0⟩
/-- Another's value. -/
def tsCp (j : Nat) : TS := ⟨[j], [], cp0, none0⟩
/-- A row of one's own, of no other. -/
def tsRow (W : World) (dn cons : List Nat) (e : TypeId) (size n : Nat) (xs : List Value) : TS := ⟨dn, cons, any0, own0 W e size n xs⟩
/-- A variable of one's own. -/
def tsPtr (dn cons : List Nat) (e : TypeId) (cs : Array Value) : TS := ⟨dn, cons, isPtr0, ptr0 e cs⟩
section
variable {P : Program} {ops : Array Oper} {Q : Exit → Act → World → Prop} {T : List TS} {a0 : Act} {W : World} {i : Nat} {oi : Oper}
theorem exec_look (hx : oi.op.operands.toList.all (okX ops i) = true) (hsel : noSel oi.op = true) {a : Act} {t : Nat → Value} (ha : ∀ x, okX ops i x = true → a.eval x = look ops i a0 t x) : execOp a.eval oi = execOp (look ops i a0 t) oi := by
  refine execOp_congr oi (fun cs b h => by rw [h] at hsel; cases hsel) fun x hxm => ha x ?_
  exact List.all_eq_true.1 hx x (Array.mem_toList_iff.2 hxm)
theorem eff_refl (w : World) (F : List Nat) : Eff w w F := ⟨Nat.le_refl _, fun _ _ _ => rfl⟩
theorem eff_below {w w1 : World} (h : Below w.heap.size w w1) (F : List Nat) : Eff w w1 F := ⟨h.size, fun g hg _ => h.block g hg⟩
/-- What the operations ahead of i owe it. -/
def Owed (T : List TS) (W : World) (i : Nat) (w : World) (t : Nat → Value) : Prop := Below W.heap.size W w ∧ (∀ j ∈ (tsAt T i).dn, specOf T t j) ∧ (∀ j ∈ (tsAt T i).cons, Has W w (resOf T t j))
theorem Owed.spec {w : World} {t : Nat → Value} (h : Owed T W i w t) (j : Nat) (hj : (tsAt T i).dn.contains j = true) : specOf T t j := h.2.1 j (List.contains_iff_mem.1 hj)
theorem Owed.has {w : World} {t : Nat → Value} (h : Owed T W i w t) (j : Nat) (hj : (tsAt T i).cons.contains j = true) : (resOf T t j).ok w := (h.2.2 j (List.contains_iff_mem.1 hj)).1
theorem T_val (hoi : ops[i]? = some oi) (hg : oi.guard = none) (hx : oi.op.operands.toList.all (okX ops i) = true) (hsel : noSel oi.op = true) (hres : (tsAt T i).res = none0)
    (h : ∀ w t, Owed T W i w t → ∃ v, (execOp (look ops i a0 t) oi).run P w = .ok (.value v) w ∧ (tsAt T i).spec (argsOf T t i) v) : StepT P ops Q T a0 W i := by
  intro a w t ha hs hb hc
  refine ⟨oi, hoi, hg, fun K hK => ?_⟩
  obtain ⟨v, hrun, hsp⟩ := h w t ⟨hb, hs, hc⟩
  unfold Oper.wp
  rw [exec_look hx hsel ha, hrun]
  refine hK v w hsp hb (eff_refl _ _) ?_ ?_
  · rw [hres]; trivial
  · rw [hres]; intro g hg; cases hg
theorem T_new (hoi : ops[i]? = some oi) (hg : oi.guard = none) (hx : oi.op.operands.toList.all (okX ops i) = true) (hsel : noSel oi.op = true)
    (h : ∀ w t, Owed T W i w t → ∃ v o, (execOp (look ops i a0 t) oi).run P w = .ok (.value v) (w.alloc o) ∧ (tsAt T i).spec (argsOf T t i) v ∧ ((tsAt T i).res (argsOf T t i) v).ok (w.alloc o) ∧ ∀ g ∈ ((tsAt T i).res (argsOf T t i) v).fp, g = w.heap.size) : StepT P ops Q T a0 W i := by
  intro a w t ha hs hb hc
  refine ⟨oi, hoi, hg, fun K hK => ?_⟩
  obtain ⟨v, o, hrun, hsp, hok, hfp⟩ := h w t ⟨hb, hs, hc⟩
  unfold Oper.wp
  rw [exec_look hx hsel ha, hrun]
  have hal := b_alloc (b_refl w) o
  exact hK v _ hsp (b_alloc hb o) (eff_below hal _) hok fun g hg => ⟨.inr (Nat.le_of_eq (hfp g hg).symm), by rw [hfp g hg]; simp⟩
theorem T_call (hoi : ops[i]? = some oi) (hg : oi.guard = none) (hx : oi.op.operands.toList.all (okX ops i) = true) (hsel : noSel oi.op = true) (f : FuncId)
    (h : ∀ w t, Owed T W i w t → ∃ args, (execOp (look ops i a0 t) oi).run P w = .ok (.enter f args) w ∧ Calls P f args w fun e w' => ∃ v, e = .returned v ∧ Below w.heap.size w w' ∧ (tsAt T i).spec (argsOf T t i) v ∧ ((tsAt T i).res (argsOf T t i) v).ok w' ∧
      ∀ g ∈ ((tsAt T i).res (argsOf T t i) v).fp, w.heap.size ≤ g ∧ g < w'.heap.size) : StepT P ops Q T a0 W i := by
  intro a w t ha hs hb hc
  refine ⟨oi, hoi, hg, fun K hK => ?_⟩
  obtain ⟨args, hrun, hcall⟩ := h w t ⟨hb, hs, hc⟩
  unfold Oper.wp
  rw [exec_look hx hsel ha, hrun, Oper.upon_enter]
  refine hcall.mono fun e w' hh => ?_
  obtain ⟨v, rfl, hbc, hsp, hok, hfp⟩ := hh
  exact hK v w' hsp (b_step hb hbc) (eff_below hbc _) hok fun g hg => ⟨.inr (hfp g hg).1, (hfp g hg).2⟩
/-- A move, an assignment. -/
theorem T_move (x : Operand) (hoi : ops[i]? = some oi) (ho : oi.op = .move x ∨ oi.op = .assign x) (hg : oi.guard = none) (hx : okX ops i x = true) (hres : (tsAt T i).res = none0)
    (h : ∀ w t, Owed T W i w t → (tsAt T i).spec (argsOf T t i) (look ops i a0 t x)) : StepT P ops Q T a0 W i := by
  refine T_val hoi hg ?_ ?_ hres fun w t ht => ⟨look ops i a0 t x, ?_, h w t ht⟩
  · rcases ho with ho | ho <;> (rw [ho]; simpa [Op.operands] using hx)
  · rcases ho with ho | ho <;> (rw [ho]; rfl)
  · rcases ho with ho | ho <;> (unfold execOp; rw [ho]; rfl)
/-- An empty literal. -/
theorem T_lit0 (ty e : TypeId) (size : Nat) (hoi : ops[i]? = some oi) (ho : oi.op = .buildSlice ty 0 #[]) (hg : oi.guard = none) (hty : P.underlying ty = some (.slice e)) (hi : (P.info? e).isSome = true)
    (hT : tsAt T i = tsRow W [] [] e size 0 []) : StepT P ops Q T a0 W i := by
  refine T_new hoi hg (by rw [ho]; simp [Op.operands]) (by rw [ho]; rfl) fun w t ht => ⟨.slice (some ⟨w.heap.size, 0, none⟩) 0 0, .cells #[] e, ?_, ?_⟩
  · obtain ⟨i0, hi0⟩ := Option.isSome_iff_exists.1 hi
    unfold execOp
    rw [ho]
    simp [Instr.buildSlice, run_underlying hty, sizeOf, typeInfo, hi0, Instr.fill, Array.range, go_sem]
    exact congrArg (fun c => w.alloc (Obj.cells c e)) (Array.eq_empty_of_size_eq_zero (by simp))
  · rw [hT]
    exact ⟨trivial, own_empty (Blk.new _ _ _) ht.1.size, fun g hg => by simpa [tsRow, own0, row, Value.ownBlock] using hg⟩
/-- A literal: the cells cs, by the run's equation. -/
theorem T_lit (e : TypeId) (size n : Nat) (cs : Array Value) (hoi : ops[i]? = some oi) (hg : oi.guard = none) (hx : oi.op.operands.toList.all (okX ops i) = true) (hsel : noSel oi.op = true)
    (dn cons : List Nat) (hT : tsAt T i = tsRow W dn cons e size n cs.toList) (hn : n ≤ maxLen) (hcs : cs.size = n * size)
    (h : ∀ w t, Owed T W i w t → (execOp (look ops i a0 t) oi).run P w = .ok (.value (.slice (some ⟨w.heap.size, 0, none⟩) n n)) (w.alloc (.cells cs e))) : StepT P ops Q T a0 W i := by
  refine T_new hoi hg hx hsel fun w t ht => ⟨.slice (some ⟨w.heap.size, 0, none⟩) n n, .cells cs e, h w t ht, ?_⟩
  rw [hT]
  exact ⟨trivial, World.ownsRow_lit w cs n ht.1.size hn hcs, fun g hg => by simpa [tsRow, own0, row, Value.ownBlock] using hg⟩
/-- A variable: the cells cs, by the run's equation. -/
theorem T_ptr (e : TypeId) (cs : Array Value) (hoi : ops[i]? = some oi) (hg : oi.guard = none) (hx : oi.op.operands.toList.all (okX ops i) = true) (hsel : noSel oi.op = true)
    (dn cons : List Nat) (hT : tsAt T i = tsPtr dn cons e cs)
    (h : ∀ w t, Owed T W i w t → (execOp (look ops i a0 t) oi).run P w = .ok (.value (.pointer (some ⟨w.heap.size, 0, none⟩))) (w.alloc (.cells cs e))) : StepT P ops Q T a0 W i := by
  refine T_new hoi hg hx hsel fun w t ht => ⟨.pointer (some ⟨w.heap.size, 0, none⟩), .cells cs e, h w t ht, ?_⟩
  rw [hT]
  exact ⟨⟨_, rfl⟩, Blk.new _ _ _, fun g hg => by simpa [tsPtr, ptr0, blk] using hg⟩
/-- An append onto a row of one's own. -/
theorem T_append (s x : Operand) (ty e : TypeId) (i0 : TypeInfo) (z : Value) (size bytes : Nat) (n m : Nat) (xs news : List Value) (j : Nat)
    (hoi : ops[i]? = some oi) (hg : oi.guard = none) (ho : oi.op = .call { callee := .builtin .append, args := #[s, x], argTypes := #[ty, ty] }) (hs : okX ops i s = true) (hx : okX ops i x = true)
    (hty : P.underlying ty = some (.slice e)) (hi : P.info? e = some i0) (hz : i0.zero = some z) (hsize : i0.size = size) (hby : i0.bytes = bytes) (hzs : z.cells.size = size) (hsz : 0 < size)
    (dn cons : List Nat) (hT : tsAt T i = tsRow W dn cons e size (n + m) (xs ++ news)) (hj : cons.contains j = true)
    (h63 : n + m ≤ maxLen) (hbytes : (n + m) * bytes ≤ 140737488355328) (h1 : ∀ u ∈ news, u.oneCell' = true)
    (hown : ∀ t, resOf T t j = row W.heap.size e size (look ops i a0 t s) n xs)
    (h : ∀ w t, Owed T W i w t → ∃ A c, look ops i a0 t x = .slice A m c ∧ Reads w size A m news) : StepT P ops Q T a0 W i := by
  intro a w t ha hsp hb hc
  refine ⟨oi, hoi, hg, fun K hK => ?_⟩
  obtain ⟨A, c, hax, hr⟩ := h w t ⟨hb, hsp, hc⟩
  have hjm : j ∈ (tsAt T i).cons := by rw [hT]; exact List.contains_iff_mem.1 hj
  have ho1 := hc j hjm
  rw [hown t] at ho1
  refine wp_append_any w s x ty ho W.heap.size e i0 z size bytes hty hi hz hsize hby hzs hsz (look ops i a0 t s) n xs (ha s hs) ho1.1 A m c news ((ha x hx).trans hax) hr h1 h63 hbytes hb.size fun v' w' hown' hg' hat => ?_
  have hF : ∀ k, (look ops i a0 t s).ownBlock = some k → k ∈ consFp T t i := by
    intro k hk
    refine List.mem_flatMap.2 ⟨j, hjm, ?_⟩
    rw [hown t]
    simp [row, hk]
  refine hK v' w' (by rw [hT]; trivial) (b_grown_own hb ho1.1 (Nat.le_refl _) hg') ⟨hg'.size, fun g hgl hgn => hg'.block g hgl fun e => hgn (hF g e.symm)⟩ (by rw [hT]; exact hown') fun g hgm => ?_
  rw [hT] at hgm
  have hgv : v'.ownBlock = some g := by simpa [tsRow, own0, row] using hgm
  refine ⟨?_, (hown'.lt g hgv).2⟩
  rcases hat with hat | hat
  · exact .inl (hF g (hat.symm.trans hgv))
  · rw [hat] at hgv
    have : w.heap.size = g := by simpa using hgv
    exact .inr (by omega)
end
theorem row_reads {W w : World} {e : TypeId} {size : Nat} {v : Value} {n : Nat} {xs : List Value} (h : (row W.heap.size e size v n xs).ok w) : ∃ A c, v = .slice A n c ∧ Reads w size A n xs := by
  obtain ⟨A, c, rfl⟩ := own_slice h
  exact ⟨A, c, rfl, Reads.of_own h⟩
end Go.Proofs.YtlldjildedbjlaaDoor.Tok
