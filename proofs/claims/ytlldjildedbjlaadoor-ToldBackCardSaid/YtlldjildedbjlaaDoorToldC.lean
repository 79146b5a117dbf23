/- Scripts as text, walked: an act is stored; a line's act. No condition. -/
import Derived.Test.YtlldjildedbjlaaDoorToldB
import Derived.Deep.DeepCutAuto
import Derived.Lib.SplitLaws
import Derived.Test.YtlldjildedbjlaaDoorBor
namespace Go.Proofs.YtlldjildedbjlaaDoor.ToldW
open Go.RowKit Go.Proofs.YtlldjildedbjlaaDoor.Com Go.Proofs.YtlldjildedbjlaaDoor.Ord Go.Proofs.YtlldjildedbjlaaDoor.Tok Go.Proofs.YtlldjildedbjlaaDoor.Bor Go.Proofs.YtlldjildedbjlaaDoor.ToldP
set_option linter.unusedVariables false
/-- The world with an act stored. -/
def setsA (w : World) (g : Nat) (b : DoA) : World :=
  ((((((w.setCell ⟨g, 0, none⟩ (.int .i64 b.kind)).setCell ⟨g, 1, none⟩ (.int .i64 b.who)).setCell ⟨g, 2, none⟩ (.int .i64 b.amount)).setCell ⟨g, 3, none⟩ (.int .u32 b.draw)).setCell ⟨g, 4, none⟩ (.int .i64 b.pos)).setCell ⟨g, 5, none⟩ (.int .i64 b.fault)).setCell ⟨g, 6, none⟩ (.int .i64 b.keep)
theorem setsA_blk {w : World} {g : Nat} {a : DoA} (b : DoA) (hB : Blk w g 38 (cellsA a)) : Blk (setsA w g b) g 38 (cellsA b) := by
  have h := (((((((hB.set_ 0 (.int .i64 b.kind)).set_ 1 (.int .i64 b.who)).set_ 2 (.int .i64 b.amount)).set_ 3 (.int .u32 b.draw)).set_ 4 (.int .i64 b.pos)).set_ 5 (.int .i64 b.fault)).set_ 6 (.int .i64 b.keep))
  have e : (((((((cellsA a).setIfInBounds 0 (.int .i64 b.kind)).setIfInBounds 1 (.int .i64 b.who)).setIfInBounds 2 (.int .i64 b.amount)).setIfInBounds 3 (.int .u32 b.draw)).setIfInBounds 4 (.int .i64 b.pos)).setIfInBounds 5 (.int .i64 b.fault)).setIfInBounds 6 (.int .i64 b.keep) = cellsA b := by
    simp [cellsA]
  rw [e] at h
  exact h
theorem setsA_size (w : World) (g : Nat) (b : DoA) : (setsA w g b).heap.size = w.heap.size := by simp [setsA]
theorem setsA_far {w : World} {g h : Nat} (b : DoA) (hn : h ≠ g) : (setsA w g b).heap[h]? = w.heap[h]? := by
  unfold setsA
  iterate 7 rw [Below.heap_setCell _ _ _ _ hn]
theorem setsA_below {W w : World} {g : Nat} (b : DoA) (h : Below W.heap.size W w) (hg : W.heap.size ≤ g) : Below W.heap.size W (setsA w g b) := by
  unfold setsA
  iterate 7 apply b_set _ hg
  exact h
theorem setsA_kx {X : List Nat} {W w : World} {g : Nat} (b : DoA) (h : KX X W w) (hg : g ∈ X ∨ W.heap.size ≤ g) : KX X W (setsA w g b) := by
  have h0 : Below 0 w (setsA w g b) := by
    unfold setsA
    iterate 7 apply Below.setCell _ (Nat.zero_le _)
    exact Below.refl _ _
  exact h.turn hg h0.os h0.tape h0.output (setsA_size _ _ _) fun k hk => setsA_far b hk
theorem run_storeA (ρ : Operand → Value) (p x : Operand) (pos : String) (af : Array Edge) (g : Nat) (a b : DoA) (w : World) (hp : ρ p = .pointer (some ⟨g, 0, none⟩)) (hx : ρ x = actV b) (hB : Blk w g 38 (cellsA a)) :
    (execOp ρ { dst := none, op := .store 38 p x, type := 0, pos := pos, after := af, guard := none }).run Tryd.prog w = .ok .skip (setsA w g b) := by
  unfold actV at hx
  unfold cellsA at hB
  have c0 := hB.cell 0
  have c1 := hB.cell 1
  have c2 := hB.cell 2
  have c3 := hB.cell 3
  have c4 := hB.cell 4
  have c5 := hB.cell 5
  have c6 := hB.cell 6
  have f0 := hB.frozen 0
  have f1 := hB.frozen 1
  have f2 := hB.frozen 2
  have f3 := hB.frozen 3
  have f4 := hB.frozen 4
  have f5 := hB.frozen 5
  have f6 := hB.frozen 6
  simp only [List.getElem?_toArray, List.getElem?_cons_zero, List.getElem?_cons_succ] at c0 c1 c2 c3 c4 c5 c6
  unfold setsA
  go_simp
section
variable {P : Program} {ops : Array Oper} {Q : Exit → Act → World → Prop} {T : List TS} {a0 : Act} {W : World} {i : Nat} {oi : Oper}
/-- A store into a variable of one's own. -/
theorem T_store (hoi : ops[i]? = some oi) (hg : oi.guard = none) (hd : oi.dst = none) (hx : oi.op.operands.toList.all (okX ops i) = true) (hsel : noSel oi.op = true)
    (h : ∀ w t, Owed T W i w t → ∃ v w1, (execOp (Tok.look ops i a0 t) oi).run P w = .ok .skip w1 ∧ (tsAt T i).spec (argsOf T t i) v ∧ Below W.heap.size W w1 ∧ Eff w w1 (consFp T t i) ∧ ((tsAt T i).res (argsOf T t i) v).ok w1 ∧
      ∀ g ∈ ((tsAt T i).res (argsOf T t i) v).fp, (g ∈ consFp T t i ∨ w.heap.size ≤ g) ∧ g < w1.heap.size) : StepT P ops Q T a0 W i := by
  intro a w t ha hs hb hc
  refine ⟨oi, hoi, hg, fun K hK => ?_⟩
  obtain ⟨v, w1, hrun, hsp, hbl, hef, hok, hfp⟩ := h w t ⟨hb, hs, hc⟩
  unfold Oper.wp
  rw [exec_look hx hsel ha, hrun]
  have := hK v w1 hsp hbl hef hok hfp
  rw [hd] at this
  simpa [Oper.upon, hd, Act.put] using this
end
/-- What a line's words are in memory. -/
theorem words_row (s : List UInt8) : (Lib.splitB ⟨#[32]⟩ 0 (Lib.countB ⟨s.toArray⟩ ⟨#[32]⟩) ⟨s.toArray⟩).map Value.string = (splitL 32 s).map str := by
  have h := split_data ⟨s.toArray⟩ ⟨#[32]⟩ 32 rfl
  rw [show (⟨s.toArray⟩ : ByteArray).data.toList = s by simp] at h
  rw [← h, List.map_map]
  refine List.map_congr_left fun b _ => ?_
  show Value.string b = Value.string ⟨b.data.toList.toArray⟩
  cases b
  simp
theorem splitL_ne_nil (c : UInt8) (l : List UInt8) : splitL c l ≠ [] := by
  rcases split_cases l c with h | ⟨w, r, e, h⟩
  · rw [splitL_miss l c h]; simp
  · rw [e, splitL_hit w r c h]; simp
theorem splitL_len (c : UInt8) : ∀ l : List UInt8, (splitL c l).length ≤ l.length + 1
  | [] => by simp [splitL]
  | b :: l => by
    have := splitL_len c l
    rw [splitL]
    split
    · simp; omega
    · split
      · simp
      · rename_i e; rw [e] at this; simp at this ⊢; omega
theorem splitL_mem (c : UInt8) : ∀ (l w : List UInt8), w ∈ splitL c l → w.length ≤ l.length
  | [], w, h => by simp [splitL] at h; simp [h]
  | b :: l, w, h => by
    rw [splitL] at h
    split at h
    · rcases List.mem_cons.1 h with rfl | h
      · simp
      · have := splitL_mem c l w h; simp; omega
    · split at h
      · rcases List.mem_singleton.1 h with rfl; simp
      · rename_i h1 t e
        rcases List.mem_cons.1 h with rfl | h
        · have := splitL_mem c l h1 (by rw [e]; exact List.mem_cons_self); simp; omega
        · have := splitL_mem c l w (by rw [e]; exact List.mem_cons_of_mem _ h); simp; omega
section
variable (ρ : Operand → Value) (d : Option Tmp) (pos : String) (af : Array Edge)
theorem run_kinds (h : ρ (.global 0) = .pointer (some ⟨0, 0, none⟩)) (w : World) :
    (execOp ρ { dst := d, op := .slice 60 (.global 0) none none none, type := 57, pos := pos, after := af, guard := none }).run Tryd.prog w = .ok (.value (.slice (some ⟨0, 0, none⟩) 10 10)) w := by
  go_simp
theorem run_names (h : ρ (.global 1) = .pointer (some ⟨1, 0, none⟩)) (w : World) :
    (execOp ρ { dst := d, op := .slice 61 (.global 1) none none none, type := 57, pos := pos, after := af, guard := none }).run Tryd.prog w = .ok (.value (.slice (some ⟨1, 0, none⟩) 6 6)) w := by
  go_simp
theorem run_first (x : Operand) (g n : Nat) (h : ρ x = .slice (some ⟨g, 0, none⟩) n n) (hk : ρ (.const (.int .i64 0)) = .int .i64 0) (hn : 0 < n) (w : World) :
    (execOp ρ { dst := d, op := .indexAddr 57 x (.const (.int .i64 0)), type := 0, pos := pos, after := af, guard := none }).run Tryd.prog w = .ok (.value (.pointer (some ⟨g, 0, none⟩))) w := by
  go_simp
theorem run_loadS (x : Operand) (g : Nat) (v : Value) (h : ρ x = .pointer (some ⟨g, 0, none⟩)) (w : World) (hc : w.cell? ⟨g, 0, none⟩ = some v) :
    (execOp ρ { dst := d, op := .load 9 x, type := 9, pos := pos, after := af, guard := none }).run Tryd.prog w = .ok (.value v) w := by
  go_simp
theorem run_callnamed (x y : Operand) (u v : Value) (hf : ρ (.func 22) = .func (.func 22) #[] #[]) (h : ρ x = u) (h2 : ρ y = v) (w : World) :
    (execOp ρ { dst := d, op := .call { callee := .value (.func 22), args := #[x, y], argTypes := #[57, 9] }, type := 3, pos := pos, after := af, guard := none }).run Tryd.prog w = .ok (.enter 22 #[u, v]) w := by
  go_simp
theorem run_buildA (x : Operand) (k : Int) (h : ρ x = .int .i64 k) (w : World) :
    (execOp ρ { dst := d, op := .build 38 #[(0, x)], type := 38, pos := pos, after := af, guard := none }).run Tryd.prog w = .ok (.value (actV (zeroA k))) w := by
  unfold actV zeroA
  go_simp
theorem run_loadA (x : Operand) (g : Nat) (a : DoA) (h : ρ x = .pointer (some ⟨g, 0, none⟩)) (w : World) (hB : Blk w g 38 (cellsA a)) :
    (execOp ρ { dst := d, op := .load 38 x, type := 38, pos := pos, after := af, guard := none }).run Tryd.prog w = .ok (.value (actV a)) w := by
  unfold cellsA at hB
  have c0 := hB.cell 0
  have c1 := hB.cell 1
  have c2 := hB.cell 2
  have c3 := hB.cell 3
  have c4 := hB.cell 4
  have c5 := hB.cell 5
  have c6 := hB.cell 6
  simp only [List.getElem?_toArray, List.getElem?_cons_zero, List.getElem?_cons_succ] at c0 c1 c2 c3 c4 c5 c6
  unfold actV
  go_simp
theorem run_calltext (x : Operand) (v : Value) (hf : ρ (.func 16) = .func (.func 16) #[] #[]) (h : ρ x = v) (w : World) :
    (execOp ρ { dst := d, op := .call { callee := .value (.func 16), args := #[x], argTypes := #[38] }, type := 9, pos := pos, after := af, guard := none }).run Tryd.prog w = .ok (.enter 16 #[v]) w := by
  go_simp
theorem run_eqS (x y : Operand) (a b : List UInt8) (h : ρ x = str a) (h2 : ρ y = str b) (w : World) :
    (execOp ρ { dst := d, op := .binOp .eql 9 x y 9, type := 4, pos := pos, after := af, guard := none }).run Tryd.prog w = .ok (.value (.bool (decide (a = b)))) w := by
  unfold str at h h2
  by_cases e : a = b
  · subst e
    go_simp
  · go_simp
theorem run_allocA (w : World) :
    (execOp ρ { dst := d, op := .alloc 38, type := 0, pos := pos, after := af, guard := none }).run Tryd.prog w = .ok (.value (.pointer (some ⟨w.heap.size, 0, none⟩))) (w.alloc (.cells (cellsA (zeroA 0)) 38)) := by
  unfold cellsA zeroA
  go_simp
end
theorem b_frozen {w w1 : World} (h : Below w.heap.size w w1) {g i : Nat} (hl : g < w.heap.size) (hf : w.frozen? ⟨g, i, none⟩ = false) : w1.frozen? ⟨g, i, none⟩ = false := ((b_cells h).2 g i hl).trans hf
theorem cut_len (x : List UInt8) : (Lib.cut x [61]).1.length ≤ x.length ∧ (Lib.cut x [61]).2.1.length ≤ x.length := by
  unfold Lib.cut
  split <;> simp <;> omega
theorem cut_calls (x : List UInt8) (hx : x.length ≤ 100000) (w : World) (hG : Glob w) :
    Calls Tryd.prog 20 #[str x, .string ⟨#[61]⟩] w fun e w' => e = .returned (.tuple #[str (Lib.cut x [61]).1, str (Lib.cut x [61]).2.1, .bool (Lib.cut x [61]).2.2]) ∧ ∃ n, w' = w.drewN n := by
  obtain ⟨m, hm⟩ := hG.most
  have h := Tryd.strings_Cut ⟨x.toArray⟩ ⟨#[61]⟩ m w (by show x.toArray.size < _; simp; omega) hm
  have e : (⟨x.toArray⟩ : ByteArray).data.toList = x := by simp
  have e2 : (⟨#[61]⟩ : ByteArray).data.toList = [61] := rfl
  rw [e, e2] at h
  exact h
/-- What strconv.ParseInt answers. -/
theorem parse_calls (x : List UInt8) (hx : x.length ≤ 100000) (w : World) (hG : Glob w) :
    Calls Tryd.prog 23 #[str x, .int .i64 10, .int .i64 64] w fun e w' => Below w.heap.size w w' ∧
      ((∃ v, Lib.parseIntB 64 x = .ok v ∧ e = .returned (.tuple #[.int .i64 v, .nilIface])) ∨ ((∀ v, Lib.parseIntB 64 x ≠ .ok v) ∧ ∃ v N, e = .returned (.tuple #[.int .i64 v, .iface 87 (.pointer (some ⟨N, 0, none⟩))]))) := by
  have e : (⟨x.toArray⟩ : ByteArray).data.toList = x := by simp
  have hsz : (⟨x.toArray⟩ : ByteArray).size = x.length := by show x.toArray.size = _; simp
  cases hp : Lib.parseIntB 64 x with
  | ok v =>
    refine (Tryd.strconv_ParseInt_10_at64_ok ⟨x.toArray⟩ (by omega) v (by rw [e]; exact hp) w).mono ?_
    rintro e w' ⟨rfl, h⟩
    refine ⟨?_, .inl ⟨v, rfl, rfl⟩⟩
    rcases h with rfl | ⟨t, rfl⟩
    · exact b_refl _
    · exact Lib.bytesWorld_below _ _ _
  | range =>
    obtain ⟨te, pe, hv⟩ := hG.far
    refine (Tryd.strconv_ParseInt_10_at64_range ⟨x.toArray⟩ (by omega) (by rw [e]; exact hp) _ w hv (.inr ⟨te, pe, rfl⟩)).mono ?_
    rintro e w' ⟨N, rfl, _, _, hb⟩
    exact ⟨hb, .inr ⟨(fun v h => by cases h), _, N, rfl⟩⟩
  | _ =>
    obtain ⟨te, pe, hv⟩ := hG.bad
    refine (Tryd.strconv_ParseInt_10_at64_syntax ⟨x.toArray⟩ (by omega) (by rw [e]; exact hp.trans rfl) _ w hv (.inr ⟨te, pe, rfl⟩)).mono ?_
    rintro e w' ⟨N, rfl, _, _, hb⟩
    exact ⟨hb, .inr ⟨(fun v h => by cases h), 0, N, rfl⟩⟩
/-- What a line's act answers. -/
def ActPost (s : List UInt8) (w : World) (e : Ending) (w' : World) : Prop := ∃ a b, e = .returned (.tuple #[actV a, .bool b]) ∧ (b = true → actP s = some a) ∧ (b = false → actP s = none) ∧ Below w.heap.size w w'
set_option maxRecDepth 100000 in
set_option maxHeartbeats 1000000 in
theorem act_calls (s : List UInt8) (hs : s.length ≤ 100000) (w : World) (hG : Glob w) :
    Calls Tryd.prog 13 #[str s] w (ActPost s w) := by
  obtain ⟨m, hm⟩ := hG.most
  have lm := World.block_lt_of_cell? w _ hm
  have hG0 := hG.below (b_alloc (b_refl w) (.cells #[.int .i64 0, .int .i64 0, .int .i64 0, .int .u32 0, .int .i64 0, .int .i64 0, .int .i64 0] 38))
  obtain ⟨m2, hm2⟩ := hG0.most
  have q1 := Lib.hid (Tryd.strings_Split ⟨s.toArray⟩ ⟨#[32]⟩ m2 _ (by show s.toArray.size < _; simp; omega) hm2 (by show 1 ≤ 1; omega))
  rw [words_row] at q1
  obtain ⟨n, hn⟩ : ∃ n, Lib.countB ⟨s.toArray⟩ ⟨#[32]⟩ + 1 = n := ⟨_, rfl⟩
  have hlen : (splitL 32 s).length = n := by
    rw [← hn]
    have := congrArg List.length (words_row s)
    simp only [List.length_map] at this
    rw [← this, Lib.splitB_all ⟨#[32]⟩ (by show 1 ≤ 1; omega) 0 _ _ rfl]
  rw [hn] at q1
  obtain ⟨w0, W, hW'⟩ : ∃ w0 W, splitL 32 s = w0 :: W := by
    rcases h : splitL 32 s with _ | ⟨a, b⟩
    · exact absurd h (splitL_ne_nil 32 s)
    · exact ⟨a, b, rfl⟩
  have hW := Lib.hid hW'
  rw [hW'] at hlen
  have hlen' := Lib.hid hlen
  obtain ⟨R, hR'⟩ : ∃ R, ((splitL 32 s).map str).toArray = R := ⟨_, rfl⟩
  have hRR := Lib.hid hR'
  rw [hR'] at q1
  clear hW' hR' hlen
  unfold str
  go_enter Tryd.func13, Tryd.ntmps13
  go_upto_region 2 with (go_at_call 21; refine q1.out.mono ?_; rintro e w1 ⟨rfl, rfl⟩)
  have hB2 := Blk.new w 38 (cellsA (zeroA 0))
  have hR := Blk.new (w.alloc (.cells (cellsA (zeroA 0)) 38)) 9 R
  replace hB2 := hB2.below (b_alloc (b_refl _) (.cells R 9))
  have hbW := b_alloc (b_alloc (b_refl w) (.cells (cellsA (zeroA 0)) 38)) (.cells R 9)
  rw [World.size_alloc] at hR
  have hz : w.heap.size + 2 ≤ ((w.alloc (.cells (cellsA (zeroA 0)) 38)).alloc (.cells R 9)).heap.size := by simp only [World.size_alloc]; omega
  have hz2 := Lib.hid hz
  clear hz
  clear q1 hm2 hG0 hm lm
  change Code.wp _ _ _ _ ((w.alloc (.cells (cellsA (zeroA 0)) 38)).alloc (.cells R 9))
  generalize (w.alloc (.cells (cellsA (zeroA 0)) 38)).alloc (.cells R 9) = w2 at *
  have hcell : ∀ i x, (w0 :: W)[i]? = some x → w2.cell? ⟨w.heap.size + 1, i, none⟩ = some (str x) := by
    intro i x hx
    rw [hR.cell i, ← hRR.out, hW.out, List.getElem?_toArray, List.getElem?_map, hx]
    rfl
  have hG2 := hG.below hbW
  clear hR hRR hn
  obtain ⟨k, hk⟩ : ∃ k, kindP s = k := ⟨_, rfl⟩
  have hk0 : namedP kindN w0 0 = k := by rw [← hk]; unfold kindP; rw [hW.out]; rfl
  obtain ⟨m0, hm0⟩ : ∃ m0, W.length = m0 := ⟨_, rfl⟩
  have hnm : n = m0 + 1 := by rw [← hlen'.out, ← hm0]; simp
  subst hnm
  have hn0 : 0 < m0 + 1 := by omega
  have hmB : m0 ≤ 100000 := by
    have := splitL_len 32 s
    rw [hW.out, List.length_cons] at this
    omega
  refine wp_region_tok [tsIs (.slice (some ⟨0, 0, none⟩) 10 10), tsIs (.slice (some ⟨w.heap.size + 1, 0, none⟩) (m0 + 1) (m0 + 1)), tsOf [1] (.pointer (some ⟨w.heap.size + 1, 0, none⟩)), tsOf [2] (str w0), tsOf [0, 3] (.int .i64 k), tsOf [4] (actV (zeroA k)), tsPtr [] [] 38 (cellsA (zeroA 0)), ⟨[6, 5], [6], any0, fun l _ => ptr0 38 (cellsA (zeroA k)) [] (l.headD undef)⟩]
    (by kernel_rfl) (by kernel_rfl) (by kernel_rfl) (by kernel_rfl) ⟨?_, ?_, ?_, ?_, ?_, ?_, ?_, ?_, trivial⟩ ?_
  · exact T_val rfl rfl rfl rfl rfl fun w3 t ht => ⟨.slice (some ⟨0, 0, none⟩) 10 10, run_kinds _ _ _ _ rfl w3, rfl⟩
  · exact T_move (.tmp 4) rfl (.inl rfl) rfl rfl rfl fun _ _ _ => rfl
  · refine T_val rfl rfl rfl rfl rfl fun w3 t ht => ⟨.pointer (some ⟨w.heap.size + 1, 0, none⟩), run_first _ _ _ _ _ _ (m0 + 1) (by exact ht.spec 1 rfl) rfl hn0 w3, rfl⟩
  · exact T_val rfl rfl rfl rfl rfl fun w3 t ht => ⟨str w0, run_loadS _ _ _ _ _ _ _ (by exact ht.spec 2 rfl) w3 (b_keep ht.1 (hcell 0 w0 rfl)), rfl⟩
  · refine T_call rfl rfl rfl rfl 22 fun w3 t ht => ⟨#[.slice (some ⟨0, 0, none⟩) 10 10, str w0], ?_, ?_⟩
    · exact run_callnamed _ _ _ _ _ _ (.slice (some ⟨0, 0, none⟩) 10 10) (str w0) rfl (by exact ht.spec 0 rfl) (by exact ht.spec 3 rfl) w3
    · refine (named_calls 0 0 10 kindN w0 w3 (by decide) (by decide) ?_).mono ?_
      · intro i x hx
        rw [Nat.zero_add]
        exact (hG2.below ht.1).kinds i x hx
      · rintro e w4 ⟨rfl, rfl⟩
        exact ⟨_, rfl, b_refl _, congrArg (Value.int .i64) hk0, trivial, fun g hg => by cases hg⟩
  · exact T_val rfl rfl rfl rfl rfl fun w3 t ht => ⟨actV (zeroA k), run_buildA _ _ _ _ _ _ (by exact ht.spec 4 rfl) w3, rfl⟩
  · refine T_ptr 38 (cellsA (zeroA 0)) rfl rfl rfl rfl [] [] rfl fun w3 t ht => ?_
    exact run_allocA _ _ _ _ w3
  · refine T_store rfl rfl rfl rfl rfl fun w3 t ht => ?_
    obtain ⟨g, hg⟩ : ∃ g, t 6 = .pointer (some ⟨g, 0, none⟩) := ht.spec 6 rfl
    have hh : Has w2 w3 (blk g 38 (cellsA (zeroA 0))) := by
      have := ht.2.2 6 List.mem_cons_self
      rw [show resOf _ t 6 = ptr0 38 (cellsA (zeroA 0)) [] (t 6) from rfl, hg] at this
      exact this
    have hc : (ptr0 38 (cellsA (zeroA 0)) [] (t 6)).fp ++ [] = [g] := by rw [hg]; rfl
    have hr7 : (ptr0 38 (cellsA (zeroA k)) [] (t 6)) = blk g 38 (cellsA (zeroA k)) := by rw [hg]; rfl
    have hgW := hh.2 g List.mem_cons_self
    refine ⟨undef, setsA w3 g (zeroA k), run_storeA _ _ _ _ _ g (zeroA 0) (zeroA k) w3 hg (by exact ht.spec 5 rfl) hh.1, trivial, setsA_below _ ht.1 hgW.1, ⟨Nat.le_of_eq (setsA_size _ _ _).symm, fun b hb hn => setsA_far _ (fun e => hn (by show b ∈ (ptr0 38 (cellsA (zeroA 0)) [] (t 6)).fp ++ []; rw [hc, e]; exact List.mem_cons_self))⟩, ?_, ?_⟩
    · show (ptr0 38 (cellsA (zeroA k)) [] (t 6)).ok _
      rw [hr7]
      exact setsA_blk _ hh.1
    · intro b hb
      have hb : b ∈ (ptr0 38 (cellsA (zeroA k)) [] (t 6)).fp := hb
      rw [hr7] at hb
      have hb : b = g := List.mem_singleton.1 hb
      rw [hb]
      exact ⟨.inl (by show g ∈ (ptr0 38 (cellsA (zeroA 0)) [] (t 6)).fp ++ []; rw [hc]; exact List.mem_cons_self), by rw [setsA_size]; exact hgW.2⟩
  · intro t w3 hb3 hs hh hap
    have g0 : t 0 = .slice (some ⟨0, 0, none⟩) 10 10 := hs 0 (Nat.le_of_ble_eq_true rfl)
    have g1 : t 1 = .slice (some ⟨w.heap.size + 1, 0, none⟩) (m0 + 1) (m0 + 1) := hs 1 (Nat.le_of_ble_eq_true rfl)
    have g2 : t 2 = .pointer (some ⟨w.heap.size + 1, 0, none⟩) := hs 2 (Nat.le_of_ble_eq_true rfl)
    have g3 : t 3 = str w0 := hs 3 (Nat.le_of_ble_eq_true rfl)
    have g4 : t 4 = .int .i64 k := hs 4 (Nat.le_of_ble_eq_true rfl)
    have g5 : t 5 = actV (zeroA k) := hs 5 (Nat.le_of_ble_eq_true rfl)
    obtain ⟨g, g6⟩ : ∃ g, t 6 = .pointer (some ⟨g, 0, none⟩) := hs 6 (Nat.le_of_ble_eq_true rfl)
    have hh7 := hh 7 (Nat.le_of_ble_eq_true rfl) rfl
    have hr7 : (ptr0 38 (cellsA (zeroA k)) [] (t 6)) = blk g 38 (cellsA (zeroA k)) := by rw [g6]; rfl
    have hg : Has w2 w3 (blk g 38 (cellsA (zeroA k))) := by rw [← hr7]; exact hh7
    clear hh hs hh7 hr7 hap
    have hBg : Blk w3 g 38 (cellsA (zeroA k)) := hg.1
    have hgl := (hg.2 g List.mem_cons_self).1
    replace hB2 := hB2.below hb3
    have hbW3 := b_step hbW hb3
    rw [show slots _ t = [(16, t 0), (17, t 1), (18, t 2), (19, t 3), (20, t 4), (21, t 5), (5, t 6)] from rfl, g0, g1, g2, g3, g4, g5, g6]
    clear g0 g1 g2 g3 g4 g5 g6 hg t
    simp only [puts, Act.put, List.setIfInBounds_toArray, List.set_cons_zero, List.set_cons_succ]
    unfold actV str at *
    have k0 := hB2.cell 0
    have k1 := hB2.cell 1
    have k2 := hB2.cell 2
    have k3 := hB2.cell 3
    have k4 := hB2.cell 4
    have k5 := hB2.cell 5
    have k6 := hB2.cell 6
    have f0 := hB2.frozen 0
    have f1 := hB2.frozen 1
    have f2 := hB2.frozen 2
    have f3 := hB2.frozen 3
    have f4 := hB2.frozen 4
    have f5 := hB2.frozen 5
    have f6 := hB2.frozen 6
    have c0 := hBg.cell 0
    have c1 := hBg.cell 1
    have c2 := hBg.cell 2
    have c3 := hBg.cell 3
    have c4 := hBg.cell 4
    have c5 := hBg.cell 5
    have c6 := hBg.cell 6
    unfold cellsA zeroA at k0 k1 k2 k3 k4 k5 k6 c0 c1 c2 c3 c4 c5 c6
    simp only [List.getElem?_toArray, List.getElem?_cons_zero, List.getElem?_cons_succ] at k0 k1 k2 k3 k4 k5 k6 c0 c1 c2 c3 c4 c5 c6
    by_cases hkn : k < 0
    · have e1 : decide (k < 0) = true := decide_eq_true hkn
      have hn : Hid (actP s = none) := Lib.hid (by unfold actP; rw [hk, if_pos hkn])
      have hB2' := Lib.hid hB2
      clear hkn hk hk0 hcell hB2 hBg hn0
      go_wp2_with fail
      have hB4 := setsA_blk (zeroA k) hB2'.out
      have hbW4 := setsA_below (zeroA k) hbW3 (Nat.le_refl _)
      change bodyPost _ _ _ _ _ (setsA w3 w.heap.size (zeroA k))
      generalize setsA w3 w.heap.size (zeroA k) = w4 at *
      clear k0 k1 k2 k3 k4 k5 k6 f0 f1 f2 f3 f4 f5 f6 c0 c1 c2 c3 c4 c5 c6
      unfold cellsA zeroA at hB4
      have k0 := hB4.cell 0
      have k1 := hB4.cell 1
      have k2 := hB4.cell 2
      have k3 := hB4.cell 3
      have k4 := hB4.cell 4
      have k5 := hB4.cell 5
      have k6 := hB4.cell 6
      simp only [List.getElem?_toArray, List.getElem?_cons_zero, List.getElem?_cons_succ] at k0 k1 k2 k3 k4 k5 k6
      refine bodyPost_ret (v := .tuple #[actV (zeroA k), .bool false]) (by
        unfold actV zeroA
        simp [results, Tryd.results13, go_sem, *]) rfl ⟨zeroA k, false, rfl, (by intro h; cases h), fun _ => hn.out, hbW4⟩
    · have e1 : decide (k < 0) = false := decide_eq_false hkn
      have hP : Hid (∀ a, foldW (zeroA k) W = a → actP s = a.bind fun a => if textA a = s then some a else none) := Lib.hid (by
        intro a ha
        unfold actP
        rw [hk, if_neg hkn, hW.out]
        show (match foldW (zeroA k) W with | none => none | some a => _) = _
        rw [ha]
        cases a <;> rfl)
      have hkb := kindP_bd s (by rw [hk]; exact hkn)
      rw [hk] at hkb
      have ht0 := Lib.hid (tell_zero (k := k) (by omega) (by omega))
      have hB2' := Lib.hid hB2
      have hWl : ∀ j (h : j < W.length), (W[j]).length ≤ 100000 := fun j h => Nat.le_trans (splitL_mem 32 s _ (by rw [hW.out]; exact List.mem_cons_of_mem _ (List.getElem_mem h))) hs
      clear hk hk0 hW hlen'
      go_upto_region 5 with (fail)
      clear k0 k1 k2 k3 k4 k5 k6 f0 f1 f2 f3 f4 f5 f6 c0 c1 c2 c3 c4 c5 c6 hB2 hbW3
      go_cut [27, 28, 29] (fun s27 s28 s29 wx => ∃ o : Nat, s27 = .slice (some ⟨w.heap.size + 1, o, none⟩) m0 m0 ∧ (0 < m0 → o = 1) ∧ s28 = .int .i64 m0 ∧ s29 = .int .i64 0 ∧ wx = w3)
      case first =>
        rcases Nat.eq_zero_or_pos m0 with h0 | h0
        · subst h0
          go_wp2_with fail
          go_meet
          case rel => exact ⟨0, rfl, fun h => absurd h (by omega), rfl, rfl, rfl⟩
        · have e2 : ¬ m0 = 0 := by omega
          clear h0
          go_wp2_with fail
          go_meet
          case rel => exact ⟨1, rfl, fun _ => rfl, rfl, rfl, rfl⟩
      case rest =>
      obtain ⟨o, rfl, ho, rfl, rfl, rfl⟩ := hcut
      go_wp2_with fail
      go_loopw [29] (fun i wr => ∃ (j : Nat) (a : DoA), i = .int .i64 j ∧ j ≤ m0 ∧ Hid (foldW (zeroA k) W = foldW a (W.drop j)) ∧ Hid (Tellable a) ∧ Blk wr g 38 (cellsA a) ∧ Blk wr w.heap.size 38 (cellsA (zeroA 0)) ∧ Below w2.heap.size w2 wr) (fun i _ => m0 - (intOf i).toNat)
      case atStart => exact ⟨0, zeroA k, rfl, by omega, Lib.hid rfl, ht0, hBg, hB2'.out, hb3⟩
      case round =>
        obtain ⟨j, a, rfl, hj, hq, hta, hBa, hBr, hbr⟩ := hrel
        by_cases hlt : j < m0
        · have hjW : j < W.length := by omega
          obtain rfl : o = 1 := ho (by omega)
          have hst : Hid (W.drop j = W[j] :: W.drop (j + 1)) := Lib.hid (List.drop_eq_getElem_cons hjW)
          have hxl := hWl j hjW
          have hx := hcell (j + 1) W[j] (by rw [List.getElem?_cons_succ]; exact List.getElem?_eq_getElem hjW)
          generalize W[j] = x at *
          have hfw : Hid (∀ b, wordP a x = some b → foldW (zeroA k) W = foldW b (W.drop (j + 1))) := Lib.hid (fun b hb => by rw [hq.out, hst.out, foldW, hb])
          have hfn : Hid (wordP a x = none → actP s = none) := Lib.hid (fun hb => by rw [hP.out none (by rw [hq.out, hst.out, foldW, hb])]; rfl)
          have hwd : Hid (wordP a x = if namedP nameN (Lib.cut x [61]).1 0 < 0 then none else match Lib.parseIntB 64 (Lib.cut x [61]).2.1 with
            | .ok v => if setOk (namedP nameN (Lib.cut x [61]).1 0).toNat v then some (setP a (namedP nameN (Lib.cut x [61]).1 0).toNat v) else none
            | _ => none) := Lib.hid rfl
          have hwt : Hid (∀ b, wordP a x = some b → Tellable b) := Lib.hid (fun b => word_tell hta.out)
          have hcl := cut_len x
          have hnl := named_lt (Lib.cut x [61]).1
          rw [show w.heap.size + 1 = w.heap.size + 1 from rfl, Nat.add_comm j 1] at hx
          replace hx := b_keep hbr hx
          have hGr := hG2.below hbr
          have q1 := cut_calls x hxl wr hGr
          generalize Lib.cut x [61] = cx at *
          have q2 := Lib.hid (fun w' (h : Glob w') => named_calls 1 0 6 nameN cx.1 w' (by decide) (by decide) (fun i l hi => by rw [Nat.zero_add]; exact h.names i l hi))
          generalize namedP nameN cx.1 0 = nk at *
          have q3 := Lib.hid (parse_calls cx.2.1 (by omega))
          replace q1 := Lib.hid q1
          clear hst hq hP ht0 hcell hB2' ho hWl hcl
          unfold str at *
          go_upto_region 11 with (first
            | (go_at_call 20; refine q1.out.mono ?_; rintro e w4 ⟨rfl, n4, rfl⟩)
            | (go_at_call 22; refine (q2.out _ (hGr.below (b_drewN (b_refl _) _))).mono ?_; rintro e w5 ⟨rfl, rfl⟩)
            | (go_at_call 23; refine (q3.out _ (hGr.below (b_drewN (b_refl _) _))).mono ?_; rintro e w6 ⟨hb6, ⟨v, hv, rfl⟩ | ⟨hv, v, N, rfl⟩⟩))
          -- the rounds
          · have hbr6 := b_step (b_drewN (b_refl wr) n4) hb6
            have hBa6 := hBa.below hbr6
            have hBr6 := hBr.below hbr6
            have hbW6 := b_step hbW (b_step hbr hbr6)
            clear hx hGr hb6
            by_cases hk0 : nk < 0
            · have d1 : decide (nk < 0) = true := decide_eq_true hk0
              have hn : Hid (actP s = none) := Lib.hid (hfn.out (by rw [hwd.out, if_pos hk0]))
              clear hwd hfn hfw hwt hv hk0
              clear q1 q2 q3
              have hBx := Lib.hid hBr6
              have k0 := hBr6.cell 0
              have k1 := hBr6.cell 1
              have k2 := hBr6.cell 2
              have k3 := hBr6.cell 3
              have k4 := hBr6.cell 4
              have k5 := hBr6.cell 5
              have k6 := hBr6.cell 6
              have f0 := hBr6.frozen 0
              have f1 := hBr6.frozen 1
              have f2 := hBr6.frozen 2
              have f3 := hBr6.frozen 3
              have f4 := hBr6.frozen 4
              have f5 := hBr6.frozen 5
              have f6 := hBr6.frozen 6
              have c0 := hBa6.cell 0
              have c1 := hBa6.cell 1
              have c2 := hBa6.cell 2
              have c3 := hBa6.cell 3
              have c4 := hBa6.cell 4
              have c5 := hBa6.cell 5
              have c6 := hBa6.cell 6
              unfold cellsA at c0 c1 c2 c3 c4 c5 c6
              unfold cellsA zeroA at k0 k1 k2 k3 k4 k5 k6
              simp only [List.getElem?_toArray, List.getElem?_cons_zero, List.getElem?_cons_succ] at k0 k1 k2 k3 k4 k5 k6 c0 c1 c2 c3 c4 c5 c6
              clear hBr6 hBa6 hBa hBr hnl
              go_wp2_with fail
              have hB4 := setsA_blk a hBx.out
              have hbW4 := setsA_below a hbW6 (Nat.le_refl _)
              change bodyPost _ _ _ _ _ (setsA w6 w.heap.size a)
              generalize setsA w6 w.heap.size a = w9 at *
              clear k0 k1 k2 k3 k4 k5 k6 f0 f1 f2 f3 f4 f5 f6 c0 c1 c2 c3 c4 c5 c6 hBx
              unfold cellsA at hB4
              have k0 := hB4.cell 0
              have k1 := hB4.cell 1
              have k2 := hB4.cell 2
              have k3 := hB4.cell 3
              have k4 := hB4.cell 4
              have k5 := hB4.cell 5
              have k6 := hB4.cell 6
              simp only [List.getElem?_toArray, List.getElem?_cons_zero, List.getElem?_cons_succ] at k0 k1 k2 k3 k4 k5 k6
              refine bodyPost_ret (v := .tuple #[actV a, .bool false]) (by
                unfold actV
                simp [results, Tryd.results13, go_sem, *]) rfl ⟨a, false, rfl, (by intro h; cases h), fun _ => hn.out, hbW4⟩
            · have d1 : decide (nk < 0) = false := decide_eq_false hk0
              obtain ⟨z, rfl⟩ : ∃ z : Nat, nk = z := ⟨nk.toNat, by omega⟩
              have hz : z < 6 := by omega
              have hzz : ((z : Nat) : Int).toNat = z := by omega
              have hiv : In64 v := by
                have hb := Lib.parseIntB_bounds hv
                have e : ((2 ^ (64 - 1) : Nat) : Int) = 9223372036854775808 := by decide
                exact ⟨by omega, by omega⟩
              have hwd2 : Hid (wordP a x = if setOk z v then some (setP a z v) else none) := Lib.hid (by rw [hwd.out, if_neg hk0, hv, hzz])
              have q4 := Lib.hid (set_calls z hz v hiv g a w6 hBa6)
              clear hwd hv hk0 hzz hnl hiv
              generalize setOk z v = so at *
              cases so
              · have hn : Hid (actP s = none) := Lib.hid (hfn.out (by rw [hwd2.out]; rfl))
                clear hwd2 hfn hfw hwt
                clear hBa6
                go_upto_region 12 with (go_at_call 24; refine q4.out.mono ?_; rintro e w7 ⟨rfl, u, b, rfl, hBa6, _⟩)
                clear q4
                have hBr7 := hBr6.far (p := ⟨g, z + 1, none⟩) (by intro h; have := hbW.size; have := hz2.out; have h : w.heap.size = g := h; omega) u
                have hbW7 := b_set (p := ⟨g, z + 1, none⟩) hbW6 (by have := hbW.size; show w.heap.size ≤ g; omega) u
                generalize w6.setCell ⟨g, z + 1, none⟩ u = w7 at *
                clear hBr6 hbW6 hbr6
                have hBr6 := hBr7
                have hbW6 := hbW7
                clear hBr7 hbW7
                clear q1 q2 q3
                have hBx := Lib.hid hBr6
                have k0 := hBr6.cell 0
                have k1 := hBr6.cell 1
                have k2 := hBr6.cell 2
                have k3 := hBr6.cell 3
                have k4 := hBr6.cell 4
                have k5 := hBr6.cell 5
                have k6 := hBr6.cell 6
                have f0 := hBr6.frozen 0
                have f1 := hBr6.frozen 1
                have f2 := hBr6.frozen 2
                have f3 := hBr6.frozen 3
                have f4 := hBr6.frozen 4
                have f5 := hBr6.frozen 5
                have f6 := hBr6.frozen 6
                have c0 := hBa6.cell 0
                have c1 := hBa6.cell 1
                have c2 := hBa6.cell 2
                have c3 := hBa6.cell 3
                have c4 := hBa6.cell 4
                have c5 := hBa6.cell 5
                have c6 := hBa6.cell 6
                unfold cellsA at c0 c1 c2 c3 c4 c5 c6
                unfold cellsA zeroA at k0 k1 k2 k3 k4 k5 k6
                simp only [List.getElem?_toArray, List.getElem?_cons_zero, List.getElem?_cons_succ] at k0 k1 k2 k3 k4 k5 k6 c0 c1 c2 c3 c4 c5 c6
                clear hBr6 hBa6 hBa hBr
                go_wp2_with fail
                have hB4 := setsA_blk b hBx.out
                have hbW4 := setsA_below b hbW6 (Nat.le_refl _)
                change bodyPost _ _ _ _ _ (setsA w7 w.heap.size b)
                generalize setsA w7 w.heap.size b = w9 at *
                clear k0 k1 k2 k3 k4 k5 k6 f0 f1 f2 f3 f4 f5 f6 c0 c1 c2 c3 c4 c5 c6 hBx
                unfold cellsA at hB4
                have k0 := hB4.cell 0
                have k1 := hB4.cell 1
                have k2 := hB4.cell 2
                have k3 := hB4.cell 3
                have k4 := hB4.cell 4
                have k5 := hB4.cell 5
                have k6 := hB4.cell 6
                simp only [List.getElem?_toArray, List.getElem?_cons_zero, List.getElem?_cons_succ] at k0 k1 k2 k3 k4 k5 k6
                refine bodyPost_ret (v := .tuple #[actV b, .bool false]) (by
                  unfold actV
                  simp [results, Tryd.results13, go_sem, *]) rfl ⟨b, false, rfl, (by intro h; cases h), fun _ => hn.out, hbW4⟩
              · have hfw2 := Lib.hid (hfw.out _ (by rw [hwd2.out]; rfl))
                have hwt2 := Lib.hid (hwt.out _ (by rw [hwd2.out]; rfl))
                clear hwd2 hfn hfw hwt hBa6
                go_wp2_with (go_at_call 24; refine q4.out.mono ?_; rintro e w7 ⟨rfl, u, b, rfl, hBa6, hbe⟩)
                obtain rfl := hbe trivial
                have hBr7 := hBr6.far (p := ⟨g, z + 1, none⟩) (by intro h; have := hbW.size; have := hz2.out; have h : w.heap.size = g := h; omega) u
                have hbW7 := b_set (p := ⟨g, z + 1, none⟩) (b_step hbr hbr6) (show w2.heap.size ≤ g from hgl) u
                go_roundw
                case rel => exact ⟨j + 1, setP a z v, by go_num, by omega, hfw2, hwt2, hBa6, hBr7, hbW7⟩
                case measure => simp [intOf]; omega
          · have hbr6 := b_step (b_drewN (b_refl wr) n4) hb6
            have hBa6 := hBa.below hbr6
            have hBr6 := hBr.below hbr6
            have hbW6 := b_step hbW (b_step hbr hbr6)
            clear hx hGr hb6
            by_cases hk0 : nk < 0
            · have d1 : decide (nk < 0) = true := decide_eq_true hk0
              have hn : Hid (actP s = none) := Lib.hid (hfn.out (by rw [hwd.out, if_pos hk0]))
              clear hwd hfn hfw hwt hv hk0
              clear q1 q2 q3
              have hBx := Lib.hid hBr6
              have k0 := hBr6.cell 0
              have k1 := hBr6.cell 1
              have k2 := hBr6.cell 2
              have k3 := hBr6.cell 3
              have k4 := hBr6.cell 4
              have k5 := hBr6.cell 5
              have k6 := hBr6.cell 6
              have f0 := hBr6.frozen 0
              have f1 := hBr6.frozen 1
              have f2 := hBr6.frozen 2
              have f3 := hBr6.frozen 3
              have f4 := hBr6.frozen 4
              have f5 := hBr6.frozen 5
              have f6 := hBr6.frozen 6
              have c0 := hBa6.cell 0
              have c1 := hBa6.cell 1
              have c2 := hBa6.cell 2
              have c3 := hBa6.cell 3
              have c4 := hBa6.cell 4
              have c5 := hBa6.cell 5
              have c6 := hBa6.cell 6
              unfold cellsA at c0 c1 c2 c3 c4 c5 c6
              unfold cellsA zeroA at k0 k1 k2 k3 k4 k5 k6
              simp only [List.getElem?_toArray, List.getElem?_cons_zero, List.getElem?_cons_succ] at k0 k1 k2 k3 k4 k5 k6 c0 c1 c2 c3 c4 c5 c6
              clear hBr6 hBa6 hBa hBr hnl
              go_wp2_with fail
              have hB4 := setsA_blk a hBx.out
              have hbW4 := setsA_below a hbW6 (Nat.le_refl _)
              change bodyPost _ _ _ _ _ (setsA w6 w.heap.size a)
              generalize setsA w6 w.heap.size a = w9 at *
              clear k0 k1 k2 k3 k4 k5 k6 f0 f1 f2 f3 f4 f5 f6 c0 c1 c2 c3 c4 c5 c6 hBx
              unfold cellsA at hB4
              have k0 := hB4.cell 0
              have k1 := hB4.cell 1
              have k2 := hB4.cell 2
              have k3 := hB4.cell 3
              have k4 := hB4.cell 4
              have k5 := hB4.cell 5
              have k6 := hB4.cell 6
              simp only [List.getElem?_toArray, List.getElem?_cons_zero, List.getElem?_cons_succ] at k0 k1 k2 k3 k4 k5 k6
              refine bodyPost_ret (v := .tuple #[actV a, .bool false]) (by
                unfold actV
                simp [results, Tryd.results13, go_sem, *]) rfl ⟨a, false, rfl, (by intro h; cases h), fun _ => hn.out, hbW4⟩
            · have d1 : decide (nk < 0) = false := decide_eq_false hk0
              have hn : Hid (actP s = none) := Lib.hid (hfn.out (by
                rw [hwd.out, if_neg hk0]))
              clear hwd hfn hfw hwt hv hk0
              clear q1 q2 q3
              have hBx := Lib.hid hBr6
              have k0 := hBr6.cell 0
              have k1 := hBr6.cell 1
              have k2 := hBr6.cell 2
              have k3 := hBr6.cell 3
              have k4 := hBr6.cell 4
              have k5 := hBr6.cell 5
              have k6 := hBr6.cell 6
              have f0 := hBr6.frozen 0
              have f1 := hBr6.frozen 1
              have f2 := hBr6.frozen 2
              have f3 := hBr6.frozen 3
              have f4 := hBr6.frozen 4
              have f5 := hBr6.frozen 5
              have f6 := hBr6.frozen 6
              have c0 := hBa6.cell 0
              have c1 := hBa6.cell 1
              have c2 := hBa6.cell 2
              have c3 := hBa6.cell 3
              have c4 := hBa6.cell 4
              have c5 := hBa6.cell 5
              have c6 := hBa6.cell 6
              unfold cellsA at c0 c1 c2 c3 c4 c5 c6
              unfold cellsA zeroA at k0 k1 k2 k3 k4 k5 k6
              simp only [List.getElem?_toArray, List.getElem?_cons_zero, List.getElem?_cons_succ] at k0 k1 k2 k3 k4 k5 k6 c0 c1 c2 c3 c4 c5 c6
              clear hBr6 hBa6 hBa hBr hnl
              go_wp2_with fail
              have hB4 := setsA_blk a hBx.out
              have hbW4 := setsA_below a hbW6 (Nat.le_refl _)
              change bodyPost _ _ _ _ _ (setsA w6 w.heap.size a)
              generalize setsA w6 w.heap.size a = w9 at *
              clear k0 k1 k2 k3 k4 k5 k6 f0 f1 f2 f3 f4 f5 f6 c0 c1 c2 c3 c4 c5 c6 hBx
              unfold cellsA at hB4
              have k0 := hB4.cell 0
              have k1 := hB4.cell 1
              have k2 := hB4.cell 2
              have k3 := hB4.cell 3
              have k4 := hB4.cell 4
              have k5 := hB4.cell 5
              have k6 := hB4.cell 6
              simp only [List.getElem?_toArray, List.getElem?_cons_zero, List.getElem?_cons_succ] at k0 k1 k2 k3 k4 k5 k6
              refine bodyPost_ret (v := .tuple #[actV a, .bool false]) (by
                unfold actV
                simp [results, Tryd.results13, go_sem, *]) rfl ⟨a, false, rfl, (by intro h; cases h), fun _ => hn.out, hbW4⟩
          -- the rounds end
        · obtain rfl : j = m0 := by omega
          have hfin : Hid (actP s = if textA a = s then some a else none) := Lib.hid (by
            rw [hP.out (some a) (by rw [hq.out, List.drop_of_length_le (by omega)]; rfl)]; rfl)
          have q1 := Lib.hid (text_calls a hta.out)
          have hGr := hG2.below hbr
          have hbW5 := b_step hbW hbr
          clear hlt hP hq ht0 hcell hB2' ho
          go_upto_region 14 with (fail)
          have hgw : g ∉ [w.heap.size] := by
            intro h
            have h := List.mem_singleton.1 h
            have := hbW.size
            have := hz2.out
            omega
          refine wp_region_bor [tsIs (actV a), tsIs (actV a), tsOf [1] (str (textA a)), tsIs (str s), tsOf [2, 3] (.bool (decide (textA a = s))), ⟨[0], [7], any0, fun _ _ => blk w.heap.size 38 (cellsA a)⟩, tsCp 4, ⟨[], [], any0, fun _ _ => blk w.heap.size 38 (cellsA (zeroA 0))⟩]
            (X := [w.heap.size]) (by kernel_rfl) (by kernel_rfl) (by kernel_rfl) (by kernel_rfl) ?_ ?_ ⟨?_, ?_, ?_, ?_, ?_, ?_, ?_, trivial⟩ ?_
          · intro p h1 h2
            have : p = 7 := by
              have h1 : 7 ≤ p := h1
              have h2 : p < 8 := h2
              omega
            subst this
            exact ⟨hBr, fun b hb => ⟨.inr hb, by rw [List.mem_singleton.1 hb]; exact hBr.lt⟩⟩
          · intro p q h1 h2 h3 h4 hpq
            have h1 : 7 ≤ p := h1
            have h2 : p < 8 := h2
            have h3 : 7 ≤ q := h3
            have h4 : q < 8 := h4
            omega
          · exact B_val rfl rfl rfl rfl rfl fun w3 t ht => ⟨actV a, run_loadA _ _ _ _ _ g a rfl w3 (ht.1.blk hBa hgw), rfl⟩
          · exact B_val rfl rfl rfl rfl rfl fun w3 t ht => ⟨actV a, run_loadA _ _ _ _ _ g a rfl w3 (ht.1.blk hBa hgw), rfl⟩
          · refine B_call rfl rfl rfl rfl 16 fun w3 t ht => ⟨#[actV a], run_calltext _ _ _ _ _ _ rfl (by exact ht.spec 1 rfl) w3, ?_⟩
            refine (text_calls a hta.out w3 (hG.below (hbW5.trans (ht.1.below hbW5.size (fun b hb => by rw [List.mem_singleton.1 hb]; exact Nat.le_refl _))))).mono ?_
            rintro e w4 ⟨rfl, hb⟩
            exact ⟨_, rfl, hb, rfl, trivial, fun g hg => by cases hg⟩
          · exact B_move (.tmp 0) rfl (.inl rfl) rfl rfl rfl fun _ _ _ => rfl
          · exact B_val rfl rfl rfl rfl rfl fun w3 t ht => ⟨.bool (decide (textA a = s)), run_eqS _ _ _ _ _ _ _ _ (by exact ht.spec 2 rfl) (by exact ht.spec 3 rfl) w3, rfl⟩
          · refine B_store rfl rfl rfl rfl rfl fun w3 t ht => ?_
            have hh : HasX [w.heap.size] wr w3 (blk w.heap.size 38 (cellsA (zeroA 0))) := ht.has 7 rfl
            refine ⟨undef, setsA w3 w.heap.size a, run_storeA _ _ _ _ _ w.heap.size (zeroA 0) a w3 rfl (by exact ht.spec 0 rfl) hh.1, trivial, setsA_kx _ ht.1 (.inl List.mem_cons_self), ⟨Nat.le_of_eq (setsA_size _ _ _).symm, fun b hb hn => setsA_far _ (fun e => hn ?_)⟩, setsA_blk _ hh.1, ?_⟩
            · rw [e]; exact List.mem_cons_self
            · intro b hb
              exact ⟨.inl hb, by rw [setsA_size]; exact (hh.2 b hb).2⟩
          · exact B_move (.tmp 65) rfl (.inr rfl) rfl rfl rfl fun _ _ _ => rfl
          · intro t w3 hb3 hs hh hap
            have g0 : t 0 = actV a := hs 0 (Nat.le_of_ble_eq_true rfl)
            have g1 : t 1 = actV a := hs 1 (Nat.le_of_ble_eq_true rfl)
            have g2 : t 2 = str (textA a) := hs 2 (Nat.le_of_ble_eq_true rfl)
            have g3 : t 3 = str s := hs 3 (Nat.le_of_ble_eq_true rfl)
            have g4 : t 4 = .bool (decide (textA a = s)) := hs 4 (Nat.le_of_ble_eq_true rfl)
            have g6 : [t 4] = [t 6] := hs 6 (Nat.le_of_ble_eq_true rfl)
            have hB4 : Blk w3 w.heap.size 38 (cellsA a) := (hh 5 (Nat.le_of_ble_eq_true rfl) rfl).1
            have hbW4 := hbW5.trans (hb3.below hbW5.size (fun b hb => by rw [List.mem_singleton.1 hb]; exact Nat.le_refl _))
            rw [show slots _ t = [(61, t 0), (62, t 1), (63, t 2), (64, t 3), (65, t 4), (3, t 6)] from rfl, ← (List.cons.inj g6).1, g0, g1, g2, g3, g4]
            clear g0 g1 g2 g3 g4 g6 hs hh hap hb3
            simp only [puts, Act.put, List.setIfInBounds_toArray, List.set_cons_zero, List.set_cons_succ]
            unfold cellsA at hB4
            have k0 := hB4.cell 0
            have k1 := hB4.cell 1
            have k2 := hB4.cell 2
            have k3 := hB4.cell 3
            have k4 := hB4.cell 4
            have k5 := hB4.cell 5
            have k6 := hB4.cell 6
            simp only [List.getElem?_toArray, List.getElem?_cons_zero, List.getElem?_cons_succ] at k0 k1 k2 k3 k4 k5 k6
            go_wp2_with fail
            refine bodyPost_ret (v := .tuple #[actV a, .bool (decide (textA a = s))]) (by
              unfold actV
              simp [results, Tryd.results13, go_sem, *]) rfl ⟨a, decide (textA a = s), rfl, fun h => by rw [hfin.out, if_pos (of_decide_eq_true h)], fun h => by rw [hfin.out, if_neg (of_decide_eq_false h)], hbW4⟩
end Go.Proofs.YtlldjildedbjlaaDoor.ToldW
