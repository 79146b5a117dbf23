/- The told laws: arguments opened to acts; what the listed variables hold. No condition but the list. -/
import Derived.Test.YtlldjildedbjlaaDoorToldI
import Derived.Test.YtlldjildedbjlaaDoorFlat
import Derived.Test.YtlldjildedbjlaaDoorRows
import Derived.Lib.LaidTab
import Derived.Shelf.Vars
namespace Go.Proofs.YtlldjildedbjlaaDoor.ToldW
open Go.ChangeShapes Go.WideShapes Go.Deep Go.RowKit Go.Joins Go.Proofs.YtlldjildedbjlaaDoor.Com Go.Proofs.YtlldjildedbjlaaDoor.Ord Go.Proofs.YtlldjildedbjlaaDoor.ToldP
set_option linter.unusedVariables false
/-- Rows of a slice. -/
theorem open_rows {H : Type} {enc : TypeId × Value → H} {P : Program} {t e : TypeId} {m : Nat} {W : World} {A : Option Addr} {n c : Nat} {d : DataW H} {p : List MemPlace} (hm : 0 < m) (ht : P.underlying t = some (.slice e)) (hC : P.cellsOf e = m) (Q : List Value → Prop)
    (hQ : ∀ {fuel : Nat} {cs : List Value} {x : DataW H × List MemPlace}, DataW.trod enc P W 0 (fun _ => true) true fuel e cs = some x → Q cs ∧ cs.length = m)
    (h : DataW.Trod enc P W 0 (fun _ => true) true t (.slice A n c) d p) :
    ∃ css : List (List Value), css.length = n ∧ (∀ cs ∈ css, Q cs) ∧ Reads W m A n css.flatten ∧ (n = 0 ∨ ∃ es sp, d = .slice es sp ∧ es.length = n) := by
  obtain ⟨fuel, hf⟩ := h
  rcases open_slice ht hf with ⟨hcs, _⟩ | ⟨a, len, cap, mm, nn, D, Pl, hcs, hb, hl, hmx, hmm, hx, hi⟩
  · simp [Value.cells] at hcs
    obtain ⟨rfl, rfl, rfl⟩ := hcs
    exact ⟨[], rfl, by simp, Reads.none_, .inl rfl⟩
  · simp [Value.cells] at hcs
    obtain ⟨rfl, rfl, rfl⟩ := hcs
    simp only [if_true] at hmm
    subst hmm
    have each : ∀ i, i < mm → ∃ cs : List Value, cs.length = m ∧ Q cs ∧ ∀ j u, cs[j]? = some u → W.cell? (a.add (i * m + j)) = some u := fun i him => by
      obtain ⟨cs', hc, ht'⟩ := hi i him
      rw [hC] at hc
      obtain ⟨h1, h2⟩ := hQ ht'
      obtain ⟨_, hcl, hat⟩ := World.cells?_some hc
      refine ⟨cs', h2, h1, fun j u hj => ?_⟩
      have hjl : j < m := by
        have := (List.getElem?_eq_some_iff.1 hj).1
        omega
      rw [← Go.Deep.add_add, hat j hjl, hj]
    have pick : ∃ f : Nat → List Value, ∀ i, i < mm → (f i).length = m ∧ Q (f i) ∧ ∀ j u, (f i)[j]? = some u → W.cell? (a.add (i * m + j)) = some u :=
      ⟨fun i => if h : i < mm then Classical.choose (each i h) else [], fun i hi => by simp only [dif_pos hi]; exact Classical.choose_spec (each i hi)⟩
    obtain ⟨f, hfs⟩ := pick
    have hlen : ∀ k, k ≤ mm → ((List.range k).map f).flatten.length = k * m := by
      intro k
      induction k with
      | zero => intro _; simp
      | succ k ih =>
        intro hk
        rw [List.range_succ, List.map_append, List.flatten_append, List.length_append, ih (by omega)]
        simp [(hfs k (by omega)).1, Nat.succ_mul]
    have hcell : ∀ k, k ≤ mm → ∀ j u, (((List.range k).map f).flatten)[j]? = some u → W.cell? (a.add j) = some u := by
      intro k
      induction k with
      | zero => intro _ j u hj; simp at hj
      | succ k ih =>
        intro hk j u hj
        rw [List.range_succ, List.map_append, List.flatten_append] at hj
        by_cases hjk : j < k * m
        · rw [List.getElem?_append_left (by rw [hlen k (by omega)]; exact hjk)] at hj
          exact ih (by omega) j u hj
        · rw [List.getElem?_append_right (by rw [hlen k (by omega)]; omega), hlen k (by omega)] at hj
          have := (hfs k (by omega)).2.2 (j - k * m) u (by simpa using hj)
          rwa [show k * m + (j - k * m) = j by omega] at this
    refine ⟨(List.range n).map f, by simp, fun cs hz => ?_, ⟨?_, fun _ => ⟨a, rfl, hcell n hl⟩⟩, .inr ⟨(List.range n).map D, _, congrArg Prod.fst hx, by simp⟩⟩
    · obtain ⟨i, hi', rfl⟩ := List.mem_map.1 hz
      exact (hfs i (by have := List.mem_range.1 hi'; omega)).2.1
    · exact hlen n hl
theorem flat_act : Flat.Flat Tryd.prog 38 [.i64, .i64, .i64, .u32, .i64, .i64, .i64] := by
  refine Flat.flat_struct _ Tryd.underlying38 [[.i64], [.i64], [.i64], [.u32], [.i64], [.i64], [.i64]] (by kernel_rfl) fun i ks h => ?_
  match i, h with
  | 0, h => cases h; exact ⟨_, rfl, Flat.flat_int Tryd.underlying3, by kernel_rfl, rfl⟩
  | 1, h => cases h; exact ⟨_, rfl, Flat.flat_int Tryd.underlying3, by kernel_rfl, rfl⟩
  | 2, h => cases h; exact ⟨_, rfl, Flat.flat_int Tryd.underlying2, by kernel_rfl, rfl⟩
  | 3, h => cases h; exact ⟨_, rfl, Flat.flat_int Tryd.underlying36, by kernel_rfl, rfl⟩
  | 4, h => cases h; exact ⟨_, rfl, Flat.flat_int Tryd.underlying3, by kernel_rfl, rfl⟩
  | 5, h => cases h; exact ⟨_, rfl, Flat.flat_int Tryd.underlying3, by kernel_rfl, rfl⟩
  | 6, h => cases h; exact ⟨_, rfl, Flat.flat_int Tryd.underlying3, by kernel_rfl, rfl⟩
theorem wf64 {z : Int} (h : (Lit.int .i64 z).wf = true) : ToldP.In64 z := by
  have : IntKind.min .i64 ≤ z ∧ z ≤ IntKind.max .i64 := by simpa [Lit.wf] using h
  exact this
theorem wf32 {z : Int} (h : (Lit.int .u32 z).wf = true) : 0 ≤ z ∧ z < 4294967296 := by
  have : IntKind.min .u32 ≤ z ∧ z ≤ IntKind.max .u32 := by simpa [Lit.wf] using h
  have h1 : IntKind.min .u32 = 0 := by decide
  have h2 : IntKind.max .u32 = 4294967295 := by decide
  omega
theorem act_of {H : Type} {enc : TypeId × Value → H} {W : World} {fuel : Nat} {cs : List Value} {x : DataW H × List MemPlace} (h : DataW.trod enc Tryd.prog W 0 (fun _ => true) true fuel 38 cs = some x) :
    (∃ a : DoA, cs = (cellsA a).toList ∧ Arg a) ∧ cs.length = 7 := by
  obtain ⟨hl, hj⟩ := flat_act h
  obtain ⟨z0, e0, f0⟩ := hj 0 .i64 rfl
  obtain ⟨z1, e1, f1⟩ := hj 1 .i64 rfl
  obtain ⟨z2, e2, f2⟩ := hj 2 .i64 rfl
  obtain ⟨z3, e3, f3⟩ := hj 3 .u32 rfl
  obtain ⟨z4, e4, f4⟩ := hj 4 .i64 rfl
  obtain ⟨z5, e5, f5⟩ := hj 5 .i64 rfl
  obtain ⟨z6, e6, f6⟩ := hj 6 .i64 rfl
  have hl7 : cs.length = 7 := hl
  refine ⟨⟨⟨z0, z1, z2, z3, z4, z5, z6⟩, ?_, wf64 f0, (wf32 f3).1, (wf32 f3).2, ?_⟩, hl7⟩
  · apply List.ext_getElem?
    intro j
    rcases Nat.lt_or_ge j 7 with h7 | h7
    · have hc : j = 0 ∨ j = 1 ∨ j = 2 ∨ j = 3 ∨ j = 4 ∨ j = 5 ∨ j = 6 := by omega
      rcases hc with rfl | rfl | rfl | rfl | rfl | rfl | rfl
      · exact e0
      · exact e1
      · exact e2
      · exact e3
      · exact e4
      · exact e5
      · exact e6
    · rw [List.getElem?_eq_none (by omega), List.getElem?_eq_none (by show 7 ≤ j; exact h7)]
  · intro k hk
    have hc : k = 0 ∨ k = 1 ∨ k = 2 ∨ k = 3 ∨ k = 4 ∨ k = 5 := by omega
    rcases hc with rfl | rfl | rfl | rfl | rfl | rfl
    · exact wf64 f1
    · exact wf64 f2
    · exact ⟨by have := (wf32 f3).1; show _ ≤ z3; omega, by have := (wf32 f3).2; show z3 ≤ _; omega⟩
    · exact wf64 f4
    · exact wf64 f5
    · exact wf64 f6
theorem acts_of : ∀ (css : List (List Value)), (∀ cs ∈ css, ∃ a : DoA, cs = (cellsA a).toList ∧ Arg a) → ∃ l : List DoA, css.flatten = cellsAs l ∧ l.length = css.length ∧ ∀ a ∈ l, Arg a
  | [], _ => ⟨[], rfl, rfl, by simp⟩
  | cs :: r, h => by
    obtain ⟨l, hl, hn, ha⟩ := acts_of r fun x hx => h x (List.mem_cons_of_mem _ hx)
    obtain ⟨a, e, hA⟩ := h cs List.mem_cons_self
    refine ⟨a :: l, ?_, by simp [hn], ?_⟩
    · rw [List.flatten_cons, hl, e]
      simp [cellsAs]
    · intro b hb
      rcases List.mem_cons.1 hb with rfl | hb
      · exact hA
      · exact ha b hb
theorem open_acts {H : Type} {enc : TypeId × Value → H} {W : World} {A : Option Addr} {n c : Nat} {d : DataW H} {p : List MemPlace}
    (h : DataW.Trod enc Tryd.prog W 0 (fun _ => true) true 23 (.slice A n c) d p) : ∃ l : List DoA, l.length = n ∧ (∀ a ∈ l, Arg a) ∧ Reads W 7 A n (cellsAs l) ∧ (n = 0 ∨ ∃ es sp, d = .slice es sp ∧ es.length = n) := by
  obtain ⟨css, h1, h2, h3, h4⟩ := open_rows (by omega) Tryd.underlying23 (by kernel_rfl) (fun cs => ∃ a : DoA, cs = (cellsA a).toList ∧ Arg a) act_of h
  obtain ⟨l, hl, hn, ha⟩ := acts_of css h2
  rw [hl] at h3
  exact ⟨l, by omega, ha, h3, h4⟩
theorem acts_few {H : Type} {ts : List TypeId} {ds : List (DataW H)} {d : DataW H} {n j : Nat} (h : (DataW.weightsEach Tryd.prog ts ds).all (· ≤ reachBytes) = true) (ht : ts[j]? = some 23) (hd : ds[j]? = some d) (hn : n = 0 ∨ ∃ es sp, d = .slice es sp ∧ es.length = n) : n ≤ 140737488355328 := by
  rcases hn with rfl | ⟨es, sp, rfl, rfl⟩
  · omega
  · have h1 := sized_slice h ht hd Tryd.underlying23
    have h2 := reachBytes_lt
    have h3 : Tryd.prog.bytesOf 38 = 56 := by kernel_rfl
    rw [h3] at h1
    omega
/-! The listed variables. -/
theorem cells_of_strs {H : Type} {enc : TypeId × Value → H} {P : Program} {w : World} {base : Nat} {sp : Nat → Bool} {held : Bool} {fuel : Nat} {t e : TypeId} {n : Nat} {cs : List Value} {ls : List (List UInt8)} {p : List MemPlace}
    (ht : P.underlying t = some (.array n e)) (he : P.underlying e = some .string) (hce : P.cellsOf e = 1) (hct : P.cellsOf t = n)
    (h : DataW.trod enc P w base sp held fuel t cs = some (.agg (ls.map fun l => .lit (.string l)), p)) : cs = ls.map str := by
  cases fuel with
  | zero => simp [DataW.trod] at h
  | succ fuel =>
    simp only [DataW.trod, ht, hce, hct, Nat.mul_one] at h
    split at h
    · rename_i hl
      obtain ⟨xs, hm, hx⟩ := Option.map_eq_some_iff.1 h
      have hxs : xs.map (·.1) = ls.map fun l => (DataW.lit (.string l) : DataW H) := by
        have := congrArg Prod.fst hx
        simpa using this
      have hxl : xs.length = n := by simpa using Lib.mapM_length hm
      have hzl : ls.length = n := by
        have := congrArg List.length hxs
        simp at this
        omega
      apply List.ext_getElem?
      intro i
      by_cases hi : i < n
      · obtain ⟨b, hb, hf⟩ := Lib.mapM_at hm i i (by simp [hi])
        obtain ⟨z, hc, rfl, _⟩ := DataW.trod_string he hf
        have h1 : cs[i]? = some (.string z) := by
          have := congrArg (·[0]?) hc
          simpa [List.getElem?_take, List.getElem?_drop] using this
        have h2 : (xs.map (·.1))[i]? = some (DataW.lit (.string z.data.toList) : DataW H) := by simp [hb]
        rw [hxs] at h2
        simp only [List.getElem?_map, Option.map_eq_some_iff, DataW.lit.injEq, Lit.string.injEq] at h2
        obtain ⟨z', hz', rfl⟩ := h2
        rw [h1, List.getElem?_map, hz']
        simp [str]
      · rw [List.getElem?_eq_none (by omega), List.getElem?_eq_none (by simp; omega)]
    · cases h
theorem laid_var {P : Program} {w : World} : ∀ (l : List (String × DataW Unit)) (ps : List MemPlace), DataW.LaidVars P w l ps → ∀ n d, (n, d) ∈ l → ∃ g t cs fuel p, P.globalNamed n = some g ∧ (P.globals[g]?).map (·.type) = some t ∧ w.var? P n = some cs ∧ DataW.trod (fun _ => ()) P w 0 (fun _ => true) false fuel t cs.toList = some (d, p)
  | [], _, _, n, d, hm => by cases hm
  | (n0, d0) :: r, ps, h, n, d, hm => by
    obtain ⟨g, t, cs, fuel, p, q, h1, h2, h3, h4, h5, _⟩ := h
    rcases List.mem_cons.1 hm with e | hm
    · cases e; exact ⟨g, t, cs, fuel, p, h1, h2, h3, h4⟩
    · exact laid_var r q h5 n d hm
def laidT : List (String × DataW Unit) := Rows.toldParsesRow.laid
theorem laid_plain {W : World} (h : laidMetH Tryd.prog laidT W) : laidMet Tryd.prog laidT W := by
  have e : (laidT.filter fun x => x.2.handleName?.isSome) = [] := by kernel_rfl
  unfold laidMetH at h
  rw [e] at h
  exact h
theorem iface_of {P : Program} {w : World} {fuel : Nat} {t : TypeId} {ms : Array (String × TypeId)} {cs : List Value} {nm : String} {d : DataW Unit} {p : List MemPlace} (ht : P.underlying t = some (.interface ms))
    (h : DataW.trod (fun _ => ()) P w 0 (fun _ => true) false fuel t cs = some (.iface nm d, p)) : ∃ te pe, cs = [.iface te pe] := by
  cases fuel with
  | zero => simp [DataW.trod] at h
  | succ fuel =>
    simp only [DataW.trod, ht] at h
    split at h <;> first | (cases h; done) | exact ⟨_, _, rfl⟩ | skip
    all_goals simp_all
theorem glob_of {W : World} (h : laidMetH Tryd.prog laidT W) (hs : W.ShapedOpen Tryd.prog) : Glob W := by
  obtain ⟨ps, hv, _⟩ := laid_plain h
  refine ⟨?_, ?_, ?_, ?_, ?_, ?_⟩
  · obtain ⟨g, t, cs, fuel, p, h1, h2, h3, h4⟩ := laid_var _ _ hv "coffers/told.kinds" _ (List.mem_of_getElem? (i := 6) rfl)
    obtain rfl := Option.some.inj ((show Tryd.prog.globalNamed "coffers/told.kinds" = some 0 by kernel_rfl).symm.trans h1)
    obtain rfl := Option.some.inj ((show (Tryd.prog.globals[(0 : Nat)]?).map (·.type) = some 60 by kernel_rfl).symm.trans h2)
    have hc := cells_of_strs (ls := kindN) Tryd.underlying60 Tryd.underlying9 (by kernel_rfl) (by kernel_rfl) h4
    intro i l hi
    have := World.var?_cell h1 h3 i
    rw [this, ← Array.getElem?_toList, hc, List.getElem?_map, hi]
    rfl
  · obtain ⟨g, t, cs, fuel, p, h1, h2, h3, h4⟩ := laid_var _ _ hv "coffers/told.numbers" _ (List.mem_of_getElem? (i := 7) rfl)
    obtain rfl := Option.some.inj ((show Tryd.prog.globalNamed "coffers/told.numbers" = some 1 by kernel_rfl).symm.trans h1)
    obtain rfl := Option.some.inj ((show (Tryd.prog.globals[(1 : Nat)]?).map (·.type) = some 61 by kernel_rfl).symm.trans h2)
    have hc := cells_of_strs (ls := nameN) Tryd.underlying61 Tryd.underlying9 (by kernel_rfl) (by kernel_rfl) h4
    intro i l hi
    have := World.var?_cell h1 h3 i
    rw [this, ← Array.getElem?_toList, hc, List.getElem?_map, hi]
    rfl
  · exact cell_of_shapedOpen_int hs (show 2 < Tryd.prog.globals.size from of_decide_eq_true (by kernel_rfl)) (zero := #[.int .i64 0]) (t := 3) (by kernel_rfl) rfl (by kernel_rfl) (by kernel_rfl) Tryd.underlying3
  · obtain ⟨g, t, cs, fuel, p, h1, h2, h3, h4⟩ := laid_var _ _ hv "strconv.ErrSyntax" _ (List.mem_of_getElem? (i := 5) rfl)
    obtain rfl := Option.some.inj ((show Tryd.prog.globalNamed "strconv.ErrSyntax" = some 3 by kernel_rfl).symm.trans h1)
    obtain rfl := Option.some.inj ((show (Tryd.prog.globals[(3 : Nat)]?).map (·.type) = some 49 by kernel_rfl).symm.trans h2)
    obtain ⟨te, pe, hc⟩ := iface_of Tryd.underlying49 h4
    exact ⟨te, pe, by rw [World.var?_cell h1 h3 0, ← Array.getElem?_toList, hc]; rfl⟩
  · obtain ⟨g, t, cs, fuel, p, h1, h2, h3, h4⟩ := laid_var _ _ hv "strconv.ErrRange" _ (List.mem_of_getElem? (i := 4) rfl)
    obtain rfl := Option.some.inj ((show Tryd.prog.globalNamed "strconv.ErrRange" = some 4 by kernel_rfl).symm.trans h1)
    obtain rfl := Option.some.inj ((show (Tryd.prog.globals[(4 : Nat)]?).map (·.type) = some 49 by kernel_rfl).symm.trans h2)
    obtain ⟨te, pe, hc⟩ := iface_of Tryd.underlying49 h4
    exact ⟨te, pe, by rw [World.var?_cell h1 h3 0, ← Array.getElem?_toList, hc]; rfl⟩
  · obtain ⟨g, t, cs, fuel, p, h1, h2, h3, h4⟩ := laid_var _ _ hv "internal/strconv.uint64pow10" _ (List.mem_of_getElem? (i := 2) rfl)
    obtain rfl := Option.some.inj ((show Tryd.prog.globalNamed "internal/strconv.uint64pow10" = some 5 by kernel_rfl).symm.trans h1)
    obtain rfl := Option.some.inj ((show (Tryd.prog.globals[(5 : Nat)]?).map (·.type) = some 107 by kernel_rfl).symm.trans h2)
    have hc := Lib.cells_of_tab (zs := Lib.pow10Tab) (k := .u64) Tryd.underlying107 Tryd.underlying76 (by kernel_rfl) (by kernel_rfl) h4
    unfold Lib.TabIs
    rw [h3, ← hc]
end Go.Proofs.YtlldjildedbjlaaDoor.ToldW
