/- A region of open order, by one relation over what has come up: each operation is shown once. No condition. -/
import Derived.Test.YtlldjildedbjlaaDoorCom
namespace Go.Proofs.YtlldjildedbjlaaDoor.Ord
open Go.RowKit Go.Proofs.YtlldjildedbjlaaDoor.Com
set_option linter.unusedVariables false
/-- i has come up too. -/
def upd (b : Nat → Bool) (i : Nat) : Nat → Bool := fun j => if j = i then true else b j
theorem upd_self (b : Nat → Bool) (i : Nat) : upd b i i = true := by simp [upd]
theorem upd_ne {b : Nat → Bool} {i j : Nat} (h : j ≠ i) : upd b i j = b j := by simp [upd, h]
/-- What i waits for. -/
def needs (ops : Array Oper) (i : Nat) : List Nat := match ops[i]? with
  | some o => (o.after.toList.filter fun e => Region.binds .any e).map fun e => e.on
  | none => []
/-- Every operation waits for earlier ones. -/
def back (ops : Array Oper) : Bool := (List.range ops.size).all fun i => (needs ops i).all fun j => decide (j < i)
/-- What waits for i. -/
def users (ops : Array Oper) (i : Nat) : List Nat := (List.range ops.size).filter fun d => (needs ops d).contains i
theorem mem_needs {ops : Array Oper} {i : Nat} {o : Oper} (h : ops[i]? = some o) {j : Nat} : j ∈ needs ops i ↔ ∃ e ∈ o.after, Region.binds .any e = true ∧ e.on = j := by
  unfold needs
  rw [h]
  simp only [List.mem_map, List.mem_filter, Array.mem_toList_iff]
  constructor
  · rintro ⟨e, ⟨h1, h2⟩, h3⟩; exact ⟨e, h1, h2, h3⟩
  · rintro ⟨e, h1, h2, h3⟩; exact ⟨e, ⟨h1, h2⟩, h3⟩
def cnt (b : Nat → Bool) : Nat → Nat
  | 0 => 0
  | n + 1 => cnt b n + if b n then 0 else 1
theorem cnt_none : ∀ n, cnt (fun _ => false) n = n
  | 0 => rfl
  | n + 1 => by unfold cnt; rw [cnt_none n]; rfl
theorem cnt_all {b : Nat → Bool} : ∀ {n}, cnt b n = 0 → ∀ j, j < n → b j = true
  | 0, _, j, h => by omega
  | n + 1, h, j, hj => by
    unfold cnt at h
    cases hb : b n
    · rw [hb] at h; simp at h
    · rw [hb] at h
      by_cases e : j = n
      · rw [e]; exact hb
      · exact cnt_all (by simpa using h) j (by omega)
theorem cnt_of {b : Nat → Bool} : ∀ {n}, (∀ j, j < n → b j = true) → cnt b n = 0
  | 0, _ => rfl
  | n + 1, h => by unfold cnt; rw [cnt_of fun j hj => h j (by omega), h n (by omega)]; rfl
theorem cnt_far {b : Nat → Bool} {i : Nat} : ∀ {n}, n ≤ i → cnt (upd b i) n = cnt b n
  | 0, _ => rfl
  | n + 1, h => by unfold cnt; rw [cnt_far (by omega), upd_ne (by omega)]
theorem cnt_upd {b : Nat → Bool} {i : Nat} (hb : b i = false) : ∀ {n}, i < n → cnt (upd b i) n + 1 = cnt b n
  | 0, h => by omega
  | n + 1, h => by
    unfold cnt
    by_cases e : n = i
    · subst e
      rw [cnt_far (Nat.le_refl _), upd_self, hb]
      rfl
    · rw [upd_ne e, ← cnt_upd hb (show i < n by omega)]
      omega
section
variable {P : Program} {ops : Array Oper} {Q : Exit → Act → World → Prop}
/-- The step of i, which waits for ns. -/
def StepI (P : Program) (ops : Array Oper) (Q : Exit → Act → World → Prop) (I : (Nat → Bool) → Act → World → Prop) (i : Nat) (ns us : List Nat) : Prop :=
  ∀ b a w, I b a w → b i = false → (∀ j ∈ ns, b j = true) → (∀ d ∈ us, b d = false) → ∃ oi, ops[i]? = some oi ∧ ∀ K : Act → World → Prop, (∀ a' w', I (upd b i) a' w' → K a' w') →
    if Region.wanted oi (yielded ops a.tmps) = true then Oper.wp P oi a w K Q else K (a.put oi.dst undef) w
def StepsI (P : Program) (ops : Array Oper) (Q : Exit → Act → World → Prop) (I : (Nat → Bool) → Act → World → Prop) : List (Nat × List Nat × List Nat) → Prop
  | [] => True
  | x :: r => StepI P ops Q I x.1 x.2.1 x.2.2 ∧ StepsI P ops Q I r
theorem StepsI.mem {I : (Nat → Bool) → Act → World → Prop} : ∀ {l : List (Nat × List Nat × List Nat)}, StepsI P ops Q I l → ∀ x ∈ l, StepI P ops Q I x.1 x.2.1 x.2.2
  | [], _, x, h => by cases h
  | y :: r, hs, x, h => by
    rcases List.mem_cons.1 h with rfl | h
    · exact hs.1
    · exact StepsI.mem hs.2 x h
theorem wpAny_inv (I : (Nat → Bool) → Act → World → Prop) (hB : back ops = true) (hs : ∀ i, i < ops.size → StepI P ops Q I i (needs ops i) (users ops i))
    (hend : ∀ b a w, (∀ j, j < ops.size → b j = true) → I b a w → Q .normal a w) :
    ∀ (m : Nat) (L : Array Bool) (b : Nat → Bool) (a : Act) (w : World), L.size = ops.size → (∀ j, j < ops.size → L[j]? = some (b j)) → cnt b ops.size = m → (∀ d, d < ops.size → b d = true → ∀ j ∈ needs ops d, b j = true) → I b a w → wpAny P .any ops Q m L a w := by
  have get : ∀ {L : Array Bool} {b : Nat → Bool} {j : Nat} {d : Bool}, (∀ j, j < ops.size → L[j]? = some (b j)) → j < ops.size → L.getD j d = b j := by
    intro L b j d h hj
    rw [Array.getD_eq_getD_getElem?, h j hj]
    rfl
  have bk : ∀ {i : Nat} {o : Oper}, ops[i]? = some o → ∀ e ∈ o.after, Region.binds .any e = true → e.on < i := by
    intro i o ho e he hb
    have hi := (Array.getElem?_eq_some_iff.1 ho).1
    have h1 := List.all_eq_true.1 hB i (List.mem_range.2 hi)
    have h2 := List.all_eq_true.1 h1 e.on ((mem_needs ho).2 ⟨e, he, hb, rfl⟩)
    simpa using h2
  have full : ∀ {L : Array Bool} {b : Nat → Bool}, (∀ j, j < ops.size → L[j]? = some (b j)) → Region.ready .any ops L = [] → ∀ k j, j < k → j < ops.size → b j = true := by
    intro L b hL hr k
    induction k with
    | zero => intro j hj; omega
    | succ k ih =>
      intro j hj hn
      by_cases hjk : j < k
      · exact ih j hjk hn
      · obtain rfl : j = k := by omega
        cases hb : b j with
        | true => rfl
        | false =>
          have ho : ops[j]? = some ops[j] := Array.getElem?_eq_getElem hn
          have : j ∈ Region.ready .any ops L := by
            refine mem_ready.2 ⟨by rw [get hL hn]; exact hb, _, ho, fun e he hbe => ?_⟩
            have h1 := bk ho e he hbe
            rw [get hL (by omega)]
            exact ih e.on h1 (by omega)
          rw [hr] at this
          cases this
  intro m
  induction m with
  | zero =>
    intro L b a w hsz hL hm hC hI
    have hall := cnt_all hm
    refine ⟨?_, hend b a w hall hI⟩
    refine List.eq_nil_iff_forall_not_mem.2 fun i hi => ?_
    obtain ⟨h1, o, ho, _⟩ := mem_ready.1 hi
    have hl := (Array.getElem?_eq_some_iff.1 ho).1
    rw [get hL hl, hall i hl] at h1
    cases h1
  | succ m ih =>
    intro L b a w hsz hL hm hC hI
    refine ⟨fun hr => ?_, fun i hi => ?_⟩
    · have := cnt_of (n := ops.size) fun j hj => full hL hr ops.size j hj hj
      omega
    · obtain ⟨h1, o, ho, h2⟩ := mem_ready.1 hi
      have hl := (Array.getElem?_eq_some_iff.1 ho).1
      rw [get hL hl] at h1
      obtain ⟨oi, hoi, hK⟩ := hs i hl b a w hI h1 (by
        intro j hj
        obtain ⟨e, he, hb, rfl⟩ := (mem_needs ho).1 hj
        have h3 := h2 e he hb
        have h4 := bk ho e he hb
        rwa [get hL (by omega)] at h3) (by
        intro d hd
        simp only [users, List.mem_filter, List.mem_range, List.contains_iff_mem] at hd
        cases hbd : b d with
        | false => rfl
        | true => have := hC d hd.1 hbd i hd.2; rw [h1] at this; cases this)
      have hfin := hK (wpAny P .any ops Q m (L.setIfInBounds i true)) fun a' w' hI' => by
        refine ih _ (upd b i) a' w' (by simpa using hsz) ?_ ?_ ?_ hI'
        · intro j hj
          by_cases e : j = i
          · subst e
            rw [upd_self, Array.getElem?_setIfInBounds_self_of_lt (by omega)]
          · rw [upd_ne e, Array.getElem?_setIfInBounds_ne (Ne.symm e)]
            exact hL j hj
        · have := cnt_upd h1 hl
          omega
        · intro d hd hbd j hj
          by_cases e : j = i
          · rw [e]; exact upd_self b i
          · rw [upd_ne e]
            by_cases e2 : d = i
            · subst e2
              obtain ⟨e3, he, hb, rfl⟩ := (mem_needs ho).1 hj
              have h3 := h2 e3 he hb
              have h4 := bk ho e3 he hb
              rwa [get hL (by omega)] at h3
            · rw [upd_ne e2] at hbd
              exact hC d hd hbd j hj
      unfold wpOp
      rw [hoi]
      simp only []
      split at hfin
      · rename_i hw
        rw [if_pos hw]
        exact .inl hfin
      · rename_i hw
        rw [if_neg hw]
        exact hfin
theorem wp_region_inv {id : Nat} {a : Act} {w : World} (tab : List (Nat × List Nat × List Nat)) (I : (Nat → Bool) → Act → World → Prop) (hm : P.follows .mixedOrders = true) (hB : back ops = true)
    (ht : (List.range ops.size).map (fun i => (i, needs ops i, users ops i)) = tab) (h0 : I (fun _ => false) a w.drew) (hs : StepsI P ops Q I tab)
    (hend : ∀ b a w, (∀ j, j < ops.size → b j = true) → I b a w → Q .normal a w) : (Code.region id ops true).wp P Q a w := by
  refine wp_region_any hm ?_
  refine wpAny_inv I hB (fun i hi => ?_) hend ops.size _ (fun _ => false) a _ (by simp) (fun j hj => by simp [hj]) (cnt_none _) (fun d hd h => by cases h) h0
  have := hs.mem (i, needs ops i, users ops i) (by rw [← ht]; exact List.mem_map.2 ⟨i, List.mem_range.2 hi, rfl⟩)
  exact this
theorem wp_region_inv_at {id : Nat} {a : Act} {w : World} (tab : List (Nat × List Nat × List Nat)) (I : Act → (Nat → Bool) → Act → World → Prop) (hm : P.follows .mixedOrders = true) (hB : back ops = true)
    (ht : (List.range ops.size).map (fun i => (i, needs ops i, users ops i)) = tab) (h0 : I a (fun _ => false) a w.drew) (hs : StepsI P ops Q (I a) tab)
    (hend : ∀ b a' w, (∀ j, j < ops.size → b j = true) → I a b a' w → Q .normal a' w) : (Code.region id ops true).wp P Q a w := wp_region_inv tab (I a) hm hB ht h0 hs hend
/-! One operation. -/
theorem value_ {oi : Oper} {N : Option Tmp} {a : Act} {w w1 : World} {v : Value} {K : Act → World → Prop} (hw : Region.wanted oi (yielded ops a.tmps) = true) (hN : oi.dst = N) (hrun : (execOp a.eval oi).run P w = .ok (.value v) w1)
    (h : K (a.put N v) w1) : if Region.wanted oi (yielded ops a.tmps) = true then Oper.wp P oi a w K Q else K (a.put oi.dst undef) w := by
  rw [if_pos hw]
  subst hN
  unfold Oper.wp
  rw [hrun]
  exact h
theorem skip_ {oi : Oper} {a : Act} {w w1 : World} {K : Act → World → Prop} (hw : Region.wanted oi (yielded ops a.tmps) = true) (hN : oi.dst = none) (hrun : (execOp a.eval oi).run P w = .ok .skip w1)
    (h : K a w1) : if Region.wanted oi (yielded ops a.tmps) = true then Oper.wp P oi a w K Q else K (a.put oi.dst undef) w := by
  rw [if_pos hw]
  unfold Oper.wp
  rw [hrun, Oper.upon_skip, hN]
  exact h
theorem call_ {oi : Oper} {N : Option Tmp} {a : Act} {w : World} {K : Act → World → Prop} (f : FuncId) (args : Array Value) (hw : Region.wanted oi (yielded ops a.tmps) = true) (hN : oi.dst = N) (hrun : (execOp a.eval oi).run P w = .ok (.enter f args) w)
    (h : Calls P f args w fun e w' => ∃ v, e = .returned v ∧ K (a.put N v) w') : if Region.wanted oi (yielded ops a.tmps) = true then Oper.wp P oi a w K Q else K (a.put oi.dst undef) w := by
  rw [if_pos hw]
  subst hN
  unfold Oper.wp
  rw [hrun, Oper.upon_enter]
  refine h.mono fun e w'' hh => ?_
  obtain ⟨v, rfl, hk⟩ := hh
  exact hk
theorem append_ {oi : Oper} {N : Option Tmp} {a : Act} {w : World} {K : Act → World → Prop} (hw : Region.wanted oi (yielded ops a.tmps) = true) (hN : oi.dst = N) (s x : Operand) (t : TypeId)
    (ho : oi.op = .call { callee := .builtin .append, args := #[s, x], argTypes := #[t, t] })
    (base : Nat) (e : TypeId) (i : TypeInfo) (z : Value) (size bytes : Nat) (ht : P.underlying t = some (.slice e)) (hi : P.info? e = some i) (hz : i.zero = some z)
    (hsize : i.size = size) (hby : i.bytes = bytes) (hzs : z.cells.size = size) (hsz : 0 < size)
    (v : Value) (n : Nat) (xs : List Value) (hs : a.eval s = v) (hown : w.ownsRow base e size v n xs)
    (A : Option Addr) (m c : Nat) (news : List Value) (hx : a.eval x = .slice A m c) (hr : Reads w size A m news) (h1 : ∀ u ∈ news, u.oneCell' = true)
    (h63 : n + m ≤ maxLen) (hbytes : (n + m) * bytes ≤ 140737488355328) (hbase : base ≤ w.heap.size)
    (h : ∀ v' w', w'.ownsRow base e size v' (n + m) (xs ++ news) → w.grownBy w' v.ownBlock → (v'.ownBlock = v.ownBlock ∨ v'.ownBlock = some w.heap.size) → K (a.put N v') w') :
    if Region.wanted oi (yielded ops a.tmps) = true then Oper.wp P oi a w K Q else K (a.put oi.dst undef) w := by
  rw [if_pos hw]
  subst hN
  exact wp_append_any w s x t ho base e i z size bytes ht hi hz hsize hby hzs hsz v n xs hs hown A m c news hx hr h1 h63 hbytes hbase h
/-! The frame: nothing but the slots ts has turned. -/
def Same (a0 : Act) (ts : List Tmp) (a : Act) : Prop := a.defers = a0.defers ∧ a.tmps.size = a0.tmps.size ∧ ∀ t, ts.contains t = false → a.tmps[t]? = a0.tmps[t]?
theorem Same.refl (a0 : Act) (ts : List Tmp) : Same a0 ts a0 := ⟨rfl, rfl, fun _ _ => rfl⟩
theorem Same.put {a0 a : Act} {ts : List Tmp} (h : Same a0 ts a) {t : Tmp} (ht : ts.contains t = true) (v : Value) : Same a0 ts (a.put (some t) v) := by
  refine ⟨h.1, by simpa [Act.put] using h.2.1, fun s hs => ?_⟩
  have hne : t ≠ s := fun e => by rw [e, hs] at ht; cases ht
  rw [← h.2.2 s hs]
  simp [Act.put, Array.getElem?_setIfInBounds_ne hne]
theorem at_put {a : Act} {t : Tmp} {v : Value} (h : t < a.tmps.size) : (a.put (some t) v).tmps[t]? = some v := by
  simp [Act.put, h]
theorem at_ne {a : Act} {s t : Tmp} {v : Value} (h : s ≠ t) : (a.put (some s) v).tmps[t]? = a.tmps[t]? := by
  simp [Act.put, Array.getElem?_setIfInBounds_ne h]
theorem eval_at {a : Act} {t : Tmp} {v : Value} (h : a.tmps[t]? = some v) : a.eval (.tmp t) = v := by simp [Act.eval, h]
/-- The frame at the end, written out. -/
def puts (a : Act) : List (Tmp × Value) → Act
  | [] => a
  | e :: r => puts (a.put (some e.1) e.2) r
theorem puts_size : ∀ (l : List (Tmp × Value)) (a : Act), (puts a l).tmps.size = a.tmps.size ∧ (puts a l).defers = a.defers
  | [], a => ⟨rfl, rfl⟩
  | e :: r, a => by
    have := puts_size r (a.put (some e.1) e.2)
    exact ⟨this.1.trans (by simp [Act.put]), this.2.trans rfl⟩
theorem puts_off {t : Tmp} : ∀ (l : List (Tmp × Value)) (a : Act), (l.map (·.1)).contains t = false → (puts a l).tmps[t]? = a.tmps[t]?
  | [], _, _ => rfl
  | e :: r, a, h => by
    simp only [List.map_cons, List.contains_cons, Bool.or_eq_false_iff] at h
    unfold puts
    rw [puts_off r _ h.2, at_ne (by intro e1; rw [e1] at h; simp at h)]
theorem puts_on {a0 : Act} : ∀ (l : List (Tmp × Value)) (a : Act), (l.map (·.1)).Nodup → (∀ e ∈ l, e.1 < a.tmps.size) → ∀ e ∈ l, (puts a l).tmps[e.1]? = some e.2
  | [], _, _, _, e, h => by cases h
  | x :: r, a, hn, hl, e, h => by
    rw [List.map_cons, List.nodup_cons] at hn
    unfold puts
    rcases List.mem_cons.1 h with rfl | h
    · rw [puts_off r _ (by simpa using hn.1)]
      exact at_put (hl e List.mem_cons_self)
    · exact puts_on (a0 := a0) r _ hn.2 (fun e he => by simpa [Act.put] using hl e (List.mem_cons_of_mem _ he)) e h
theorem Same.eq {a0 a : Act} {l : List (Tmp × Value)} (h : Same a0 (l.map (·.1)) a) (hn : (l.map (·.1)).Nodup) (hl : ∀ e ∈ l, e.1 < a0.tmps.size) (hv : ∀ e ∈ l, a.tmps[e.1]? = some e.2) : a = puts a0 l := by
  have ht : a.tmps = (puts a0 l).tmps := by
    apply Array.ext_getElem?
    intro t
    by_cases hc : (l.map (·.1)).contains t = true
    · obtain ⟨e, he, rfl⟩ := List.mem_map.1 (List.contains_iff_mem.1 hc)
      rw [hv e he, puts_on (a0 := a0) l a0 hn hl e he]
    · have hc : (l.map (·.1)).contains t = false := by simpa using hc
      rw [h.2.2 t hc, puts_off l a0 hc]
  have hd : a.defers = (puts a0 l).defers := h.1.trans (puts_size l a0).2.symm
  cases a
  cases hp : puts a0 l
  rw [hp] at ht hd
  simp_all
end
end Go.Proofs.YtlldjildedbjlaaDoor.Ord
