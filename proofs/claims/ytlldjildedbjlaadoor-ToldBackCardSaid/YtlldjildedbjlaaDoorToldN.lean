/- told.Print, walked. No condition. -/
import Derived.Test.YtlldjildedbjlaaDoorToldM
namespace Go.Proofs.YtlldjildedbjlaaDoor.ToldW
open Go.RowKit Go.Proofs.YtlldjildedbjlaaDoor.Com Go.Proofs.YtlldjildedbjlaaDoor.Ord Go.Proofs.YtlldjildedbjlaaDoor.ToldP
set_option linter.unusedVariables false
def kindOK (a : DoA) : Bool := decide (1 ≤ a.kind) && decide (a.kind ≤ 9)
def textsA (l : List DoA) : List UInt8 := (l.map fun a => textA a ++ [10]).flatten
def printP (l : List DoA) : List UInt8 × Nat := if 400 < l.length then ([], 1) else if l.all kindOK then (textsA l, 0) else ([], 1)
/-- What an argument may be. -/
structure Arg (a : DoA) : Prop where
  kind : In64 a.kind
  d0 : 0 ≤ a.draw
  d1 : a.draw < 4294967296
  all : ∀ k, k < 6 → In64 ((vals a).getD k 0)
theorem cellsAs_at (l : List DoA) (k : Nat) (h : k < l.length) (i : Nat) (hi : i < 7) : (cellsAs l)[k * 7 + i]? = (cellsA l[k])[i]? := by
  induction l generalizing k with
  | nil => simp at h
  | cons a l ih =>
    have e : cellsAs (a :: l) = (cellsA a).toList ++ cellsAs l := by simp [cellsAs]
    have e7 : (cellsA a).toList.length = 7 := rfl
    rw [e]
    cases k with
    | zero =>
      rw [List.getElem?_append_left (by omega)]
      simp
    | succ k =>
      rw [List.getElem?_append_right (by omega), e7, show (k + 1) * 7 + i - 7 = k * 7 + i by omega, ih k (by simp at h; omega)]
      simp
theorem Reads.seven {w : World} {n : Nat} {ad : Addr} {l : List DoA} (h : Reads w 7 (some ad) n (cellsAs l)) {k : Nat} (hk : k < n) (hl : k < l.length) :
    ∀ i u, (cellsA l[k])[i]? = some u → w.cell? (if i = 0 then ad.add (k * 7) else ⟨(ad.add (k * 7)).block, (ad.add (k * 7)).off + i, none⟩) = some u := by
  obtain ⟨ad', e, hc⟩ := h.2 (by omega)
  injection e with e
  subst e
  intro i u hu
  have hi : i < 7 := (Array.getElem?_eq_some_iff.1 hu).1
  have h0 := hc (k * 7 + i) u (by rw [cellsAs_at l k hl i hi]; exact hu)
  have e2 : ∀ j, ad.add (k * 7 + (j + 1)) = ⟨(ad.add (k * 7)).block, (ad.add (k * 7)).off + (j + 1), none⟩ := by
    intro j
    induction j with
    | zero => rw [add_succ]
    | succ j ih => rw [show k * 7 + (j + 1 + 1) = (k * 7 + (j + 1)) + 1 by omega, add_succ, ih]; simp [Nat.add_assoc]
  cases i with
  | zero => simpa using h0
  | succ j => rw [if_neg (by omega), ← e2]; exact h0
theorem builder_below {B b : Nat} {bs : List Value} {w w' : World} (h : Lib.IsBuilderF 47 5 B b bs w) (hb : Below w.heap.size w w') : Lib.IsBuilderF 47 5 B b bs w' := by
  have key : ∀ p, Lib.BuilderAtF 47 5 B b p bs w → Lib.BuilderAtF 47 5 B b p bs w' := by
    rintro p ⟨h1, v, h2, h3, h4⟩
    refine ⟨h1, v, (hb.block b (Array.getElem?_eq_some_iff.1 h2).1).trans h2, ?_, h4⟩
    refine ⟨h3.1, h3.2.imp_right ?_⟩
    rintro ⟨g, cap, cur, fz, e, hg, hh, hr⟩
    exact ⟨g, cap, cur, fz, e, hg, (hb.block g (Array.getElem?_eq_some_iff.1 hh).1).trans hh, hr⟩
  exact h.imp (key _) (key _)
theorem builder_new (w : World) : Lib.IsBuilderF 47 5 w.heap.size w.heap.size [] (w.alloc (.cells #[.pointer none, .slice none 0 0] 47)) :=
  .inl ⟨Nat.le_refl _, .slice none 0 0, heap_alloc_new w _, World.ownsRowF_nil _ _ _ _, by simp [Value.ownBlock]⟩
theorem text_len {a : DoA} (h : ∀ k, k < 6 → In64 ((vals a).getD k 0)) : (textA a).length ≤ 181 := by
  unfold textA
  rw [List.length_append]
  have h1 := kind_len a.kind.toNat
  have h2 := parts_len a h 6 (by omega)
  omega
theorem texts_len : ∀ (l : List DoA), (∀ a ∈ l, Arg a) → (textsA l).length ≤ l.length * 182
  | [], _ => by simp [textsA]
  | a :: l, h => by
    have h1 := text_len (h a List.mem_cons_self).all
    have h2 := texts_len l fun b hb => h b (List.mem_cons_of_mem _ hb)
    have e : textsA (a :: l) = (textA a ++ [10]) ++ textsA l := by simp [textsA]
    rw [e]
    simp only [List.length_append, List.length_cons, List.length_nil] at h2 ⊢
    omega
theorem texts_succ (l : List DoA) (k : Nat) (h : k < l.length) : textsA (l.take (k + 1)) = textsA (l.take k) ++ (textA l[k] ++ [10]) := by
  unfold textsA
  rw [List.take_succ_eq_append_getElem h, List.map_append, List.flatten_append]
  simp only [List.map_cons, List.map_nil, List.flatten_cons, List.flatten_nil, List.append_nil]
set_option maxRecDepth 100000 in
set_option maxHeartbeats 1000000 in
theorem Print_calls (A : Option Addr) (n cap : Nat) (l : List DoA) (hl : l.length = n) (ha : ∀ a ∈ l, Arg a) (w : World) (hG : Glob w) (hr : Reads w 7 A n (cellsAs l)) (hn : n ≤ 1000000) :
    Calls Tryd.prog 10 #[.slice A n cap] w fun e w' => e = .returned (.tuple #[str (printP l).1, .int .i64 (printP l).2]) ∧ Below w.heap.size w w' := by
  unfold str
  by_cases h4 : 400 < n
  · have hp : Hid (printP l = ([], 1)) := Lib.hid (by unfold printP; rw [hl, if_pos h4])
    have d1 : decide ((n : Int) > 400) = true := decide_eq_true (by omega)
    have d2 : (400 : Int) < n := by omega
    clear h4
    go_enter Tryd.func10, Tryd.ntmps10
    go_wp2_with fail
    refine bodyPost_ret (v := .tuple #[.string ⟨#[]⟩, .int .i64 1]) (by simp [results, Tryd.results10, go_sem]) rfl ⟨by rw [hp.out]; rfl, b_refl _⟩
  have hpp : Hid (printP l = if l.all kindOK then (textsA l, 0) else ([], 1)) := Lib.hid (by unfold printP; rw [hl, if_neg h4])
  have d1 : decide ((n : Int) > 400) = false := decide_eq_false (by omega)
  have d2 : ¬ (400 : Int) < n := by omega
  go_enter Tryd.func10, Tryd.ntmps10
  go_wp2_with fail
  have hB := builder_new w
  have hbW := b_alloc (b_refl w) (.cells #[.pointer none, .slice none 0 0] 47)
  have hz := World.size_alloc w (.cells #[.pointer none, .slice none 0 0] 47)
  generalize w.alloc (.cells #[.pointer none, .slice none 0 0] 47) = w1 at *
  go_loopw [12] (fun i wr => ∃ k : Nat, i = .int .i64 k ∧ k ≤ n ∧ Hid ((l.take k).all kindOK = true) ∧ Lib.IsBuilderF 47 5 w.heap.size w.heap.size (Lib.byteCells (textsA (l.take k))) wr ∧ Below w.heap.size w wr) (fun i _ => n - (intOf i).toNat)
  case atStart => exact ⟨0, rfl, by omega, Lib.hid rfl, hB, hbW⟩
  case round =>
    obtain ⟨k, rfl, hk, hq, hBr, hbr⟩ := hrel
    by_cases hlt : k < n
    · have hkl : k < l.length := by omega
      obtain ⟨ad, rfl, _⟩ := hr.2 (by omega)
      have hs7 := Reads.seven (hr.below hbr) hlt hkl
      have hts := Lib.hid (texts_succ l k hkl)
      have htk := Lib.hid (List.take_succ_eq_append_getElem hkl)
      have hal : ∀ (h : kindOK l[k] = false), l.all kindOK = false := fun h => by
        rw [← Bool.not_eq_true]
        intro hh
        rw [List.all_eq_true.1 hh _ (List.getElem_mem hkl)] at h
        cases h
      have hax := ha _ (List.getElem_mem hkl)
      have htl := texts_len (l.take k) fun b hb => ha b (List.mem_of_mem_take hb)
      rw [List.length_take, Nat.min_eq_left (by omega)] at htl
      have hxl := text_len hax.all
      generalize l[k] = x at *
      have HS := Lib.hid hs7
      have s0 := hs7 0 (.int .i64 x.kind) rfl
      have s1 := hs7 1 (.int .i64 x.who) rfl
      have s2 := hs7 2 (.int .i64 x.amount) rfl
      have s3 := hs7 3 (.int .u32 x.draw) rfl
      have s4 := hs7 4 (.int .i64 x.pos) rfl
      have s5 := hs7 5 (.int .i64 x.fault) rfl
      have s6 := hs7 6 (.int .i64 x.keep) rfl
      rw [if_pos rfl] at s0
      rw [if_neg (by decide)] at s1
      rw [if_neg (by decide)] at s2
      rw [if_neg (by decide)] at s3
      rw [if_neg (by decide)] at s4
      rw [if_neg (by decide)] at s5
      rw [if_neg (by decide)] at s6
      clear hs7
      by_cases hk0 : kindOK x = true
      · have hkk : 1 ≤ x.kind ∧ x.kind ≤ 9 := by
          unfold kindOK at hk0
          simpa using hk0
        have hq2 : Hid ((l.take (k + 1)).all kindOK = true) := Lib.hid (by rw [htk.out, List.all_append, hq.out]; simpa using hk0)
        have d3 : decide (x.kind < 1) = false := decide_eq_false (by omega)
        have d4 : decide (x.kind > 9) = false := decide_eq_false (by omega)
        have q1 := Lib.hid (text_calls x ⟨by omega, hkk.2, hax.d0, hax.d1, hax.all⟩ _ (hG.below (b_alloc hbr (.cells #[.int .i64 x.kind, .int .i64 x.who, .int .i64 x.amount, .int .u32 x.draw, .int .i64 x.pos, .int .i64 x.fault, .int .i64 x.keep] 38))))
        have hB2 := builder_below hBr (b_alloc (b_refl wr) (.cells #[.int .i64 x.kind, .int .i64 x.who, .int .i64 x.amount, .int .u32 x.draw, .int .i64 x.pos, .int .i64 x.fault, .int .i64 x.keep] 38))
        have hb2 := b_alloc hbr (.cells #[.int .i64 x.kind, .int .i64 x.who, .int .i64 x.amount, .int .u32 x.draw, .int .i64 x.pos, .int .i64 x.fault, .int .i64 x.keep] 38)
        have q2 := Lib.hid (fun w' (hb : Below _ _ w') => Tryd.Builder_WriteString_k w.heap.size w.heap.size _ ⟨(textA x ++ [10]).toArray⟩ w' (builder_below hB2 hb) (by rw [Lib.byteCells_length]; show _ + (textA x ++ [10]).toArray.size ≤ _; simp; omega) (Nat.le_trans hb2.size hb.size))
        have hcat : Hid ((⟨(textA x).toArray⟩ : ByteArray) ++ ⟨#[10]⟩ = ⟨(textA x ++ [10]).toArray⟩) := Lib.hid (bcat (textA x) [10])
        have hfin : Hid (Lib.byteCells (textsA (l.take k)) ++ Lib.strCells ⟨(textA x ++ [10]).toArray⟩ = Lib.byteCells (textsA (l.take (k + 1)))) := Lib.hid (by rw [hts.out, Lib.byteCells_append, Lib.strCells_eq])
        unfold actV str at q1
        clear hk0 hkk hB hBr hB2 hal hG hax ha
        go_wp2_with (first
          | (go_at_call 16; refine q1.out.mono ?_; rintro e w2 ⟨rfl, hb3⟩)
          | (go_at_call 15; rw [hcat.out]; refine (q2.out _ hb3).mono ?_; rintro e w3 ⟨rfl, hB4, hb4, _⟩))
        go_roundw
        case rel => exact ⟨k + 1, by go_num, by omega, hq2, .inr (hfin.out ▸ hB4), (b_step hb2 hb3).trans hb4⟩
        case measure => simp [intOf]; omega
      · have hp : Hid (printP l = ([], 1)) := Lib.hid (by rw [hpp.out, hal (by simpa using hk0)]; rfl)
        by_cases hx1 : x.kind < 1
        · have d3 : decide (x.kind < 1) = true := decide_eq_true hx1
          clear hx1 hk0 hBr hB
          go_wp2_with fail
          change bodyPost _ _ _ _ _ _
          refine bodyPost_ret (v := .tuple #[.string ⟨#[]⟩, .int .i64 1]) (by simp [results, Tryd.results10, go_sem]) rfl ⟨by rw [hp.out]; rfl, b_alloc hbr _⟩
        · have d3 : decide (x.kind < 1) = false := decide_eq_false hx1
          have d4 : decide (x.kind > 9) = true := by
            unfold kindOK at hk0
            simp at hk0
            exact decide_eq_true (by omega)
          clear hx1 hk0 hBr hB
          go_wp2_with fail
          change bodyPost _ _ _ _ _ _
          refine bodyPost_ret (v := .tuple #[.string ⟨#[]⟩, .int .i64 1]) (by simp [results, Tryd.results10, go_sem]) rfl ⟨by rw [hp.out]; rfl, b_alloc hbr _⟩
    · obtain rfl : k = n := by omega
      have hp : Hid (printP l = (textsA l, 0)) := Lib.hid (by rw [hpp.out]; have := hq.out; rw [List.take_of_length_le (by omega)] at this; rw [if_pos this])
      rw [List.take_of_length_le (by omega)] at hBr
      have q1 := Lib.hid (Tryd.Builder_String_any_k w.heap.size w.heap.size (textsA l) wr hBr hbr.size)
      clear hlt h4 hBr hB
      go_wp2_with (go_at_call 17; refine q1.out.mono ?_; rintro e w2 ⟨rfl, _, hb2, _⟩)
      refine bodyPost_ret (v := .tuple #[.string ⟨(textsA l).toArray⟩, .int .i64 0]) (by simp [results, Tryd.results10, go_sem]) rfl ⟨by rw [hp.out]; rfl, hbr.trans hb2⟩
end Go.Proofs.YtlldjildedbjlaaDoor.ToldW
