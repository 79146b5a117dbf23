/- Scripts as text: the plain laws. No condition. -/
import Derived.Test.YtlldjildedbjlaaDoorToldQ
namespace Go.Proofs.YtlldjildedbjlaaDoor.ToldW
open Go.Proofs.YtlldjildedbjlaaDoor.ToldP
set_option linter.unusedVariables false
/-- Here stands nothing, or the part of one of these names. -/
def St (ns : List (List UInt8)) (r : List UInt8) : Prop := r = [] ∨ ∃ n ∈ ns, ∃ x, r = headOf n ++ x
theorem st_prt {ns : List (List UInt8)} {r : List UInt8} (n : List UInt8) (v : Int) (h : St ns r) : St (n :: ns) (prt n v ++ r) := by
  unfold prt
  split
  · rcases h with h | ⟨m, hm, x, e⟩
    · exact .inl (by simpa using h)
    · exact .inr ⟨m, List.mem_cons_of_mem _ hm, x, by simpa using e⟩
  · exact .inr ⟨n, List.mem_cons_self, Lib.itoa v ++ r, by simp [headOf]⟩
theorem number_prt {ns : List (List UInt8)} {r : List UInt8} (n : List UInt8) (v : Int) (hv : In64 v) (h : St ns r) (hn : ∀ m ∈ ns, ∀ x, ¬ headOf n <+: headOf m ++ x) : numberP (prt n v ++ r) n = (v, r) := by
  unfold prt
  split
  · rename_i e
    subst e
    rw [List.nil_append, number_miss]
    rcases h with rfl | ⟨m, hm, x, rfl⟩
    · simp [headOf]
    · exact hn m hm x
  · have e : (32 :: (n ++ 61 :: Lib.itoa v)) ++ r = headOf n ++ (Lib.itoa v ++ r) := by simp [headOf]
    rw [e]
    refine number_hit n v hv r ?_
    rcases h with rfl | ⟨m, hm, x, rfl⟩
    · intro c hc; cases hc
    · intro c hc
      have : c = 32 := by simpa [headOf] using hc.symm
      subst this
      decide
theorem apart_aux : ∀ (a b x : List UInt8), (61 : UInt8) ∉ a → (61 : UInt8) ∉ b → a ++ [61] <+: b ++ 61 :: x → a = b
  | [], [], _, _, _, _ => rfl
  | [], c :: b, x, _, hb, h => by
    rw [List.nil_append, List.cons_append, List.cons_prefix_cons] at h
    exact absurd (h.1 ▸ List.mem_cons_self) hb
  | c :: a, [], x, ha, _, h => by
    rw [List.cons_append, List.nil_append, List.cons_prefix_cons] at h
    exact absurd (h.1 ▸ List.mem_cons_self) ha
  | c :: a, d :: b, x, ha, hb, h => by
    rw [List.cons_append, List.cons_append, List.cons_prefix_cons] at h
    rw [List.mem_cons, not_or] at ha hb
    rw [h.1, apart_aux a b x ha.2 hb.2 h.2]
theorem head_apart (i j : Nat) (hne : nameN.getD i [] ≠ nameN.getD j []) (x : List UInt8) : ¬ headOf (nameN.getD i []) <+: headOf (nameN.getD j []) ++ x := by
  intro h
  unfold headOf at h
  rw [List.cons_append, List.cons_prefix_cons, List.append_assoc, List.singleton_append] at h
  exact hne (apart_aux _ _ x (no_name i).2.1 (no_name j).2.1 h.2)
theorem prts6 (a : DoA) : prts a 6 = prt [119, 104, 111] a.who ++ (prt [97, 109, 111, 117, 110, 116] a.amount ++ (prt [100, 114, 97, 119] a.draw ++ (prt [97, 116] a.pos ++ (prt [102, 97, 117, 108, 116] a.fault ++ (prt [107, 101, 101, 112] a.keep ++ []))))) := by
  simp [prts, vals, nameN]
theorem read_prts {a : DoA} (h : Valid a) : readA (a.kind.toNat - 1) (prts a 6) = a := by
  have s5 : St [] [] := .inl rfl
  have s4 := st_prt [107, 101, 101, 112] a.keep s5
  have s3 := st_prt [102, 97, 117, 108, 116] a.fault s4
  have s2 := st_prt [97, 116] a.pos s3
  have s1 := st_prt [100, 114, 97, 119] a.draw s2
  have s0 := st_prt [97, 109, 111, 117, 110, 116] a.amount s1
  have hd : In64 a.draw := ⟨by have := h.draw0; omega, by have := h.draw1; omega⟩
  have e0 := number_prt [119, 104, 111] a.who h.who s0 (by
    intro m hm x
    simp only [List.mem_cons, List.not_mem_nil, or_false] at hm
    rcases hm with rfl | rfl | rfl | rfl | rfl
    · exact head_apart 0 1 (by decide) x
    · exact head_apart 0 2 (by decide) x
    · exact head_apart 0 3 (by decide) x
    · exact head_apart 0 4 (by decide) x
    · exact head_apart 0 5 (by decide) x)
  have e1 := number_prt [97, 109, 111, 117, 110, 116] a.amount h.amount s1 (by
    intro m hm x
    simp only [List.mem_cons, List.not_mem_nil, or_false] at hm
    rcases hm with rfl | rfl | rfl | rfl
    · exact head_apart 1 2 (by decide) x
    · exact head_apart 1 3 (by decide) x
    · exact head_apart 1 4 (by decide) x
    · exact head_apart 1 5 (by decide) x)
  have e2 := number_prt [100, 114, 97, 119] a.draw hd s2 (by
    intro m hm x
    simp only [List.mem_cons, List.not_mem_nil, or_false] at hm
    rcases hm with rfl | rfl | rfl
    · exact head_apart 2 3 (by decide) x
    · exact head_apart 2 4 (by decide) x
    · exact head_apart 2 5 (by decide) x)
  have e3 := number_prt [97, 116] a.pos h.pos s3 (by
    intro m hm x
    simp only [List.mem_cons, List.not_mem_nil, or_false] at hm
    rcases hm with rfl | rfl
    · exact head_apart 3 4 (by decide) x
    · exact head_apart 3 5 (by decide) x)
  have e4 := number_prt [102, 97, 117, 108, 116] a.fault h.fault s4 (by
    intro m hm x
    simp only [List.mem_cons, List.not_mem_nil, or_false] at hm
    rcases hm with rfl
    exact head_apart 4 5 (by decide) x)
  have e5 := number_prt [107, 101, 101, 112] a.keep h.keep s5 (by
    intro m hm x
    cases hm)
  have ew : IntKind.u32.wrap a.draw = a.draw := by
    have := h.draw0
    have := h.draw1
    simp [IntKind.wrap, IntKind.bits, IntKind.signed]; omega
  have ek : ((a.kind.toNat - 1 : Nat) : Int) + 1 = a.kind := by have := h.k1; omega
  unfold readA
  rw [prts6, e0]
  dsimp only
  rw [e1]
  dsimp only
  rw [e2]
  dsimp only
  rw [e3]
  dsimp only
  rw [e4]
  dsimp only
  rw [e5]
  dsimp only
  rw [ew, ek]
theorem refStep_text {a : DoA} (h : Valid a) : refStep (textA a) (a.kind.toNat - 1) = some a := by
  have hk : kinds9.getD (a.kind.toNat - 1) [] = kindN.getD a.kind.toNat [] := by
    obtain ⟨n, hn⟩ : ∃ n, a.kind.toNat = n + 1 := ⟨a.kind.toNat - 1, by have := h.k1; omega⟩
    rw [hn]
    rfl
  have hr := read_prts h
  have ht : textA a = kindN.getD a.kind.toNat [] ++ prts a 6 := rfl
  unfold refStep
  rw [hk]
  have h1 : (textA a).take (kindN.getD a.kind.toNat []).length = kindN.getD a.kind.toNat [] := by rw [ht]; exact List.take_left
  have h2 : (textA a).drop (kindN.getD a.kind.toNat []).length = prts a 6 := by rw [ht]; exact List.drop_left
  rw [if_pos h1, h2, hr, if_pos rfl]
theorem refFrom_hit : ∀ (n k j : Nat) {s : List UInt8} {a : DoA}, k ≤ j → j < k + n → refStep s j = some a → ∃ b, refFrom s n k = some b
  | 0, k, j, s, a, h1, h2, _ => by omega
  | n + 1, k, j, s, a, h1, h2, h => by
    rw [refFrom]
    cases hs : refStep s k with
    | some b => exact ⟨b, rfl⟩
    | none =>
      have hkj : k ≠ j := by rintro rfl; rw [hs] at h; cases h
      exact refFrom_hit n (k + 1) j (by omega) (by omega) h
/-- The reference's act of a line is the act. -/
theorem refAct_eq (s : List UInt8) : refAct s = actP s := by
  cases h : actP s with
  | some a =>
    obtain ⟨ht, hv⟩ := actP_sound h
    have hst := refStep_text hv
    rw [ht] at hst
    have h1 := hv.k1
    have h9 := hv.k9
    obtain ⟨b, hb⟩ := refFrom_hit 9 0 (a.kind.toNat - 1) (Nat.zero_le _) (by omega) hst
    have hs := refFrom_some 9 0 (by omega) hb
    rw [h] at hs
    unfold refAct
    rw [hb, hs]
  | none =>
    cases h2 : refAct s with
    | none => rfl
    | some b =>
      have hs := refFrom_some 9 0 (by omega) h2
      rw [h] at hs
      cases hs
/-! What is parsed is printed so. -/
theorem valid_ok {a : DoA} (h : Valid a) : kindOK a = true := by
  unfold kindOK
  have := h.k1
  have := h.k9
  simp; omega
theorem arg_of {a : DoA} (h : Valid a) : Arg a := ⟨⟨by have := h.k1; omega, by have := h.k9; omega⟩, h.draw0, h.draw1, (tell_of h).all⟩
theorem valid_arg {a : DoA} (h : Arg a) (hk : kindOK a = true) : Valid a := by
  unfold kindOK at hk
  simp at hk
  exact ⟨hk.1, hk.2, h.all 0 (by omega), h.all 1 (by omega), h.d0, h.d1, h.all 3 (by omega), h.all 4 (by omega), h.all 5 (by omega)⟩
def joinL (xs : List (List UInt8 × Bool)) : List UInt8 := (xs.map fun x => x.1 ++ [10]).flatten
theorem parseG_ok : ∀ (xs : List (List UInt8 × Bool)) (acc l : List DoA) (n : Nat), acc.length ≤ 400 → parseG xs acc = (l, n, 0) →
    n = 0 ∧ ∃ m, l = acc ++ m ∧ textsA m = joinL xs ∧ (∀ a ∈ m, Valid a) ∧ l.length ≤ 400 ∧ ∀ x ∈ xs, x.2 = true
  | [], acc, l, n, ha, h => by
    rw [parseG] at h
    cases h
    exact ⟨rfl, [], by simp, rfl, by simp, ha, by simp⟩
  | x :: r, acc, l, n, ha, h => by
    rw [parseG] at h
    split at h
    · cases h
    rename_i h4
    split at h
    · cases h
    rename_i a hx
    split at h
    · rename_i hx2
      obtain ⟨h0, m, rfl, ht, hv, hl, ho⟩ := parseG_ok r (acc ++ [a]) l n (by simp; omega) h
      obtain ⟨ht1, hv1⟩ := actP_sound hx
      refine ⟨h0, a :: m, by simp, ?_, ?_, hl, ?_⟩
      · have e : textsA (a :: m) = (textA a ++ [10]) ++ textsA m := by simp [textsA]
        have e2 : joinL (x :: r) = (x.1 ++ [10]) ++ joinL r := by simp [joinL]
        rw [e, e2, ht, ht1]
      · intro b hb
        rcases List.mem_cons.1 hb with rfl | hb
        · exact hv1
        · exact hv b hb
      · intro y hy
        rcases List.mem_cons.1 hy with rfl | hy
        · exact hx2
        · exact ho y hy
    · cases h
theorem lines_join : ∀ (n : Nat) (s : List UInt8), s.length ≤ n → (∀ x ∈ linesP s, x.2 = true) → joinL (linesP s) = s
  | n, s, hn, h => by
    by_cases hs : s = []
    · subst hs; rfl
    have hl := cut_rest s hs
    have hp : 0 < s.length := List.length_pos_iff.2 hs
    rw [linesP_cons s hs] at h ⊢
    rcases split_cases s 10 with hc | ⟨w, r, e, hc⟩
    · have := h _ List.mem_cons_self
      rw [cut_miss s 10 hc] at this
      cases this
    · have hcut := cut_hit w r 10 hc
      rw [← e] at hcut
      rw [hcut] at h hl ⊢
      cases n with
      | zero => omega
      | succ n =>
        have ih := lines_join n r (by dsimp only at hl; omega) fun x hx => h x (List.mem_cons_of_mem _ hx)
        have e2 : joinL ((w, true) :: linesP r) = (w ++ [10]) ++ joinL (linesP r) := by simp [joinL]
        show joinL ((w, true) :: linesP r) = s
        rw [e2, ih, e]
        simp
/-- What is parsed is printed so. -/
theorem parse_print {s : List UInt8} {l : List DoA} {n : Nat} (h : parseP s = (l, n, 0)) : n = 0 ∧ printP l = (s, 0) ∧ (∀ a ∈ l, Valid a) ∧ l.length ≤ 400 := by
  obtain ⟨h0, m, e, ht, hv, hl, ho⟩ := parseG_ok (linesP s) [] l n (by simp) h
  rw [List.nil_append] at e
  subst e
  refine ⟨h0, ?_, hv, hl⟩
  unfold printP
  rw [if_neg (by omega), if_pos (List.all_eq_true.2 fun a ha => valid_ok (hv a ha)), ht, lines_join s.length s (Nat.le_refl _) ho]
theorem parseG_len : ∀ (xs : List (List UInt8 × Bool)) (acc : List DoA), acc.length ≤ 400 → (parseG xs acc).1.length ≤ 400 ∧ ((∀ a ∈ acc, Valid a) → ∀ a ∈ (parseG xs acc).1, Valid a)
  | [], acc, h => ⟨h, fun hv => hv⟩
  | x :: r, acc, h => by
    rw [parseG]
    split
    · exact ⟨by simp, by simp⟩
    split
    · exact ⟨by simp, by simp⟩
    rename_i a hx
    split
    · obtain ⟨h1, h2⟩ := parseG_len r (acc ++ [a]) (by simp; omega)
      refine ⟨h1, fun hv => h2 fun b hb => ?_⟩
      rcases List.mem_append.1 hb with hb | hb
      · exact hv b hb
      · rw [List.mem_singleton.1 hb]; exact (actP_sound hx).2
    · exact ⟨by simp, by simp⟩
theorem parse_len (s : List UInt8) : (parseP s).1.length ≤ 400 ∧ ∀ a ∈ (parseP s).1, Valid a := by
  obtain ⟨h1, h2⟩ := parseG_len (linesP s) [] (by simp)
  exact ⟨h1, h2 (by simp)⟩
/-! What is printed is parsed to that. -/
theorem text_no10 (a : DoA) : (10 : UInt8) ∉ textA a := by
  rw [text_words]
  intro h
  rcases List.mem_append.1 h with h | h
  · exact (no_kind _).2 h
  · unfold joinW at h
    obtain ⟨w, hw, hm⟩ := List.mem_flatten.1 h
    obtain ⟨v, hv, rfl⟩ := List.mem_map.1 hw
    rcases List.mem_cons.1 hm with h1 | h1
    · exact absurd h1 (by decide)
    · exact (words_no a v hv).2 h1
theorem lines_texts : ∀ (l : List DoA), linesP (textsA l) = l.map fun a => (textA a, true)
  | [] => rfl
  | a :: l => by
    have e : textsA (a :: l) = textA a ++ 10 :: textsA l := by simp [textsA]
    rw [e, linesP_cons _ (by simp), cut_hit _ _ _ (text_no10 a), lines_texts l]
    rfl
theorem parseG_texts : ∀ (l acc : List DoA), acc.length + l.length ≤ 400 → (∀ a ∈ l, Valid a) → parseG (l.map fun a => (textA a, true)) acc = (acc ++ l, 0, 0)
  | [], acc, _, _ => by simp [parseG]
  | a :: l, acc, h, hv => by
    rw [List.length_cons] at h
    rw [List.map_cons, parseG, if_neg (by omega)]
    dsimp only
    rw [actP_text (hv a List.mem_cons_self)]
    dsimp only
    rw [if_pos rfl, parseG_texts l (acc ++ [a]) (by simp; omega) fun b hb => hv b (List.mem_cons_of_mem _ hb)]
    simp
/-- What is printed is parsed to that. -/
theorem print_parse {l : List DoA} (hl : l.length ≤ 400) (hv : ∀ a ∈ l, Valid a) : parseP (textsA l) = (l, 0, 0) := by
  unfold parseP
  rw [lines_texts, parseG_texts l [] (by simpa using hl) hv]
  rfl
theorem print_some {l : List DoA} (ha : ∀ a ∈ l, Arg a) (h : (printP l).2 = 0) : (printP l).1 = textsA l ∧ l.length ≤ 400 ∧ ∀ a ∈ l, Valid a := by
  unfold printP at h ⊢
  split at h
  · cases h
  rename_i h4
  split at h
  · rename_i hk
    rw [if_neg h4, if_pos hk]
    exact ⟨rfl, by omega, fun a hm => valid_arg (ha a hm) (List.all_eq_true.1 hk a hm)⟩
  · cases h
theorem texts_app (a b : List DoA) : textsA (a ++ b) = textsA a ++ textsA b := by simp [textsA]
theorem print_code (l : List DoA) : (printP l).2 = 0 ∨ printP l = ([], 1) := by
  unfold printP
  split
  · exact .inr rfl
  split
  · exact .inl rfl
  · exact .inr rfl
/-- Two scripts, one behind the other. -/
theorem print_both {a b : List DoA} (h : a.length + b.length ≤ 400) : printP (a ++ b) = if (printP a).2 = 0 ∧ (printP b).2 = 0 then (textsA (a ++ b), 0) else ([], 1) := by
  have h1 : ¬ 400 < (a ++ b).length := by rw [List.length_append]; omega
  have h2 : ¬ 400 < a.length := by omega
  have h3 : ¬ 400 < b.length := by omega
  unfold printP
  rw [if_neg h1, if_neg h2, if_neg h3, List.all_append]
  cases a.all kindOK <;> cases b.all kindOK <;> rfl
end Go.Proofs.YtlldjildedbjlaaDoor.ToldW
