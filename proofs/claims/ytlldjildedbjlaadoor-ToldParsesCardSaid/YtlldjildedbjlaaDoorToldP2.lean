/- A line and its act: what is computed, and the laws; no program. No condition. -/
import Derived.Test.YtlldjildedbjlaaDoorToldP
namespace Go.Proofs.YtlldjildedbjlaaDoor.ToldP
open Go.Lib
set_option linter.unusedVariables false
def wordP (a : DoA) (w : List UInt8) : Option DoA :=
  if namedP nameN (cut w [61]).1 0 < 0 then none else
  match parseIntB 64 (cut w [61]).2.1 with
  | .ok v => if setOk (namedP nameN (cut w [61]).1 0).toNat v then some (setP a (namedP nameN (cut w [61]).1 0).toNat v) else none
  | _ => none
def foldW : DoA → List (List UInt8) → Option DoA
  | a, [] => some a
  | a, w :: l => match wordP a w with
    | none => none
    | some b => foldW b l
def kindP (s : List UInt8) : Int := namedP kindN ((splitL 32 s).headD []) 0
def zeroA (k : Int) : DoA := ⟨k, 0, 0, 0, 0, 0, 0⟩
def actP (s : List UInt8) : Option DoA :=
  if kindP s < 0 then none else
  match foldW (zeroA (kindP s)) (splitL 32 s).tail with
  | none => none
  | some a => if textA a = s then some a else none
theorem namedP_bd (l : List (List UInt8)) (s : List UInt8) : ∀ k, namedP l s k = -1 ∨ ((k : Int) ≤ namedP l s k ∧ namedP l s k < (k + l.length : Nat)) := by
  induction l with
  | nil => intro k; exact .inl rfl
  | cons x l ih =>
    intro k
    rw [namedP]
    split
    · right; simp; omega
    · rcases ih (k + 1) with h | h
      · exact .inl h
      · right; simp at h ⊢; omega
/-- What an act may be that is told. -/
structure Tellable (a : DoA) : Prop where
  k0 : 0 ≤ a.kind
  k9 : a.kind ≤ 9
  d0 : 0 ≤ a.draw
  d1 : a.draw < 4294967296
  all : ∀ k, k < 6 → In64 ((vals a).getD k 0)
theorem tell_zero {k : Int} (h0 : 0 ≤ k) (h9 : k ≤ 9) : Tellable (zeroA k) := ⟨h0, h9, by show (0 : Int) ≤ 0; omega, by show (0 : Int) < _; omega, by
  intro k hk
  have hc : k = 0 ∨ k = 1 ∨ k = 2 ∨ k = 3 ∨ k = 4 ∨ k = 5 := by omega
  rcases hc with rfl | rfl | rfl | rfl | rfl | rfl <;> (unfold In64; simp [vals, zeroA])⟩
theorem tell_set {a : DoA} (h : Tellable a) {k : Nat} (hk : k < 6) {v : Int} (hv : In64 v) (hs : setOk k v = true) : Tellable (setP a k v) := by
  obtain ⟨k0, k9, d0, d1, all⟩ := h
  have a0 := all 0 (by omega)
  have a1 := all 1 (by omega)
  have a2 := all 2 (by omega)
  have a3 := all 3 (by omega)
  have a4 := all 4 (by omega)
  have a5 := all 5 (by omega)
  simp only [vals, List.getD_cons_zero, List.getD_cons_succ] at a0 a1 a2 a3 a4 a5
  have hd : k = 2 → 0 ≤ v ∧ v < 4294967296 := by
    intro e; subst e
    simpa [setOk] using hs
  have hc : k = 0 ∨ k = 1 ∨ k = 2 ∨ k = 3 ∨ k = 4 ∨ k = 5 := by omega
  refine ⟨?_, ?_, ?_, ?_, ?_⟩
  · rcases hc with rfl | rfl | rfl | rfl | rfl | rfl <;> exact k0
  · rcases hc with rfl | rfl | rfl | rfl | rfl | rfl <;> exact k9
  · rcases hc with rfl | rfl | rfl | rfl | rfl | rfl
    case inr.inr.inl => exact (hd rfl).1
    all_goals exact d0
  · rcases hc with rfl | rfl | rfl | rfl | rfl | rfl
    case inr.inr.inl => exact (hd rfl).2
    all_goals exact d1
  · intro j hj
    have hj' : j = 0 ∨ j = 1 ∨ j = 2 ∨ j = 3 ∨ j = 4 ∨ j = 5 := by omega
    rcases hc with rfl | rfl | rfl | rfl | rfl | rfl <;> rcases hj' with rfl | rfl | rfl | rfl | rfl | rfl <;> assumption
theorem named_lt (s : List UInt8) : namedP nameN s 0 < 6 := by
  rcases namedP_bd nameN s 0 with h | h
  · omega
  · have : ((0 + nameN.length : Nat) : Int) = 6 := rfl
    omega
theorem word_tell {a b : DoA} {w : List UInt8} (h : Tellable a) (e : wordP a w = some b) : Tellable b := by
  have hl := named_lt (cut w [61]).1
  unfold wordP at e
  split at e
  · cases e
  rename_i hk
  split at e
  · rename_i v hp
    split at e
    · rename_i hs
      injection e with e
      have hb := parseIntB_bounds hp
      rw [← e]
      exact tell_set h (by omega) ⟨by have : ((2 ^ (64 - 1) : Nat) : Int) = 9223372036854775808 := by decide
                                      omega, by have : ((2 ^ (64 - 1) : Nat) : Int) = 9223372036854775808 := by decide
                                                omega⟩ hs
    · cases e
  · cases e
theorem kindP_bd (s : List UInt8) (h : ¬ kindP s < 0) : 1 ≤ kindP s ∧ kindP s ≤ 9 := by
  have hb : kindP s ≤ 9 := by
    rcases namedP_bd kindN ((splitL 32 s).headD []) 0 with h | h
    · unfold kindP; omega
    · have : ((0 + kindN.length : Nat) : Int) = 10 := rfl
      unfold kindP; omega
  refine ⟨?_, hb⟩
  unfold kindP at h ⊢
  generalize (splitL 32 s).headD [] = x at *
  obtain ⟨L, hL⟩ : ∃ L, kindN = [] :: L := ⟨_, rfl⟩
  rw [hL, namedP, if_neg (fun e => e.2 rfl)] at h ⊢
  rcases namedP_bd L x (0 + 1) with h1 | h1
  · omega
  · exact h1.1
theorem fold_tell : ∀ (l : List (List UInt8)) (a b : DoA), Tellable a → foldW a l = some b → Tellable b
  | [], a, b, h, e => by injection e with e; exact e ▸ h
  | w :: l, a, b, h, e => by
    rw [foldW] at e
    split at e
    · cases e
    · rename_i c hc
      exact fold_tell l c b (word_tell h hc) e
theorem setP_kind (a : DoA) (k : Nat) (v : Int) : (setP a k v).kind = a.kind := by unfold setP; split <;> rfl
theorem word_kind {a b : DoA} {w : List UInt8} (e : wordP a w = some b) : b.kind = a.kind := by
  unfold wordP at e
  split at e
  · cases e
  split at e
  · split at e
    · injection e with e; rw [← e]; exact setP_kind _ _ _
    · cases e
  · cases e
theorem fold_kind : ∀ (l : List (List UInt8)) (a b : DoA), foldW a l = some b → b.kind = a.kind
  | [], a, b, e => by injection e with e; rw [e]
  | w :: l, a, b, e => by
    rw [foldW] at e
    split at e
    · cases e
    · rename_i c hc
      rw [fold_kind l c b e, word_kind hc]
theorem valid_of {a : DoA} (h : Tellable a) (hk : 1 ≤ a.kind) : Valid a := ⟨hk, h.k9, h.all 0 (by omega), h.all 1 (by omega), h.d0, h.d1, h.all 3 (by omega), h.all 4 (by omega), h.all 5 (by omega)⟩
theorem tell_of {a : DoA} (h : Valid a) : Tellable a := ⟨by have := h.k1; omega, h.k9, h.draw0, h.draw1, by
  intro k hk
  have hc : k = 0 ∨ k = 1 ∨ k = 2 ∨ k = 3 ∨ k = 4 ∨ k = 5 := by omega
  rcases hc with rfl | rfl | rfl | rfl | rfl | rfl
  · exact h.who
  · exact h.amount
  · exact ⟨by have := h.draw0; show _ ≤ a.draw; omega, by have := h.draw1; show a.draw ≤ _; omega⟩
  · exact h.pos
  · exact h.fault
  · exact h.keep⟩
/-- A line's act is printed so. -/
theorem actP_sound {s : List UInt8} {a : DoA} (h : actP s = some a) : textA a = s ∧ Valid a := by
  unfold actP at h
  split at h
  · cases h
  rename_i hk
  split at h
  · cases h
  · rename_i b hb
    split at h
    · rename_i ht
      injection h with h
      subst h
      have := kindP_bd s hk
      refine ⟨ht, valid_of (fold_tell _ _ _ (tell_zero (by omega) (by omega)) hb) ?_⟩
      rw [fold_kind _ _ _ hb]
      exact this.1
    · cases h
/-! What is printed is parsed. -/
def word (k : Nat) (v : Int) : List UInt8 := nameN.getD k [] ++ 61 :: itoa v
def optW (k : Nat) (v : Int) : List (List UInt8) := if v = 0 then [] else [word k v]
def wordsA (a : DoA) : List (List UInt8) := optW 0 a.who ++ (optW 1 a.amount ++ (optW 2 a.draw ++ (optW 3 a.pos ++ (optW 4 a.fault ++ optW 5 a.keep))))
def joinW (l : List (List UInt8)) : List UInt8 := (l.map (32 :: ·)).flatten
theorem joinW_app (l m : List (List UInt8)) : joinW (l ++ m) = joinW l ++ joinW m := by simp [joinW]
theorem join_opt (k : Nat) (v : Int) : joinW (optW k v) = prt (nameN.getD k []) v := by
  unfold optW prt
  split
  · rfl
  · simp [joinW, word]
theorem text_words (a : DoA) : textA a = kindN.getD a.kind.toNat [] ++ joinW (wordsA a) := by
  unfold textA wordsA
  simp only [joinW_app, join_opt]
  simp [prts, vals, nameN]
theorem no_name (k : Nat) : (32 : UInt8) ∉ nameN.getD k [] ∧ (61 : UInt8) ∉ nameN.getD k [] ∧ (10 : UInt8) ∉ nameN.getD k [] := by
  rcases Nat.lt_or_ge k 6 with h | h
  · have hc : k = 0 ∨ k = 1 ∨ k = 2 ∨ k = 3 ∨ k = 4 ∨ k = 5 := by omega
    rcases hc with rfl | rfl | rfl | rfl | rfl | rfl <;> decide
  · rw [List.getD_eq_getElem?_getD, List.getElem?_eq_none (by show 6 ≤ k; exact h)]; simp
theorem no_kind (k : Nat) : (32 : UInt8) ∉ kindN.getD k [] ∧ (10 : UInt8) ∉ kindN.getD k [] := by
  rcases Nat.lt_or_ge k 10 with h | h
  · have hc : k = 0 ∨ k = 1 ∨ k = 2 ∨ k = 3 ∨ k = 4 ∨ k = 5 ∨ k = 6 ∨ k = 7 ∨ k = 8 ∨ k = 9 := by omega
    rcases hc with rfl | rfl | rfl | rfl | rfl | rfl | rfl | rfl | rfl | rfl <;> decide
  · rw [List.getD_eq_getElem?_getD, List.getElem?_eq_none (by show 10 ≤ k; exact h)]; simp
theorem no_word (k : Nat) (v : Int) : (32 : UInt8) ∉ word k v ∧ (10 : UInt8) ∉ word k v := by
  unfold word
  simp only [List.mem_append, List.mem_cons, not_or]
  exact ⟨⟨(no_name k).1, by decide, itoa_not v (by decide) (by decide)⟩, ⟨(no_name k).2.2, by decide, itoa_not v (by decide) (by decide)⟩⟩
theorem splitL_join : ∀ (ws : List (List UInt8)) (w0 : List UInt8), (32 : UInt8) ∉ w0 → (∀ w ∈ ws, (32 : UInt8) ∉ w) → splitL 32 (w0 ++ joinW ws) = w0 :: ws
  | [], w0, h0, _ => by rw [show joinW [] = [] from rfl, List.append_nil]; exact splitL_miss _ _ h0
  | w :: ws, w0, h0, h => by
    rw [show joinW (w :: ws) = 32 :: (w ++ joinW ws) by simp [joinW], splitL_hit _ _ _ h0, splitL_join ws w (h w List.mem_cons_self) fun x hx => h x (List.mem_cons_of_mem _ hx)]
theorem opt_no (k : Nat) (v : Int) : ∀ w ∈ optW k v, (32 : UInt8) ∉ w ∧ (10 : UInt8) ∉ w := by
  intro w hw
  unfold optW at hw
  split at hw
  · cases hw
  · rw [List.mem_singleton.1 hw]; exact no_word k v
theorem words_no (a : DoA) : ∀ w ∈ wordsA a, (32 : UInt8) ∉ w ∧ (10 : UInt8) ∉ w := by
  intro w hw
  unfold wordsA at hw
  simp only [List.mem_append] at hw
  rcases hw with h | h | h | h | h | h <;> exact opt_no _ _ w h
theorem named_name (k : Nat) (hk : k < 6) : namedP nameN (nameN.getD k []) 0 = k := by
  have hc : k = 0 ∨ k = 1 ∨ k = 2 ∨ k = 3 ∨ k = 4 ∨ k = 5 := by omega
  rcases hc with rfl | rfl | rfl | rfl | rfl | rfl <;> decide
theorem named_kind (k : Int) (h1 : 1 ≤ k) (h9 : k ≤ 9) : namedP kindN (kindN.getD k.toNat []) 0 = k := by
  have hc : k = 1 ∨ k = 2 ∨ k = 3 ∨ k = 4 ∨ k = 5 ∨ k = 6 ∨ k = 7 ∨ k = 8 ∨ k = 9 := by omega
  rcases hc with rfl | rfl | rfl | rfl | rfl | rfl | rfl | rfl | rfl <;> decide
theorem wordP_word (a : DoA) (k : Nat) (hk : k < 6) (v : Int) (hv : In64 v) (hs : setOk k v = true) : wordP a (word k v) = some (setP a k v) := by
  have hn : (((k : Nat) : Int)).toNat = k := by omega
  unfold wordP word
  rw [cut_hit _ _ _ (no_name k).2.1]
  dsimp only
  rw [named_name k hk, if_neg (by omega), parse_itoa v hv]
  simp only [hn, hs, if_true]
theorem fold_opt (a : DoA) (k : Nat) (hk : k < 6) (v : Int) (hv : In64 v) (hs : setOk k v = true) (h0 : setP a k 0 = a) (l : List (List UInt8)) : foldW a (optW k v ++ l) = foldW (setP a k v) l := by
  unfold optW
  split
  · rename_i e
    rw [e, h0]; rfl
  · show (match wordP a (word k v) with
      | none => none
      | some b => foldW b l) = _
    rw [wordP_word a k hk v hv hs]
/-- What is printed is an act's line. -/
theorem actP_text {a : DoA} (h : Valid a) : actP (textA a) = some a := by
  have hsp : splitL 32 (textA a) = kindN.getD a.kind.toNat [] :: wordsA a := by
    rw [text_words]
    exact splitL_join _ _ (no_kind _).1 fun w hw => (words_no a w hw).1
  have hk : kindP (textA a) = a.kind := by
    unfold kindP
    rw [hsp]
    exact named_kind _ h.k1 h.k9
  unfold actP
  have := h.k1
  rw [hk, if_neg (by omega), hsp]
  have hf : foldW (zeroA a.kind) (wordsA a) = some a := by
    obtain ⟨kind, who, amount, draw, pos, fault, keep⟩ := a
    unfold wordsA zeroA
    rw [fold_opt _ 0 (by omega) _ h.who rfl rfl]
    rw [fold_opt _ 1 (by omega) _ h.amount rfl rfl]
    rw [fold_opt _ 2 (by omega) _ ⟨by have := h.draw0; dsimp only at *; omega, by have := h.draw1; dsimp only at *; omega⟩ (by unfold setOk; have := h.draw0; have := h.draw1; dsimp only at *; simp; omega) rfl]
    rw [fold_opt _ 3 (by omega) _ h.pos rfl rfl]
    rw [fold_opt _ 4 (by omega) _ h.fault rfl rfl]
    rw [← List.append_nil (optW 5 _), fold_opt _ 5 (by omega) _ h.keep rfl rfl]
    rfl
  show (match foldW (zeroA a.kind) (wordsA a) with
    | none => none
    | some b => if textA b = textA a then some b else none) = _
  rw [hf]
  simp
end Go.Proofs.YtlldjildedbjlaaDoor.ToldP
