/- Scripts as text: what is computed, and its laws; no program. No condition. -/
import Derived.Lib.ParseIntBTie
import Derived.Lib.IndexMore
import Derived.Lib.Split
import Derived.Lib.CountLaws
import Derived.Lib.ItoaMem
import Derived.Lib.ItoaLen
namespace Go.Proofs.YtlldjildedbjlaaDoor.ToldP
open Go.Lib
set_option linter.unusedVariables false
/-- An act. -/
structure DoA where
  kind : Int
  who : Int
  amount : Int
  draw : Int
  pos : Int
  fault : Int
  keep : Int
deriving DecidableEq
def kindN : List (List UInt8) := [[], [105, 110, 99], [100, 101, 99], [114, 101, 97, 100], [116, 105, 99, 107], [100, 101, 108, 105, 118, 101, 114], [100, 114, 111, 112], [116, 119, 105, 99, 101], [99, 114, 97, 115, 104], [114, 101, 115, 116, 97, 114, 116]]
def nameN : List (List UInt8) := [[119, 104, 111], [97, 109, 111, 117, 110, 116], [100, 114, 97, 119], [97, 116], [102, 97, 117, 108, 116], [107, 101, 101, 112]]
def vals (a : DoA) : List Int := [a.who, a.amount, a.draw, a.pos, a.fault, a.keep]
/-- A number's part of a line. -/
def prt (name : List UInt8) (v : Int) : List UInt8 := if v = 0 then [] else 32 :: (name ++ 61 :: itoa v)
def prts (a : DoA) (k : Nat) : List UInt8 := (((nameN.zip (vals a)).take k).map fun p => prt p.1 p.2).flatten
def textA (a : DoA) : List UInt8 := kindN.getD a.kind.toNat [] ++ prts a 6
def In64 (v : Int) : Prop := -9223372036854775808 ≤ v ∧ v ≤ 9223372036854775807
structure Valid (a : DoA) : Prop where
  k1 : 1 ≤ a.kind
  k9 : a.kind ≤ 9
  who : In64 a.who
  amount : In64 a.amount
  draw0 : 0 ≤ a.draw
  draw1 : a.draw < 4294967296
  pos : In64 a.pos
  fault : In64 a.fault
  keep : In64 a.keep

/-! Digits. -/
def isDig (c : UInt8) : Bool := decide (48 ≤ c.toNat ∧ c.toNat ≤ 57)
theorem dig_toNat (d : Nat) (h : d < 10) : (UInt8.ofNat (48 + d)).toNat = 48 + d := by
  rw [UInt8.toNat_ofNat']
  omega
theorem dec_dig (u : Nat) : ∀ c ∈ decDigits u, isDig c = true := by
  induction u using Nat.strongRecOn with
  | _ u ih =>
    intro c hc
    rw [decDigits] at hc
    split at hc
    · rename_i h
      rcases List.mem_singleton.1 hc with rfl
      unfold isDig; rw [dig_toNat u h]; exact decide_eq_true (by omega)
    · rcases List.mem_append.1 hc with h | h
      · exact ih (u / 10) (by omega) c h
      · rcases List.mem_singleton.1 h with rfl
        unfold isDig; rw [dig_toNat (u % 10) (by omega)]; exact decide_eq_true (by omega)
theorem dec_ne (u : Nat) : decDigits u ≠ [] := by
  rw [decDigits]
  split
  · simp
  · simp
theorem parse_dec (M : Nat) (hM : M < 18446744073709551616) (u : Nat) (hu : u ≤ M) (r : List UInt8) : parseUintM M 0 (decDigits u ++ r) = parseUintM M u r := by
  induction u using Nat.strongRecOn generalizing r with
  | _ u ih =>
    rw [decDigits]
    split
    · rename_i h
      have hd := dig_toNat u h
      rw [List.singleton_append, parseUintM, hd, if_pos (by omega), if_neg (by omega), if_neg (by omega)]
      congr 1
      omega
    · rename_i h
      have hd := dig_toNat (u % 10) (by omega)
      rw [List.append_assoc, ih (u / 10) (by omega) (by omega), List.singleton_append, parseUintM, hd, if_pos (by omega), if_neg (by omega), if_neg (by omega)]
      congr 1
      omega
theorem parse_itoa (v : Int) (h : In64 v) : parseIntB 64 (itoa v) = .ok v := by
  obtain ⟨h0, h1⟩ := h
  have key : ∀ u, u ≤ 18446744073709551615 → parseUintB 64 (decDigits u) = .ok u := by
    intro u hu
    unfold parseUintB
    rw [if_neg (dec_ne u)]
    have := parse_dec (2 ^ 64 - 1) (by omega) u (by omega) []
    rw [List.append_nil] at this
    rw [this]
    rfl
  have e63 : 2 ^ (64 - 1) = 9223372036854775808 := by decide
  by_cases hn : v < 0
  · obtain ⟨u, rfl⟩ : ∃ u : Nat, v = -(u : Int) := ⟨v.natAbs, by omega⟩
    rw [itoa_neg u (by omega)]
    have e45 : (45 : UInt8).toNat = 45 := by decide
    unfold parseIntB
    dsimp only
    rw [e45, if_pos (.inr rfl), key u (by omega)]
    simp only [not_true, false_and, if_false, true_and, if_true, e63]
    rw [if_neg (by omega)]
  · obtain ⟨u, rfl⟩ : ∃ u : Nat, v = (u : Int) := ⟨v.toNat, by omega⟩
    rw [itoa_nonneg]
    have hk := key u (by omega)
    have hd := dec_dig u
    generalize decDigits u = l at *
    cases l with
    | nil => exact absurd hk (by unfold parseUintB; simp)
    | cons c r =>
      have hc := hd c List.mem_cons_self
      unfold isDig at hc
      have hc := of_decide_eq_true hc
      have n1 : ¬ (c.toNat = 43 ∨ c.toNat = 45) := by omega
      have n2 : ¬ c.toNat = 45 := by omega
      unfold parseIntB
      dsimp only
      rw [if_neg n1, hk]
      simp only [n2, not_false_eq_true, true_and, false_and, if_false, e63]
      rw [if_neg (by omega)]
theorem itoa_chars (v : Int) : ∀ c ∈ itoa v, c.toNat = 45 ∨ isDig c = true := by
  intro c hc
  unfold itoa at hc
  split at hc
  · rcases List.mem_cons.1 hc with rfl | h
    · exact .inl (by decide)
    · exact .inr (dec_dig _ c h)
  · exact .inr (dec_dig _ c hc)
theorem itoa_not (v : Int) {b : UInt8} (hb : b.toNat ≠ 45) (hd : isDig b = false) : b ∉ itoa v := by
  intro h
  rcases itoa_chars v b h with h | h
  · exact hb h
  · rw [hd] at h; cases h

/-! Cut and split at one byte. -/
theorem occ_one (l : List UInt8) (c : UInt8) (i : Nat) : occAt l [c] i = decide (l[i]? = some c) := by
  unfold occAt
  by_cases h : i < l.length
  · rw [List.drop_eq_getElem_cons h, List.getElem?_eq_getElem h]
    rw [Bool.eq_iff_iff]
    simp [List.isPrefixOf]
    constructor <;> (intro e; exact e.symm)
  · rw [List.drop_eq_nil_of_le (by omega), List.getElem?_eq_none (by omega)]
    rfl
theorem index_hit (w r : List UInt8) (c : UInt8) (h : c ∉ w) : index (w ++ c :: r) [c] = w.length := by
  refine index_first (by simp) ?_ fun j hj => ?_
  · rw [occ_one]; simp
  · rw [occ_one, decide_eq_false_iff_not, List.getElem?_append_left hj, List.getElem?_eq_getElem hj]
    intro e
    exact h (by injection e with e; rw [← e]; exact List.getElem_mem hj)
theorem index_miss (w : List UInt8) (c : UInt8) (h : c ∉ w) : index w [c] = -1 := by
  refine index_none fun j hj => ?_
  rw [occ_one, decide_eq_false_iff_not]
  intro e
  exact h (List.mem_of_getElem? e)
theorem cut_hit (w r : List UInt8) (c : UInt8) (h : c ∉ w) : cut (w ++ c :: r) [c] = (w, r, true) := by
  unfold cut
  rw [index_hit w r c h, if_pos (by omega)]
  simp
theorem cut_miss (w : List UInt8) (c : UInt8) (h : c ∉ w) : cut w [c] = (w, [], false) := by
  unfold cut
  rw [index_miss w c h, if_neg (by omega)]
theorem split_cases (l : List UInt8) (c : UInt8) : c ∉ l ∨ ∃ w r, l = w ++ c :: r ∧ c ∉ w := by
  induction l with
  | nil => exact .inl (by simp)
  | cons b l ih =>
    by_cases hb : b = c
    · subst hb; exact .inr ⟨[], l, rfl, by simp⟩
    · rcases ih with h | ⟨w, r, rfl, h⟩
      · exact .inl (by simp; exact ⟨Ne.symm hb, h⟩)
      · exact .inr ⟨b :: w, r, rfl, by simp; exact ⟨Ne.symm hb, h⟩⟩
/-- A text split at a byte. -/
def splitL (c : UInt8) : List UInt8 → List (List UInt8)
  | [] => [[]]
  | b :: l => if b = c then [] :: splitL c l else match splitL c l with
    | [] => [[b]]
    | h :: t => (b :: h) :: t
theorem splitL_eq (c : UInt8) (l : List UInt8) : splitL c (c :: l) = [] :: splitL c l := by rw [splitL, if_pos rfl]
theorem splitL_ne {b c : UInt8} (h : b ≠ c) {l h1 : List UInt8} {t : List (List UInt8)} (e : splitL c l = h1 :: t) : splitL c (b :: l) = (b :: h1) :: t := by rw [splitL, if_neg h, e]
theorem splitL_miss (w : List UInt8) (c : UInt8) (h : c ∉ w) : splitL c w = [w] := by
  induction w with
  | nil => rfl
  | cons b w ih =>
    simp at h
    exact splitL_ne (Ne.symm h.1) (ih h.2)
theorem splitL_hit (w r : List UInt8) (c : UInt8) (h : c ∉ w) : splitL c (w ++ c :: r) = w :: splitL c r := by
  induction w with
  | nil => exact splitL_eq c r
  | cons b w ih =>
    simp at h
    exact splitL_ne (Ne.symm h.1) (ih h.2)
theorem count_one (l : List UInt8) (c : UInt8) : ∀ w r, l = w ++ c :: r → c ∉ w → count l [c] = 1 + count r [c] := by
  intro w r e h
  have hi : index l [c] = (w.length : Nat) := by rw [e]; exact index_hit w r c h
  have := count_hit (s := l) (sub := [c]) (i := w.length) (by simp) hi
  rw [this, e]
  simp
theorem splitK_eq (c : UInt8) : ∀ (n : Nat) (l : List UInt8), l.length ≤ n → splitK [c] 0 (count l [c]) l = splitL c l := by
  intro n
  induction n with
  | zero =>
    intro l hl
    have : l = [] := List.eq_nil_of_length_eq_zero (by omega)
    subst this
    rw [count_miss (index_miss [] c (by simp))]
    rfl
  | succ n ih =>
    intro l hl
    rcases split_cases l c with h | ⟨w, r, e, h⟩
    · rw [count_miss (index_miss l c h), splitL_miss l c h]
      rfl
    · have hi : index l [c] = (w.length : Nat) := by rw [e]; exact index_hit w r c h
      have hne : (index l [c] == -1) = false := by rw [hi]; exact beq_eq_false_iff_ne.2 (by omega)
      rw [count_one l c w r e h, Nat.add_comm, splitK, if_neg (by rw [hne]; simp), hi]
      have hd : l.drop (((w.length : Nat) : Int).toNat + [c].length) = r := by rw [e]; simp
      have ht : l.take (((w.length : Nat) : Int).toNat + 0) = w := by rw [e]; simp
      rw [hd, ht, ih r (by rw [e] at hl; simp at hl; omega), e, splitL_hit w r c h]
/-- strings.Split at one byte. -/
theorem split_data (s sep : ByteArray) (c : UInt8) (h : sep.data.toList = [c]) : (splitB sep 0 (countB s sep) s).map (·.data.toList) = splitL c s.data.toList := by
  rw [splitB_data, h]
  have : countB s sep = count s.data.toList [c] := by unfold countB; rw [h]
  rw [this]
  exact splitK_eq c _ _ (Nat.le_refl _)
/-- An act with a number set. -/
def setP (a : DoA) (k : Nat) (v : Int) : DoA := match k with
  | 0 => { a with who := v }
  | 1 => { a with amount := v }
  | 2 => { a with draw := v }
  | 3 => { a with pos := v }
  | 4 => { a with fault := v }
  | _ => { a with keep := v }
def setOk (k : Nat) (v : Int) : Bool := k != 2 || (decide (0 ≤ v) && decide (v < 4294967296))
/-- The place of a name. -/
def namedP : List (List UInt8) → List UInt8 → Nat → Int
  | [], _, _ => -1
  | x :: l, s, k => if x = s ∧ x ≠ [] then k else namedP l s (k + 1)
end Go.Proofs.YtlldjildedbjlaaDoor.ToldP
