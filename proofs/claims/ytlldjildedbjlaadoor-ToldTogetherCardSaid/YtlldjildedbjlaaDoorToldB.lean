/- Scripts as text, walked: a number of an act is set; the place of a name. No condition. -/
import Derived.Test.YtlldjildedbjlaaDoorToldA
namespace Go.Proofs.YtlldjildedbjlaaDoor.ToldW
open Go.RowKit Go.Proofs.YtlldjildedbjlaaDoor.Com Go.Proofs.YtlldjildedbjlaaDoor.Ord Go.Proofs.YtlldjildedbjlaaDoor.Tok Go.Proofs.YtlldjildedbjlaaDoor.ToldP
set_option linter.unusedVariables false
def cellsA (a : DoA) : Array Value := #[.int .i64 a.kind, .int .i64 a.who, .int .i64 a.amount, .int .u32 a.draw, .int .i64 a.pos, .int .i64 a.fault, .int .i64 a.keep]
theorem set_calls (k : Nat) (hk : k < 6) (v : Int) (hv : In64 v) (g : Nat) (a : DoA) (w : World) (hB : Blk w g 38 (cellsA a)) :
    Calls Tryd.prog 24 #[.pointer (some ⟨g, 0, none⟩), .int .i64 k, .int .i64 v] w fun e w' => e = .returned (.bool (setOk k v)) ∧ ∃ u b, w' = w.setCell ⟨g, k + 1, none⟩ u ∧ Blk w' g 38 (cellsA b) ∧ (setOk k v = true → b = setP a k v) := by
  unfold cellsA at *
  have c1 := hB.cell 1
  have c2 := hB.cell 2
  have c3 := hB.cell 3
  have c4 := hB.cell 4
  have c5 := hB.cell 5
  have c6 := hB.cell 6
  have f1 := hB.frozen 1
  have f2 := hB.frozen 2
  have f3 := hB.frozen 3
  have f4 := hB.frozen 4
  have f5 := hB.frozen 5
  have f6 := hB.frozen 6
  simp only [List.getElem?_toArray, List.getElem?_cons_zero, List.getElem?_cons_succ] at c1 c2 c3 c4 c5 c6
  have hc : k = 0 ∨ k = 1 ∨ k = 2 ∨ k = 3 ∨ k = 4 ∨ k = 5 := by omega
  obtain ⟨hv0, hv1⟩ := hv
  have hB' := Lib.hid hB
  clear hB
  rcases hc with rfl | rfl | rfl | rfl | rfl | rfl
  case inr.inr.inl =>
    have hsw : 0 ≤ v → v < 4294967296 → IntKind.u32.wrap v = v := fun h h' => by simp [IntKind.wrap, IntKind.bits, IntKind.signed]; omega
    have hs : Hid (setOk 2 v = (decide (0 ≤ v) && decide (v < 4294967296))) := Lib.hid rfl
    by_cases h0 : 0 ≤ v
    · have d0 : decide (v ≥ 0) = true := decide_eq_true h0
      by_cases h1 : v < 4294967296
      · have d1 : decide (v < 4294967296) = true := decide_eq_true h1
        have d2 := hsw h0 h1
        rw [show setOk 2 v = true by rw [hs.out, d1, decide_eq_true h0]; rfl]
        clear hs hsw
        go_enter Tryd.func24, Tryd.ntmps24
        go_wp2_with fail
        go_ret
        exact ⟨rfl, _, { a with draw := v }, rfl, hB'.out.set_ _ _, fun _ => rfl⟩
      · have d1 : decide (v < 4294967296) = false := decide_eq_false h1
        rw [show setOk 2 v = false by rw [hs.out, d1]; simp]
        clear hs hsw h0 h1
        go_enter Tryd.func24, Tryd.ntmps24
        go_wp2_with fail
        go_ret
        exact ⟨rfl, _, { a with draw := IntKind.u32.wrap v }, rfl, hB'.out.set_ _ _, fun h => by cases h⟩
    · have d0 : decide (v ≥ 0) = false := decide_eq_false h0
      rw [show setOk 2 v = false by rw [hs.out, decide_eq_false h0]; simp]
      clear hs hsw h0
      go_enter Tryd.func24, Tryd.ntmps24
      go_wp2_with fail
      go_ret
      exact ⟨rfl, _, { a with draw := IntKind.u32.wrap v }, rfl, hB'.out.set_ _ _, fun h => by cases h⟩
  all_goals (
    go_enter Tryd.func24, Tryd.ntmps24
    go_wp2_with fail
    go_ret
    exact ⟨rfl, _, setP a _ v, rfl, hB'.out.set_ _ _, fun _ => rfl⟩)
set_option maxRecDepth 100000 in
theorem named_calls (g off cap : Nat) (l : List (List UInt8)) (s : List UInt8) (w : World) (hl : l.length ≤ 1000000) (hc : l.length ≤ cap) (hr : ∀ i x, l[i]? = some x → w.cell? ⟨g, off + i, none⟩ = some (str x)) :
    Calls Tryd.prog 22 #[.slice (some ⟨g, off, none⟩) l.length cap, str s] w fun e w' => e = .returned (.int .i64 (namedP l s 0)) ∧ w' = w := by
  obtain ⟨n, hn⟩ : ∃ n, l.length = n := ⟨_, rfl⟩
  have hnil : Hid (∀ k, k = n → namedP (l.drop k) s k = -1) := Lib.hid (by intro k hk; rw [hk, ← hn, List.drop_length]; rfl)
  have hone : Hid (∀ k (h : k < l.length), namedP (l.drop k) s k = if l[k] = s ∧ l[k] ≠ [] then (k : Int) else namedP (l.drop (k + 1)) s (k + 1)) := Lib.hid (by intro k h; rw [List.drop_eq_getElem_cons h]; rfl)
  have hq0 : namedP l s 0 = namedP (l.drop 0) s 0 := rfl
  have hr' := Lib.hid hr
  clear hr
  unfold str at *
  rw [hn] at hl hc ⊢
  go_enter Tryd.func22, Tryd.ntmps22
  go_wp2_with fail
  go_loopw [9] (fun i wr => ∃ k : Nat, i = .int .i64 k ∧ k ≤ n ∧ Hid (namedP l s 0 = namedP (l.drop k) s k) ∧ wr = w) (fun i _ => n - (intOf i).toNat)
  case atStart => exact ⟨0, rfl, by omega, Lib.hid rfl, rfl⟩
  case round =>
    obtain ⟨k, rfl, hk, hq, rfl⟩ := hrel
    by_cases hlt : k < n
    · have ho := Lib.hid (hone.out k (by omega))
      have hx := hr'.out k _ (List.getElem?_eq_getElem (by omega))
      generalize l[k] = x at *
      go_wp2_with fail
      · rename_i e1 e2
        go_ret
        refine ⟨?_, rfl⟩
        rw [hq.out, ho.out, if_pos ⟨e1, fun h => by rw [← e1, h] at e2; cases e2⟩]; rfl
      · rename_i e1 e2
        refine ⟨⟨k + 1, by go_num, by omega, Lib.hid ?_, trivial⟩, by simp [intOf]; omega⟩
        rw [hq.out, ho.out, if_neg (fun h => ?_)]
        rw [← e1] at e2
        cases x with
        | nil => exact h.2 rfl
        | cons => cases e2
      · rename_i e1
        refine ⟨⟨k + 1, by go_num, by omega, Lib.hid ?_, trivial⟩, by simp [intOf]; omega⟩
        rw [hq.out, ho.out, if_neg (fun h => e1 h.1)]
    · obtain rfl : k = n := by omega
      have hz := hnil.out k rfl
      clear hlt hone hnil
      go_wp2_with fail
      go_ret
      exact ⟨by rw [hq.out, hz]; rfl, rfl⟩
end Go.Proofs.YtlldjildedbjlaaDoor.ToldW
