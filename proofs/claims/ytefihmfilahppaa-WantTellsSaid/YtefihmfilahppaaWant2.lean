/- Layer 12's walks: lists. No condition. -/
import Derived.Test.YtefihmfilahppaaWant
import Derived.Deep.DeepCutAuto
namespace Go.Proofs.Ytefihmfilahppaa.WantW
open Go.RowKit Go.Proofs.Ytefihmfilahppaa.Com Go.Proofs.Ytefihmfilahppaa.Ord Go.Proofs.Ytefihmfilahppaa.Tok Go.Proofs.Ytefihmfilahppaa.Half Go.Proofs.Ytefihmfilahppaa.Flat
set_option linter.unusedVariables false
/-- The last 64 of a list. -/
def lateL (l : List Int) : List Int := l.drop (l.length - 64)
def keepL (l : List Int) (v : Int) : List Int := lateL (l ++ [v])
theorem nums_len (l : List Int) : (nums l).length = l.length := by simp [nums]
theorem nums_at (l : List Int) (k : Nat) (h : k < l.length) : (nums l)[k]? = some (.int .i64 l[k]) := by simp [nums, h]
theorem Reads.len1 {w : World} {A : Option Addr} {n : Nat} {l : List Int} (h : Reads w 1 A n (nums l)) : l.length = n := by
  have := h.1; rw [nums_len] at this; omega
theorem Reads.num {w : World} {n : Nat} {ad : Addr} {l : List Int} (h : Reads w 1 (some ad) n (nums l)) {k : Nat} (hk : k < l.length) : w.cell? (ad.add k) = some (.int .i64 l[k]) := by
  obtain ⟨ad', e, hc⟩ := h.2 (by have := Reads.len1 h; omega)
  injection e with e
  subst e
  exact hc _ _ (nums_at l k hk)
theorem one_nums (l : List Int) : ∀ u ∈ nums l, u.oneCell' = true := by
  intro u hu
  obtain ⟨z, _, rfl⟩ := List.mem_map.1 hu
  rfl
theorem nums_drop (l : List Int) (k : Nat) : (nums l).drop k = nums (l.drop k) := by simp [nums]
theorem nums_snoc (l : List Int) (v : Int) : nums l ++ [.int .i64 v] = nums (l ++ [v]) := by simp [nums]
theorem info64 : (Try.prog.info? 2).map (fun i => (i.zero, i.size, i.bytes)) = some (some (.int .i64 0), 1, 8) := by kernel_rfl
theorem late_calls (A : Option Addr) (n cap : Nat) (l : List Int) (w : World) (hr : Reads w 1 A n (nums l)) (hc : n ≤ cap) (hn : n ≤ 1000000) :
    Calls Try.prog 52 #[.slice A n cap] w fun e w' => ∃ A' c', e = .returned (.slice A' (lateL l).length c') ∧ (lateL l).length ≤ c' ∧ Reads w 1 A' (lateL l).length (nums (lateL l)) ∧ w' = w := by
  have hl := Reads.len1 hr
  by_cases h : n ≤ 64
  · have e : lateL l = l := by unfold lateL; rw [show l.length - 64 = 0 by omega]; rfl
    rw [e, hl]
    have e1 : max (0 : Int) ((n : Int) - 64) = 0 := by omega
    have e2 : (0 : Int) ≤ (n : Int) := by omega
    have e3 : (n : Int) ≤ (cap : Int) := by omega
    have hr1 := Lib.hid hr
    clear hr e hl
    go_enter Try.func52, Try.ntmps52
    go_wp2_with fail
    go_ret
    exact ⟨A, cap, rfl, hc, hr1.out, rfl⟩
  · obtain ⟨k, rfl⟩ : ∃ k, n = k + 64 := ⟨n - 64, by omega⟩
    have e : lateL l = l.drop k := by unfold lateL; rw [show l.length - 64 = k by omega]
    have e4 : (lateL l).length = 64 := by rw [e, List.length_drop]; omega
    have hr1 := Lib.hid (hr.cut (k := k) (cap := cap) (by omega) hc)
    rw [Nat.mul_one, nums_drop, if_neg (show ¬ cap = k by omega), ← e, show k + 64 - k = 64 by omega] at hr1
    rw [e4]
    obtain ⟨ad, rfl, _⟩ := hr.2 (by omega)
    have e1 : max (0 : Int) (((k + 64 : Nat) : Int) - 64) = (k : Int) := by omega
    have e0 : max (0 : Int) ((k : Int) + 64 - 64) = (k : Int) := by omega
    have e2 : (0 : Int) ≤ (k : Int) := by omega
    have e3 : (k : Int) ≤ (k : Int) + 64 := by omega
    have e5 : (k : Int) + 64 ≤ (cap : Int) := by omega
    have e6 : ¬ cap = k := by omega
    have e7 : ((k : Int) + 64 - (k : Int)).toNat = 64 := by omega
    have e8 : 0 < k := by omega
    clear hr e e4 hl h
    go_enter Try.func52, Try.ntmps52
    go_wp2_with fail
    go_ret
    exact ⟨some (ad.add k), cap - k, rfl, by omega, hr1.out, rfl⟩
@[go_sem] theorem eqNone64 (n c : Nat) (w : World) : (binOp .eql 60 (.slice none n c) (.slice none 0 0)).run Try.prog w = .ok (.bool true) w := by
  rw [Lib.run_eql_slice_nil w _ _ _ _ _ _ _ Try.underlying60]; rfl
@[go_sem] theorem eqSome64 (ad : Addr) (n c : Nat) (w : World) : (binOp .eql 60 (.slice (some ad) n c) (.slice none 0 0)).run Try.prog w = .ok (.bool false) w := by
  rw [Lib.run_eql_slice_nil w _ _ _ _ _ _ _ Try.underlying60]; rfl
theorem Clone64 (A : Option Addr) (n cap : Nat) (l : List Int) (w : World) (hr : Reads w 1 A n (nums l)) (hn : n ≤ 1000000) :
    Calls Try.prog 54 #[.slice A n cap] w fun e w' => ∃ v, e = .returned v ∧ w'.ownsRow w.heap.size 2 1 v n (nums l) ∧ Below w.heap.size w w' := by
  obtain ⟨i0, hi0, hz0, hz1, hz2⟩ := info_parts info64
  cases A with
  | none =>
    have hn0 : n = 0 := by
      rcases Nat.eq_zero_or_pos n with h | h
      · exact h
      · obtain ⟨ad, h, _⟩ := hr.2 h; cases h
    subst hn0
    have e : nums l = [] := List.eq_nil_of_length_eq_zero (by simpa using hr.1)
    rw [e]
    go_enter Try.func54, Try.ntmps54
    go_wp2_with fail
    go_ret
    exact ⟨_, rfl, own_none _ _ _ _, by repeat (first | exact b_refl _ | apply b_drew | apply b_drewN | apply b_alloc)⟩
  | some ad =>
    go_enter Try.func54, Try.ntmps54
    go_wp2_with (first
      | (refine wpList_append_any _ rfl (.tmp 5) (.tmp 6) _ rfl w.heap.size 2 i0 _ 1 8 Try.underlying60 hi0 hz0 hz1 hz2 rfl (by omega) (.slice (some ⟨w.heap.size, 0, none⟩) 0 0) 0 [] rfl (own_empty (Blk.new _ _ _) (Nat.le_refl _)) (some ad) n cap _ rfl (hr.below (b_alloc (b_refl _) _)) (one_nums l) (by simp only [maxLen]; omega) (by omega) (by simp) ?_; intro v1 wa hown1 hg1 hat1))
    go_ret
    refine ⟨v1, rfl, by simpa using hown1, b_grown (b_alloc (b_refl _) _) hg1 (by simp [Value.ownBlock])⟩
theorem reads_num {w : World} {g : Nat} {t : TypeId} {v : Int} (h : Blk w g t #[.int .i64 v]) : Reads w 1 (some ⟨g, 0, none⟩) 1 (nums [v]) := by
  refine ⟨rfl, fun _ => ⟨_, rfl, fun j x hx => ?_⟩⟩
  rw [add_plain, h.cell]
  simpa [nums] using hx
theorem own_cap0 {w : World} {base : Nat} {e : TypeId} {size n c : Nat} {A : Option Addr} {xs : List Value} (h : w.ownsRow base e size (.slice A n c) n xs) : n ≤ c := by
  rcases h.2 with ⟨h1, h2⟩ | ⟨g, cap, cur, h1, _, _, h2, _⟩
  · omega
  · injection h1 with _ _ h3
    omega
theorem Keep_calls (A : Option Addr) (n cap : Nat) (l : List Int) (v : Int) (w : World) (hr : Reads w 1 A n (nums l)) (hn : n ≤ 10000) :
    Calls Try.prog 41 #[.slice A n cap, .int .i64 v] w fun e w' => ∃ A' c', e = .returned (.slice A' (keepL l v).length c') ∧ (keepL l v).length ≤ c' ∧ Reads w' 1 A' (keepL l v).length (nums (keepL l v)) ∧ Below w.heap.size w w' := by
  obtain ⟨i0, hi0, hz0, hz1, hz2⟩ := info_parts info64
  have q1 := Lib.hid (Clone64 A n cap l w hr (by omega))
  have q2 := Lib.hid (fun A' c' w h hc => late_calls A' (n + 1) c' (l ++ [v]) w h hc (by omega))
  rw [show lateL (l ++ [v]) = keepL l v from rfl] at q2
  go_enter Try.func41, Try.ntmps41
  go_wp2_with fail
  refine q1.out.mono ?_
  rintro e w1 ⟨v1, rfl, hown, hb⟩
  clear q1
  go_wp2_with (refine wpList_append_any _ rfl (.tmp 6) (.tmp 8) _ rfl w.heap.size 2 i0 _ 1 8 Try.underlying60 hi0 hz0 hz1 hz2 rfl (by omega) v1 n (nums l) rfl (hown.alloc _) (some ⟨w1.heap.size, 0, none⟩) 1 1 (nums [v]) rfl (reads_num (Blk.new _ _ _)) (one_nums [v]) (by simp only [maxLen]; omega) (by omega) (by have := hb.size; simp; omega) ?_; intro v2 w2 hown2 hg2 hat2; obtain ⟨A2, c2, rfl⟩ := own_slice hown2)
  have hcap := own_cap0 hown2
  have hrd := Reads.of_own hown2
  rw [show nums l ++ nums [v] = nums (l ++ [v]) by simp [nums]] at hrd
  have hB := b_grown_own (b_alloc hb (.cells #[.int .i64 v] 2)) (hown.alloc _) (Nat.le_refl _) hg2
  refine (q2.out _ _ _ hrd hcap).mono ?_
  rintro e w3 ⟨A', c', rfl, h1, h2, rfl⟩
  clear q2 hrd hcap hown hown2 hat2 hg2 hb hi0 hz0 hz1 hz2 i0
  go_wp2_with fail
  go_ret
  exact ⟨A', c', rfl, h1, h2, hB⟩
end Go.Proofs.Ytefihmfilahppaa.WantW
