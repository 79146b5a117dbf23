/- Layer 12's reference, walked: what is kept; the same numbers. No condition. -/
import Derived.Test.YtefihmfilahppaaWant4
namespace Go.Proofs.Ytefihmfilahppaa.WantW
open Go.RowKit Go.Proofs.Ytefihmfilahppaa.Com Go.Proofs.Ytefihmfilahppaa.Ord Go.Proofs.Ytefihmfilahppaa.Tok Go.Proofs.Ytefihmfilahppaa.Half Go.Proofs.Ytefihmfilahppaa.Flat
set_option linter.unusedVariables false
set_option maxHeartbeats 1000000 in
theorem RKeep_calls (A : Option Addr) (n cap : Nat) (l : List Int) (v : Int) (w : World) (hr : Reads w 1 A n (nums l)) (hn : n ≤ 10000) :
    Calls Try.prog 42 #[.slice A n cap, .int .i64 v] w fun e w' => ∃ A' c', e = .returned (.slice A' (keepL l v).length c') ∧ Reads w' 1 A' (keepL l v).length (nums (keepL l v)) ∧ Below w.heap.size w w' := by
  obtain ⟨i0, hi0, hz0, hz1, hz2⟩ := info_parts info64
  have hl := Reads.len1 hr
  go_enter Try.func42, Try.ntmps42
  go_upto_region 2 with (first
    | (refine wpList_append_any _ rfl (.tmp 6) (.tmp 7) _ rfl w.heap.size 2 i0 _ 1 8 Try.underlying60 hi0 hz0 hz1 hz2 rfl (by omega) (.slice (some ⟨w.heap.size, 0, none⟩) 0 0) 0 [] rfl (own_empty (Blk.new _ _ _) (Nat.le_refl _)) A n cap _ rfl (hr.below (b_alloc (b_refl _) _)) (one_nums l) (by simp only [maxLen]; omega) (by omega) (by simp) ?_; intro v1 wa hown1 hg1 hat1)
    | (refine wpList_append_any _ rfl (.tmp 8) (.tmp 10) _ rfl w.heap.size 2 i0 _ 1 8 Try.underlying60 hi0 hz0 hz1 hz2 rfl (by omega) v1 (0 + n) ([] ++ nums l) rfl (hown1.alloc _) (some ⟨wa.heap.size, 0, none⟩) 1 1 (nums [v]) rfl (reads_num (Blk.new _ _ _)) (one_nums [v]) (by simp only [maxLen]; omega) (by omega) (by have := hg1.size; simp at this ⊢; omega) ?_; intro v2 wb hown2 hg2 hat2))
  have hb1 : Below w.heap.size w wa := b_grown (b_alloc (b_refl _) _) hg1 (by simp [Value.ownBlock])
  have hB : Below w.heap.size w wb := b_grown_own (b_alloc hb1 (.cells #[.int .i64 v] 2)) (hown1.alloc _) (Nat.le_refl _) hg2
  rw [List.nil_append, show nums l ++ nums [v] = nums (l ++ [v]) by simp [nums], Nat.zero_add] at hown2
  obtain ⟨A2, c2, rfl⟩ := own_slice hown2
  have hcap := own_cap0 hown2
  have hrd := Reads.of_own hown2
  clear hb1 hg1 hg2 hat1 hat2 hown1 hown2 hi0 hz0 hz1 hz2 i0
  try simp only [Nat.zero_add]
  by_cases h : n + 1 ≤ 64
  · have e : keepL l v = l ++ [v] := by unfold keepL lateL; rw [show (l ++ [v]).length - 64 = 0 by simp; omega]; rfl
    have e1 : Hid ((keepL l v).length = n + 1) := Lib.hid (by rw [e]; simp [hl])
    have e2 : decide (((n + 1 : Nat) : Int) > 64) = false := decide_eq_false (by omega)
    have e3 : decide ((64 : Int) < (n : Int) + 1) = false := decide_eq_false (by omega)
    have e4 : decide ((n : Int) + 1 > 64) = false := decide_eq_false (by omega)
    have HE := Lib.hid e
    have HL := Lib.hid hl
    clear e hl
    go_wp2_with fail
    go_ret
    exact ⟨A2, c2, by rw [e1.out]; rfl, by rw [e1.out, HE.out]; exact hrd, hB⟩
  · obtain ⟨k, rfl⟩ : ∃ k, n = k + 63 := ⟨n - 63, by omega⟩
    have hk : 0 < k := by omega
    have e : keepL l v = (l ++ [v]).drop k := by unfold keepL lateL; rw [show (l ++ [v]).length - 64 = k by simp; omega]
    have e1 : Hid ((keepL l v).length = 64) := Lib.hid (by rw [e, List.length_drop]; simp; omega)
    have hr1 := Lib.hid (hrd.cut (k := k) (cap := c2) (by omega) hcap)
    rw [Nat.mul_one, nums_drop, if_neg (show ¬ c2 = k by omega), ← e, show k + 63 + 1 - k = 64 by omega] at hr1
    obtain ⟨ad, rfl, _⟩ := hrd.2 (by omega)
    have e2 : decide ((k : Int) + 63 + 1 > 64) = true := decide_eq_true (by omega)
    have e3 : (k : Int) + 63 + 1 - 64 = (k : Int) := by omega
    have e5 : (k : Int) ≤ (k : Int) + 63 + 1 := by omega
    have e6 : (k : Int) + 63 + 1 ≤ (c2 : Int) := by omega
    have e7 : ((k : Int) + 63 + 1 - (k : Int)).toNat = 64 := by omega
    have e8 : ¬ c2 = k := by omega
    have e9 : (0 : Int) ≤ (k : Int) := by omega
    have HL := Lib.hid hl
    clear e hl hrd hr
    go_wp2_with fail
    go_ret
    exact ⟨some (ad.add k), c2 - k, by rw [e1.out, show 64 = k + 63 + 1 - k by omega]; rfl, by rw [e1.out]; exact hr1.out, hB⟩
def sameI (a b : List Int) (k : Nat) : Bool := (List.range k).all fun j => decide (a[j]? = b[j]?)
theorem sameI_succ (a b : List Int) (k : Nat) : sameI a b (k + 1) = (sameI a b k && decide (a[k]? = b[k]?)) := by
  unfold sameI
  rw [List.range_succ, List.all_append]
  simp
theorem sameI_all {a b : List Int} (h : a.length = b.length) : sameI a b a.length = decide (a = b) := by
  unfold sameI
  by_cases e : a = b
  · subst e; simp
  · rw [decide_eq_false e, List.all_eq_false]
    have : ¬ ∀ j, a[j]? = b[j]? := fun hj => e (List.ext_getElem? hj)
    obtain ⟨j, hj⟩ := Classical.not_forall.1 this
    refine ⟨j, List.mem_range.2 ?_, by simpa using hj⟩
    rcases Nat.lt_or_ge j a.length with h1 | h1
    · exact h1
    · exact absurd (by rw [List.getElem?_eq_none h1, List.getElem?_eq_none (by omega)]) hj
theorem sameI_false {a b : List Int} {k m : Nat} (h : decide (a[k]? = b[k]?) = false) (hk : k < m) : sameI a b m = false := by
  unfold sameI
  rw [List.all_eq_false]
  exact ⟨k, List.mem_range.2 hk, by simpa using h⟩
set_option maxHeartbeats 1000000 in
theorem Same64 (A B : Option Addr) (n m c1 c2 : Nat) (a b : List Int) (w : World) (ha : Reads w 1 A n (nums a)) (hb : Reads w 1 B m (nums b)) (hn : n ≤ 1000000) :
    Calls Try.prog 40 #[.slice A n c1, .slice B m c2] w fun e w' => e = .returned (.bool (decide (a = b))) ∧ Below w.heap.size w w' := by
  have hla := Reads.len1 ha
  have hlb := Reads.len1 hb
  by_cases hnm : n = m
  · have hs : Hid (sameI a b n = decide (a = b)) := Lib.hid (by rw [← hla]; exact sameI_all (by omega))
    have e1 : ((n : Int) != (m : Int)) = false := by simp [hnm]
    have HN := Lib.hid hnm
    clear hnm
    go_enter Try.func40, Try.ntmps40
    go_wp2_with fail
    go_loopw [5] (fun i wr => ∃ k : Nat, i = .int .i64 k ∧ k ≤ n ∧ Hid (sameI a b k = true) ∧ Below w.heap.size w wr) (fun i _ => n - (intOf i).toNat)
    case atStart => exact ⟨0, rfl, by omega, Lib.hid rfl, b_refl _⟩
    case round =>
      obtain ⟨k, rfl, hk, hq, hbr⟩ := hrel
      by_cases hlt : k < n
      · have hlt2 : k < m := by have := HN.out; omega
        obtain ⟨ad, rfl, _⟩ := ha.2 (by omega)
        obtain ⟨bd, rfl, _⟩ := hb.2 (by omega)
        have r0 := Reads.num (ha.below hbr) (k := k) (by omega)
        have s0 := Reads.num (hb.below hbr) (k := k) (by omega)
        have hq2 := Lib.hid (sameI_succ a b k)
        have hq3 := Lib.hid (fun (h : decide (a[k]? = b[k]?) = false) => sameI_false h hlt)
        have he : Hid (decide (a[k]? = b[k]?) = !(a[k] != b[k])) := Lib.hid (by
          rw [List.getElem?_eq_getElem (by omega), List.getElem?_eq_getElem (by omega)]
          generalize a[k] = x
          generalize b[k] = y
          rw [Bool.eq_iff_iff]
          simp)
        generalize a[k] = x0 at *
        generalize b[k] = y0 at *
        have o0 := On.cell r0
        have p0 := On.cell s0
        cases hE : (x0 != y0)
        · have hq4 : Hid (sameI a b (k + 1) = true) := Lib.hid (by rw [hq2.out, hq.out, he.out, hE]; rfl)
          clear hq2 hq3 he
          go_wp2_with fail
          refine wp_region_on (by kernel_rfl) (by kernel_rfl) ?_
          repeat (go_big_quiet_step (fail))
          refine wpQuiet_nil ?_
          rintro _ ⟨⟨w2, hb2⟩, rfl⟩
          go_wp2_with fail
          go_roundw
          case rel => exact ⟨k + 1, by go_num, by omega, hq4, b_step hbr hb2⟩
          case measure => simp [intOf]; omega
        · have hq4 : Hid (decide (a = b) = false) := Lib.hid (by rw [← hs.out]; exact hq3.out (by rw [he.out, hE]; rfl))
          clear hq2 hq3 he
          go_wp2_with fail
          refine wp_region_on (by kernel_rfl) (by kernel_rfl) ?_
          repeat (go_big_quiet_step (fail))
          refine wpQuiet_nil ?_
          rintro _ ⟨⟨w2, hb2⟩, rfl⟩
          go_wp2_with fail
          rw [hq4.out]
          go_ret
          exact ⟨rfl, b_step hbr hb2⟩
      · have hkn : Hid (decide (a = b) = true) := Lib.hid (by
          obtain rfl : k = n := by omega
          rw [← hs.out, hq.out])
        go_wp2_with fail
        rw [hkn.out]
        go_ret
        exact ⟨rfl, hbr⟩
  · have e1 : ((n : Int) != (m : Int)) = true := by rw [bne_iff_ne]; omega
    have e2 : decide (a = b) = false := decide_eq_false (by intro h; subst h; omega)
    go_enter Try.func40, Try.ntmps40
    go_wp2_with fail
    go_ret
    exact ⟨by rw [e2]; rfl, b_refl _⟩
theorem reads_nums {w : World} {g : Nat} {t : TypeId} {cs : Array Value} {l : List Int} (h : Blk w g t cs) (hc : cs.toList = nums l) : Reads w 1 (some ⟨g, 0, none⟩) l.length (nums l) := by
  refine ⟨by simp [nums], fun _ => ⟨_, rfl, fun j x hx => ?_⟩⟩
  rw [add_plain, h.cell, ← Array.getElem?_toList, hc]
  exact hx
theorem est3 : estL [8, 4, 0] = (6, 1) := by decide
theorem keep2 : (keepL [1] 2).length = 2 := by decide
set_option maxHeartbeats 1000000 in
theorem awake12 (w : World) : Calls Try.prog 37 #[] w fun e w' => e = .returned (.bool true) ∧ Below w.heap.size w w' := by
  have q1 := fun (w : World) (g : Nat) (h : Reads w 1 (some ⟨g, 0, none⟩) 3 (nums [8, 4, 0])) => Estimate_calls (some ⟨g, 0, none⟩) 3 3 [8, 4, 0] w h (by omega) (by omega)
  rw [est3] at q1
  have q2 := fun (w : World) (g : Nat) (h : Reads w 1 (some ⟨g, 0, none⟩) 1 (nums [1])) => Keep_calls (some ⟨g, 0, none⟩) 1 1 [1] 2 w h (by omega)
  rw [keep2] at q2
  generalize keepL [1] 2 = K at q2
  replace q1 := Lib.hid q1
  replace q2 := Lib.hid q2
  go_enter Try.func37, Try.ntmps37
  go_wp2_with fail
  refine (q1.out _ _ (reads_nums (l := [8, 4, 0]) (Blk.new w 2 #[.int .i64 8, .int .i64 4, .int .i64 0]) rfl)).mono ?_
  rintro e w1 ⟨rfl, rfl⟩
  clear q1
  go_wp2_with fail
  have hR : Reads ((w.alloc (.cells #[.int .i64 8, .int .i64 4, .int .i64 0] 2)).alloc (.cells #[.int .i64 1] 2)) 1 (some ⟨w.heap.size + 1, 0, none⟩) 1 (nums [1]) := by
    have h := reads_num (v := 1) (Blk.new (w.alloc (.cells #[.int .i64 8, .int .i64 4, .int .i64 0] 2)) 2 #[.int .i64 1])
    rwa [World.size_alloc] at h
  refine (q2.out _ _ hR).mono ?_
  rintro e w2 ⟨A', c', rfl, _, _, hb⟩
  go_wp2_with fail
  go_ret
  exact ⟨rfl, b_step (b_alloc (b_alloc (b_refl _) _) _) hb⟩
end Go.Proofs.Ytefihmfilahppaa.WantW
