/- Layer 11's walks: one more waits. No condition. -/
import Derived.Test.YtefihmfilahppaaJoinReg
import Derived.Deep.DeepCutAuto
namespace Go.Proofs.Ytefihmfilahppaa.LineW
open Go.RowKit Go.Proofs.Ytefihmfilahppaa.Com Go.Proofs.Ytefihmfilahppaa.StampW Go.Proofs.Ytefihmfilahppaa.RightsW Go.Proofs.Ytefihmfilahppaa.Ord
set_option linter.unusedVariables false
/-- What joining gives: the line, the code. -/
def joinL (c : Cfg) (who : Int) (l : List Req) (r : Req) : List Req × Int :=
  if mayL c who l = false then ([], 1) else if amB r.am = false then ([], 2) else if (l.length : Int) = c.Q then ([], 3) else if mayL c who (l ++ [r]) = false then ([], 1) else (l ++ [r], 0)
theorem Clone_calls (A : Option Addr) (n cap : Nat) (l : List Req) (w : World) (hr : Reads w 3 A n (cellsR l)) (hn : n ≤ 1000000) :
    Calls Try.prog 46 #[.slice A n cap] w fun e w' => ∃ v, e = .returned v ∧ w'.ownsRow w.heap.size 49 3 v n (cellsR l) ∧ Below w.heap.size w w' := by
  cases A with
  | some ad => exact Clone_some ad n cap l w hr hn
  | none =>
    rcases Nat.eq_zero_or_pos n with h | h
    · subst h
      have e : cellsR l = [] := List.eq_nil_of_length_eq_zero (by simpa using hr.1)
      rw [e]
      refine (Clone_none cap w).mono ?_
      rintro e w1 ⟨rfl, hb⟩
      exact ⟨_, rfl, own_none _ _ _ _, hb⟩
    · obtain ⟨ad, h, _⟩ := hr.2 h
      cases h
set_option maxRecDepth 100000 in
set_option maxHeartbeats 1000000 in
theorem Join_calls (c : Cfg) (who : Int) (A : Option Addr) (n cap : Nat) (l : List Req) (r : Req) (w : World) (hr : Reads w 3 A n (cellsR l)) (hn : n ≤ 1000) :
    Calls Try.prog 31 #[cfgV c, .int .i64 who, .slice A n cap, reqV r] w fun e w' => ∃ v, e = .returned (.tuple #[v, .int .i64 (joinL c who l r).2]) ∧ w'.ownsRow w.heap.size 49 3 v (joinL c who l r).1.length (cellsR (joinL c who l r).1) ∧ Below w.heap.size w w' := by
  obtain ⟨i0, hi0, hz0, hz1, hz2⟩ := info_parts infoReq
  have hll : l.length = n := by have := hr.1; rw [cellsR_len] at this; omega
  have hj : Hid (joinL c who l r = if mayL c who l = false then ([], 1) else if amB r.am = false then ([], 2) else if (n : Int) = c.Q then ([], 3) else if mayL c who (l ++ [r]) = false then ([], 1) else (l ++ [r], 0)) := Lib.hid (by unfold joinL; rw [hll])
  generalize hb1 : mayL c who l = b1 at hj
  generalize hb2 : amB r.am = b2 at hj
  have q1 := Lib.hid (fun (w : World) (hr : Reads w 3 A n (cellsR l)) => hb1 ▸ LMay_calls c who A n cap l w hr (by omega))
  have q2 := Lib.hid (fun (w : World) => hb2 ▸ amount_calls r.am w)
  clear hb1 hb2
  unfold cfgV at q1
  unfold cfgV reqV
  have hr1 := hr
  cases b1
  · rw [show joinL c who l r = ([], 1) by rw [hj.out]; rfl]
    clear hj
    go_enter Try.func31, Try.ntmps31
    go_wp2_with (go_at_call 33; refine (q1.out _ (hr1.below (b_alloc (b_alloc (b_refl _) _) _))).mono ?_; rintro e w1 ⟨rfl, hb⟩)
    refine bodyPost_ret (v := .tuple #[.slice none 0 0, .int .i64 1]) (by simp [results, Try.results31, go_sem]) rfl ⟨_, rfl, own_none _ _ _ _, ?_⟩
    exact b_step (b_alloc (b_alloc (b_refl _) _) _) hb
  cases b2
  · rw [show joinL c who l r = ([], 2) by rw [hj.out]; rfl]
    clear hj
    go_enter Try.func31, Try.ntmps31
    go_wp2_with (first | (go_at_call 33; refine (q1.out _ (hr1.below (b_alloc (b_alloc (b_refl _) _) _))).mono ?_; rintro e w1 ⟨rfl, hb⟩; (have z1 := b_keep (a := ⟨w.heap.size, 1, none⟩) (v := .int .i64 c.Q) hb (by go_simp); have y2 := b_keep (a := ⟨w.heap.size + 1, 2, none⟩) (v := .int .i64 r.am) hb (by go_simp))) | (go_at_call 45; refine (q2.out _).mono ?_; rintro e w2 ⟨rfl, rfl⟩))
    refine bodyPost_ret (v := .tuple #[.slice none 0 0, .int .i64 2]) (by simp [results, Try.results31, go_sem]) rfl ⟨_, rfl, own_none _ _ _ _, ?_⟩
    exact b_step (b_alloc (b_alloc (b_refl _) _) _) hb
  by_cases g3 : (n : Int) = c.Q
  · rw [show joinL c who l r = ([], 3) by rw [hj.out, if_neg (by simp), if_neg (by simp), if_pos g3]]
    clear hj
    have e3 : ((n : Int) == c.Q) = true := beq_iff_eq.2 g3
    go_enter Try.func31, Try.ntmps31
    go_wp2_with (first | (go_at_call 33; refine (q1.out _ (hr1.below (b_alloc (b_alloc (b_refl _) _) _))).mono ?_; rintro e w1 ⟨rfl, hb⟩; (have z1 := b_keep (a := ⟨w.heap.size, 1, none⟩) (v := .int .i64 c.Q) hb (by go_simp); have y2 := b_keep (a := ⟨w.heap.size + 1, 2, none⟩) (v := .int .i64 r.am) hb (by go_simp))) | (go_at_call 45; refine (q2.out _).mono ?_; rintro e w2 ⟨rfl, rfl⟩))
    refine bodyPost_ret (v := .tuple #[.slice none 0 0, .int .i64 3]) (by simp [results, Try.results31, go_sem]) rfl ⟨_, rfl, own_none _ _ _ _, ?_⟩
    exact b_step (b_alloc (b_alloc (b_refl _) _) _) hb
  have e3 : ((n : Int) == c.Q) = false := beq_eq_false_iff_ne.2 g3
  have hj2 : Hid (joinL c who l r = if mayL c who (l ++ [r]) = false then ([], 1) else (l ++ [r], 0)) := Lib.hid (by rw [hj.out, if_neg (by simp), if_neg (by simp), if_neg g3])
  clear hj
  go_enter Try.func31, Try.ntmps31
  go_upto_region 7 with (first | (go_at_call 33; refine (q1.out _ (hr1.below (b_alloc (b_alloc (b_refl _) _) _))).mono ?_; rintro e w1 ⟨rfl, hb⟩; (have z0 := b_keep (a := ⟨w.heap.size, 0, none⟩) (v := .int .i64 c.N) hb (by go_simp); have z1 := b_keep (a := ⟨w.heap.size, 1, none⟩) (v := .int .i64 c.Q) hb (by go_simp); have z2 := b_keep (a := ⟨w.heap.size, 2, none⟩) (v := .int .i64 c.R) hb (by go_simp); have z3 := b_keep (a := ⟨w.heap.size, 3, none⟩) (v := .int .i64 c.P) hb (by go_simp); have z4 := b_keep (a := ⟨w.heap.size, 4, none⟩) (v := .int .i64 c.K) hb (by go_simp); have z5 := b_keep (a := ⟨w.heap.size, 5, none⟩) (v := .int .i64 c.C) hb (by go_simp); have y0 := b_keep (a := ⟨w.heap.size + 1, 0, none⟩) (v := .int .i64 r.t) hb (by go_simp); have y1 := b_keep (a := ⟨w.heap.size + 1, 1, none⟩) (v := .int .i64 r.o) hb (by go_simp); have y2 := b_keep (a := ⟨w.heap.size + 1, 2, none⟩) (v := .int .i64 r.am) hb (by go_simp))) | (go_at_call 45; refine (q2.out _).mono ?_; rintro e w1 ⟨rfl, rfl⟩))
  have hb' : Below w.heap.size w w1 := b_step (b_alloc (b_alloc (b_refl _) _) _) hb
  replace hr := hr.below hb'
  go_cut [10] (fun s10 wx => wx.ownsRow w1.heap.size 49 3 s10 (n + 1) (cellsR (l ++ [r])) ∧ Below w1.heap.size w1 wx)
  case first =>
    have hc : ∀ (w : World), Below w1.heap.size w1 w → Calls Try.prog 46 #[.slice A n cap] w fun e w' => ∃ v, e = .returned v ∧ w'.ownsRow w.heap.size 49 3 v n (cellsR l) ∧ Below w.heap.size w w' :=
      fun w h => Clone_calls A n cap l w (hr.below h) (by omega)
    refine wp_region_inv_at [(0, [], [1, 5]), (1, [0], [4, 5]), (2, [], [3, 5]), (3, [2], [4, 5]), (4, [1, 3, 1], [5]), (5, [4, 4, 0, 1, 2, 3, 4], [])] (fun a0 b a w' => ∃ g31 v29 v32, LJ A n cap w1.heap.size (cellsR l) r a0 w1 b a w' g31 v29 v32) (by kernel_rfl) (by kernel_rfl) (by kernel_rfl) ⟨0, undef, undef, ?_⟩ ⟨?_, ?_, ?_, ?_, ?_, ?_, trivial⟩ ?_
    · constructor
      case same => exact Same.refl _ _
      case below => exact b_drew (b_refl _)
      all_goals (intro h; exact absurd h (by simp))
    · exact LJ_step0 _ _ _ _ _ _ _ _ rfl rfl rfl rfl (Nat.le_of_ble_eq_true rfl) rfl rfl
    · exact LJ_step1 _ _ _ _ _ _ _ _ rfl rfl rfl rfl (Nat.le_of_ble_eq_true rfl) rfl hc
    · exact LJ_step2 _ _ _ _ _ _ _ _ rfl rfl rfl rfl (Nat.le_of_ble_eq_true rfl) rfl _ rfl y0 y1 y2
    · exact LJ_step3 _ _ _ _ _ _ _ _ rfl rfl rfl rfl (Nat.le_of_ble_eq_true rfl) rfl
    · exact LJ_step4 _ _ _ _ _ _ _ _ rfl rfl rfl rfl (Nat.le_of_ble_eq_true rfl) rfl rfl i0 hi0 hz0 hz1 hz2 (by omega)
    · exact LJ_step5 _ _ _ _ _ _ _ _ rfl rfl rfl rfl (Nat.le_of_ble_eq_true rfl) rfl
    · rintro b a' wx hall ⟨g31, v29, v32, f⟩
      have ha := LJ.done _ _ _ _ _ _ f (Nat.le_of_ble_eq_true rfl) hall
      have z := f.W32 (hall 4 (Nat.le_of_ble_eq_true rfl))
      have zb := f.below
      rw [cellsR_snoc] at z
      clear f hall
      subst ha
      simp only [puts, Act.put, List.setIfInBounds_toArray, List.set_cons_zero, List.set_cons_succ]
      go_wp2_with fail
      go_meet
      case rel => exact ⟨z, zb⟩
  case rest =>
    obtain ⟨hown, hbx⟩ := hcut
    obtain ⟨A2, c2, rfl⟩ := own_slice hown
    have hm2 : Hid (mayL c who (l ++ [r]) = mayL c who (l ++ [r])) := Lib.hid rfl
    generalize hb3 : mayL c who (l ++ [r]) = b3 at hj2
    have q3 := Lib.hid (hb3 ▸ LMay_calls c who A2 (n + 1) c2 (l ++ [r]) wc (Reads.of_own hown) (by omega))
    clear hb3 hm2
    unfold cfgV at q3
    replace z0 := b_keep hbx z0
    replace z1 := b_keep hbx z1
    replace z2 := b_keep hbx z2
    replace z3 := b_keep hbx z3
    replace z4 := b_keep hbx z4
    replace z5 := b_keep hbx z5
    cases b3
    · have hj3 : Hid (joinL c who l r = ([], 1)) := Lib.hid (by rw [hj2.out]; rfl)
      clear hj2
      go_wp2_with (first | (go_at_call 33; refine q3.out.mono ?_; rintro e w4 ⟨rfl, hb4⟩))
      rw [hj3.out]
      refine bodyPost_ret (v := .tuple #[.slice none 0 0, .int .i64 1]) (by simp [results, Try.results31, go_sem]) rfl ⟨_, rfl, own_none _ _ _ _, ?_⟩
      exact b_step (b_step hb' hbx) hb4
    · have hj3 : Hid (joinL c who l r = (l ++ [r], 0)) := Lib.hid (by rw [hj2.out]; rfl)
      clear hj2
      go_wp2_with (first | (go_at_call 33; refine q3.out.mono ?_; rintro e w4 ⟨rfl, hb4⟩))
      rw [hj3.out]
      refine bodyPost_ret (v := .tuple #[.slice A2 (n + 1) c2, .int .i64 0]) (by simp [results, Try.results31, go_sem]) rfl ⟨_, rfl, ?_, ?_⟩
      · have := own_less (own_below hown hb4) hb'.size
        simpa [hll] using this
      · exact b_step (b_step hb' hbx) hb4
end Go.Proofs.Ytefihmfilahppaa.LineW
