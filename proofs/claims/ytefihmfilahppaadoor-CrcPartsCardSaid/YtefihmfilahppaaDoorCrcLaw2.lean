/- The laws CrcParts and CrcMore, walked. Condition: the table lies in memory as the program lays it. -/
import Derived.Test.YtefihmfilahppaaDoorCrcLaw
namespace Go.Proofs.YtefihmfilahppaaDoor.CrcW
open Go.RowKit Go.Proofs.YtefihmfilahppaaDoor.Com Go.Proofs.YtefihmfilahppaaDoor.Crc
set_option linter.unusedVariables false

theorem Reads.slice {w : World} {n lo hi : Nat} {ad : Addr} {f : Int → Value} {xs : List Int} (h : Reads w 1 (some ad) n (xs.map f)) (h1 : lo ≤ hi) (h2 : hi ≤ n) :
    Reads w 1 (some (ad.add lo)) (hi - lo) (((xs.drop lo).take (hi - lo)).map f) := by
  have hl : xs.length = n := by have := h.1; simpa using this
  refine ⟨by simp; omega, fun hn => ⟨_, rfl, fun j u hu => ?_⟩⟩
  obtain ⟨ad', e, hc⟩ := h.2 (by omega)
  injection e with e
  subst e
  rw [add_of_add]
  refine hc _ u ?_
  rw [List.getElem?_map] at hu ⊢
  obtain ⟨y, hy, rfl⟩ := Option.map_eq_some_iff.1 hu
  have hj : j < hi - lo := by
    have := (List.getElem?_eq_some_iff.1 hy).1
    simp at this
    omega
  rw [List.getElem?_take_of_lt hj, List.getElem?_drop] at hy
  rw [hy]
  rfl

theorem more_snoc (xs : List Int) (k : Nat) (h : k < xs.length) : more (more 0#32 ((xs.take k).map bv)) (((xs.drop k).take 1).map bv) = more 0#32 ((xs.take (k + 1)).map bv) := by
  have e : xs.take k ++ (xs.drop k).take 1 = xs.take (k + 1) := by
    rw [List.take_succ_eq_append_getElem h, List.drop_eq_getElem_cons h]
    rfl
  rw [← more_append, ← List.map_append, e]

set_option maxHeartbeats 1000000 in
theorem parts_walk (A : Option Addr) (n c : Nat) (xs : List Int) (at_ : Int) (w : World) (hr : Reads w 1 A n (xs.map fun x => .int .u8 x)) (hn : n ≤ 9223372036854775807)
    (hx : ∀ x ∈ xs, 0 ≤ x ∧ x ≤ 255) (hnc : n ≤ c) (hAc : A = none → c = 0) (hat : 0 ≤ at_ ∧ at_ ≤ 65535) (hT : Table w) :
    Calls Tryd.prog 5 #[.slice A n c, .int .u16 at_] w fun e w' => e = .returned (.bool true) ∧ Below w.heap.size w w' := by
  by_cases hs : n ≤ 3000
  · have aw := Lib.hid (awake_calls w hT)
    have q0 := Lib.hid (fun w' (hb : Below w.heap.size w w') => none_sum ▸ Sum_calls none 0 0 [] w' Reads.none_ (by omega) (by simp) (hT.below hb))
    have HT := Lib.hid hT
    have HX := Lib.hid hx
    obtain ⟨ha0, ha1⟩ := hat
    have hl : xs.length = n := by have := hr.1; simpa using this
    clear hT hx
    go_enter Tryd.func5, Tryd.ntmps5
    go_wp2_with (first
      | (go_at_call 6; refine aw.out.mono ?_; rintro e w1 ⟨rfl, hb⟩)
      | (go_at_call 7; refine (q0.out _ hb).mono ?_; rintro e w1 ⟨rfl, rfl⟩))
    replace hr := hr.below hb
    replace HT := Lib.hid (HT.out.below hb)
    go_loop [5, 6] (fun s i => ∃ k : Nat, i = .int .i64 k ∧ k ≤ n ∧ s = .int .u32 (num (more 0#32 ((xs.take k).map bv)))) (fun _ i => n - (intOf i).toNat)
    case atStart => exact ⟨0, rfl, by omega, by rw [← none_sum]; rfl⟩
    case round =>
      obtain ⟨k, rfl, hk, rfl⟩ := hrel
      by_cases hlt : k < n
      · obtain ⟨ad, rfl, _⟩ := hr.2 (by omega)
        have hz := more_snoc xs k (by omega)
        have q := Lib.hid (More_calls (more 0#32 ((xs.take k).map bv)) (some (ad.add k)) 1 (c - k) ((xs.drop k).take 1) w1 (by have := Reads.slice hr (lo := k) (hi := k + 1) (by omega) (by omega); simpa using this) (by omega) (fun x hx => HX.out x (List.mem_of_mem_drop (List.mem_of_mem_take hx))) HT.out)
        rw [hz] at q
        generalize hv : more 0#32 ((xs.take (k + 1)).map bv) = v at q hz
        generalize more 0#32 ((xs.take k).map bv) = u at q hz
        have HV := Lib.hid hv
        have hkc : k < c := by omega
        clear hz hv
        go_wp2_with fail
        refine q.out.mono ?_
        rintro e w2 ⟨rfl, rfl⟩
        go_wp2_with fail
        go_round
        case rel => exact ⟨k + 1, by go_num, by omega, by rw [HV.out]⟩
        case measure => simp [intOf]; omega
      · obtain rfl : k = n := by omega
        have hM : (xs.take k).map bv = xs.map bv := by rw [← hl, List.take_length]
        rw [hM]
        obtain ⟨j, hj⟩ : ∃ j : Nat, at_ % ((k : Int) + 1) = (j : Int) := ⟨(at_ % ((k : Int) + 1)).toNat, by have := Int.emod_nonneg at_ (show (k : Int) + 1 ≠ 0 by omega); omega⟩
        have hjk : j ≤ k := by have := Int.emod_lt_of_pos at_ (show 0 < (k : Int) + 1 by omega); omega
        have hd : ∀ m, Below w1.heap.size w1 (w1.drewN m) := fun m => b_drewN (b_refl _) m
        have q1 := Lib.hid (fun m => Sum_calls A k c xs (w1.drewN m) (hr.below (hd m)) hn HX.out (HT.out.below (hd m)))
        have q2 := Lib.hid (fun m => Sum_calls A j c (xs.take j) (w1.drewN m) (by
          refine Reads.below (w := w1) ⟨by simp; omega, fun h0 => ?_⟩ (hd m)
          obtain ⟨ad, rfl, hc⟩ := hr.2 (by omega)
          refine ⟨ad, rfl, fun i u hu => hc i u ?_⟩
          rw [List.getElem?_map] at hu ⊢
          obtain ⟨y, hy, rfl⟩ := Option.map_eq_some_iff.1 hu
          have hij : i < j := by
            have := (List.getElem?_eq_some_iff.1 hy).1
            simp at this
            omega
          rw [List.getElem?_take_of_lt hij] at hy
          rw [hy]; rfl) (by omega) (fun x hx => HX.out x (List.mem_of_mem_take hx)) (HT.out.below (hd m)))
        have q4 := Lib.hid (fun m => show Calls Tryd.prog 9 #[.int .u32 (num (more 0#32 (xs.map bv))), .slice none 0 0] (w1.drewN m) (fun e w' => e = .returned (.int .u32 (num (more 0#32 (xs.map bv)))) ∧ w' = w1.drewN m) from by
          have := More_calls (more 0#32 (xs.map bv)) none 0 0 [] (w1.drewN m) Reads.none_ (by omega) (by simp) (HT.out.below (hd m))
          have e : more (more 0#32 (xs.map bv)) (([] : List Int).map bv) = more 0#32 (xs.map bv) := by rw [← more_append]; simp
          rwa [e] at this)
        have hmm : more (more 0#32 ((xs.take j).map bv)) ((xs.drop j).map bv) = more 0#32 (xs.map bv) := by rw [← more_append, ← List.map_append, List.take_append_drop]
        have hrd : ∀ (B : Option Addr), (j < k → ∃ ad, A = some ad ∧ B = some (ad.add j)) → ∀ m, Calls Tryd.prog 9 #[.int .u32 (num (more 0#32 ((xs.take j).map bv))), .slice B (k - j) (c - j)] (w1.drewN m) fun e w' => e = .returned (.int .u32 (num (more 0#32 (xs.map bv)))) ∧ w' = w1.drewN m := fun B hB m => by
          have := More_calls (more 0#32 ((xs.take j).map bv)) B (k - j) (c - j) (xs.drop j) (w1.drewN m) (by
            refine Reads.below (w := w1) ⟨by simp; omega, fun h0 => ?_⟩ (hd m)
            obtain ⟨ad, rfl, rfl⟩ := hB (by omega)
            have := (Reads.slice hr (lo := j) (hi := k) (by omega) (by omega)).2 (by omega)
            rwa [List.take_of_length_le (show (xs.drop j).length ≤ k - j by simp; omega)] at this) (by omega) (fun x hx => HX.out x (List.mem_of_mem_drop hx)) (HT.out.below (hd m))
          rwa [hmm] at this
        have hPM : j = k → more 0#32 ((xs.take j).map bv) = more 0#32 (xs.map bv) := fun e => by rw [e, hM]
        generalize more 0#32 (xs.map bv) = M at *
        generalize more 0#32 ((xs.take j).map bv) = P at *
        clear hM hmm hr hd
        have hj0 : (j : Int) ≤ (k : Int) := by omega
        rcases A with _ | ad
        · have hc0 := hAc rfl
          subst hc0
          obtain rfl : k = 0 := by omega
          obtain rfl : j = 0 := by omega
          have q3 := Lib.hid (hrd none (fun h => absurd h (by omega)))
          obtain rfl := hPM rfl
          clear hrd hAc hPM
          go_wp2_with fail
          go_quiet (first
            | (go_at_call 7; with_reducible exact Calls.quiet_of_same (q1.out _))
            | (go_at_call 7; with_reducible exact Calls.quiet_of_same (q2.out _))
            | (go_at_call 9; with_reducible exact Calls.quiet_of_same (q3.out _))
            | (go_at_call 9; with_reducible exact Calls.quiet_of_same (q4.out _)))
          go_wp2_with fail
          go_ret
          exact ⟨rfl, b_drewN hb _⟩
        · by_cases hck : c = j
          · have q3 := Lib.hid (hrd (some ad) (fun h => absurd h (by omega)))
            clear hrd hAc
            subst hck
            obtain rfl : k = c := by omega
            obtain rfl := hPM rfl
            clear hPM
            have q3 := q3.out
            simp only [Nat.sub_self] at q3
            have q3 := Lib.hid q3
            go_wp2_with fail
            go_quiet (first
              | (go_at_call 7; with_reducible exact Calls.quiet_of_same (q1.out _))
              | (go_at_call 7; with_reducible exact Calls.quiet_of_same (q2.out _))
              | (go_at_call 9; with_reducible exact Calls.quiet_of_same (q3.out _))
              | (go_at_call 9; with_reducible exact Calls.quiet_of_same (q4.out _)))
            go_wp2_with fail
            go_ret
            exact ⟨rfl, b_drewN hb _⟩
          · have hjc : j < c := by omega
            have q3 := Lib.hid (hrd (some (ad.add j)) (fun _ => ⟨ad, rfl, rfl⟩))
            clear hrd hAc hPM
            go_wp2_with fail
            go_quiet (first
              | (go_at_call 7; with_reducible exact Calls.quiet_of_same (q1.out _))
              | (go_at_call 7; with_reducible exact Calls.quiet_of_same (q2.out _))
              | (go_at_call 9; with_reducible exact Calls.quiet_of_same (q3.out _))
              | (go_at_call 9; with_reducible exact Calls.quiet_of_same (q4.out _)))
            go_wp2_with fail
            go_ret
            exact ⟨rfl, b_drewN hb _⟩
  · have aw := Lib.hid (awake_calls w hT)
    clear hr hx hT
    go_enter Tryd.func5, Tryd.ntmps5
    go_wp2_with (go_at_call 6; refine aw.out.mono ?_; rintro e w1 ⟨rfl, hb⟩)
    go_ret
    exact ⟨rfl, hb⟩
end Go.Proofs.YtefihmfilahppaaDoor.CrcW
