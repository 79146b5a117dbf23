/- The reference's Same, walked. No condition. -/
import Derived.Test.YtlldjildedbjlaaDoorToldT
namespace Go.Proofs.YtlldjildedbjlaaDoor.ToldW
open Go.RowKit Go.Proofs.YtlldjildedbjlaaDoor.Com Go.Proofs.YtlldjildedbjlaaDoor.Ord Go.Proofs.YtlldjildedbjlaaDoor.Tok Go.Proofs.YtlldjildedbjlaaDoor.ToldP
set_option linter.unusedVariables false
theorem neq_run (a b : DoA) (w : World) : (binOp .neq 38 (actV a) (actV b)).run Tryd.prog w = .ok (.bool (!decide (a = b))) w := by
  obtain ⟨a0, a1, a2, a3, a4, a5, a6⟩ := a
  obtain ⟨b0, b1, b2, b3, b4, b5, b6⟩ := b
  unfold actV
  go_simp
  repeat' split
  all_goals simp [*]
section
variable (ρ : Operand → Value) (d : Option Tmp) (pos : String) (af : Array Edge)
theorem run_neqA (x y : Operand) (a b : DoA) (h : ρ x = actV a) (h2 : ρ y = actV b) (w : World) :
    (execOp ρ { dst := d, op := .binOp .neq 38 x y 38, type := 4, pos := pos, after := af, guard := none }).run Tryd.prog w = .ok (.value (.bool (!decide (a = b)))) w := by
  have := neq_run a b w
  obtain ⟨a0, a1, a2, a3, a4, a5, a6⟩ := a
  obtain ⟨b0, b1, b2, b3, b4, b5, b6⟩ := b
  unfold actV at *
  go_simp
  repeat' split
  all_goals simp [*]
theorem run_idx7 (x y : Operand) (ad : Addr) (n cap k : Nat) (hk : k < n) (h : ρ x = .slice (some ad) n cap) (h2 : ρ y = .int .i64 k) (w : World) :
    (execOp ρ { dst := d, op := .indexAddr 23 x y, type := 0, pos := pos, after := af, guard := none }).run Tryd.prog w = .ok (.value (.pointer (some (ad.add (k * 7))))) w := by
  have e1 : (0 : Int) ≤ (k : Int) := by omega
  have e2 : (k : Int) < (n : Int) := by omega
  go_simp
theorem run_loadAt (x : Operand) (ad : Addr) (a : DoA) (h : ρ x = .pointer (some ad)) (w : World)
    (hc : ∀ i u, (cellsA a)[i]? = some u → w.cell? (if i = 0 then ad else ⟨ad.block, ad.off + i, none⟩) = some u) :
    (execOp ρ { dst := d, op := .load 38 x, type := 38, pos := pos, after := af, guard := none }).run Tryd.prog w = .ok (.value (actV a)) w := by
  have s0 := hc 0 (.int .i64 a.kind) rfl
  have s1 := hc 1 (.int .i64 a.who) rfl
  have s2 := hc 2 (.int .i64 a.amount) rfl
  have s3 := hc 3 (.int .u32 a.draw) rfl
  have s4 := hc 4 (.int .i64 a.pos) rfl
  have s5 := hc 5 (.int .i64 a.fault) rfl
  have s6 := hc 6 (.int .i64 a.keep) rfl
  rw [if_pos rfl] at s0
  rw [if_neg (by decide)] at s1
  rw [if_neg (by decide)] at s2
  rw [if_neg (by decide)] at s3
  rw [if_neg (by decide)] at s4
  rw [if_neg (by decide)] at s5
  rw [if_neg (by decide)] at s6
  clear hc
  unfold actV
  go_simp
end
set_option maxRecDepth 100000 in
set_option maxHeartbeats 1000000 in
theorem Same_calls (A B : Option Addr) (n m cap cap2 : Nat) (l r : List DoA) (hl : l.length = n) (hm : r.length = m) (w : World) (hA : Reads w 7 A n (cellsAs l)) (hB : Reads w 7 B m (cellsAs r)) (hn : n ≤ 1000000) (hn2 : m ≤ 1000000) :
    Calls Tryd.prog 9 #[.slice A n cap, .slice B m cap2] w fun e w' => e = .returned (.bool (decide (l = r))) ∧ Below w.heap.size w w' := by
  by_cases hnm : n = m
  · subst hnm
    have hS0 : Hid (∀ k (h1 : k < l.length) (h2 : k < r.length), l[k] ≠ r[k] → decide (l = r) = false) := Lib.hid (fun k h1 h2 hne => decide_eq_false (fun e => hne (by subst e; rfl)))
    have hS1 : Hid (l.take n = r.take n → decide (l = r) = true) := Lib.hid (fun h => by rw [List.take_of_length_le (by omega), List.take_of_length_le (by omega)] at h; exact decide_eq_true h)
    have hT : Hid (∀ k (h1 : k < l.length) (h2 : k < r.length), l.take k = r.take k → l[k] = r[k] → l.take (k + 1) = r.take (k + 1)) := Lib.hid (fun k h1 h2 e1 e2 => by rw [List.take_succ_eq_append_getElem h1, List.take_succ_eq_append_getElem h2, e1, e2])
    generalize hb0 : decide (l = r) = b0 at hS0 hS1
    clear hb0
    go_enter Tryd.func9, Tryd.ntmps9
    go_wp2_with fail
    go_loopw [5] (fun i wr => ∃ k : Nat, i = .int .i64 k ∧ k ≤ n ∧ Hid (l.take k = r.take k) ∧ Below w.heap.size w wr) (fun i _ => n - (intOf i).toNat)
    case atStart => exact ⟨0, rfl, by omega, Lib.hid rfl, b_refl _⟩
    case round =>
      obtain ⟨k, rfl, hk, hq, hbr⟩ := hrel
      by_cases hlt : k < n
      · have h1 : k < l.length := by omega
        have h2 : k < r.length := by omega
        obtain ⟨ad, rfl, _⟩ := hA.2 (by omega)
        obtain ⟨bd, rfl, _⟩ := hB.2 (by omega)
        have sA := Reads.seven (hA.below hbr) hlt h1
        have sB := Reads.seven (hB.below hbr) hlt h2
        have hne := Lib.hid (hS0.out k h1 h2)
        have hto := Lib.hid (hT.out k h1 h2 hq.out)
        generalize l[k] = x at *
        generalize r[k] = y at *
        go_upto_region 6 with (fail)
        refine wp_region_tok [tsIs (.slice (some ad) n cap), tsIs (.int .i64 k), tsOf [0, 1] (.pointer (some (ad.add (k * 7)))), tsOf [2] (actV x), tsIs (.slice (some bd) n cap2), tsIs (.int .i64 k), tsOf [4, 5] (.pointer (some (bd.add (k * 7)))), tsOf [6] (actV y), tsOf [3, 7] (.bool (!decide (x = y)))]
          (by kernel_rfl) (by kernel_rfl) (by kernel_rfl) (by kernel_rfl) ⟨?_, ?_, ?_, ?_, ?_, ?_, ?_, ?_, ?_, trivial⟩ ?_
        · exact T_move (.tmp 0) rfl (.inl rfl) rfl rfl rfl fun _ _ _ => rfl
        · exact T_move (.tmp 5) rfl (.inl rfl) rfl rfl rfl fun _ _ _ => rfl
        · exact T_val rfl rfl rfl rfl rfl fun w3 t ht => ⟨.pointer (some (ad.add (k * 7))), run_idx7 _ _ _ _ _ _ ad n cap k hlt (by exact ht.spec 0 rfl) (by exact ht.spec 1 rfl) w3, rfl⟩
        · exact T_val rfl rfl rfl rfl rfl fun w3 t ht => ⟨actV x, run_loadAt _ _ _ _ _ _ x (by exact ht.spec 2 rfl) w3 (fun i u hu => b_keep ht.1 (sA i u hu)), rfl⟩
        · exact T_move (.tmp 1) rfl (.inl rfl) rfl rfl rfl fun _ _ _ => rfl
        · exact T_move (.tmp 5) rfl (.inl rfl) rfl rfl rfl fun _ _ _ => rfl
        · exact T_val rfl rfl rfl rfl rfl fun w3 t ht => ⟨.pointer (some (bd.add (k * 7))), run_idx7 _ _ _ _ _ _ bd n cap2 k hlt (by exact ht.spec 4 rfl) (by exact ht.spec 5 rfl) w3, rfl⟩
        · exact T_val rfl rfl rfl rfl rfl fun w3 t ht => ⟨actV y, run_loadAt _ _ _ _ _ _ y (by exact ht.spec 6 rfl) w3 (fun i u hu => b_keep ht.1 (sB i u hu)), rfl⟩
        · exact T_val rfl rfl rfl rfl rfl fun w3 t ht => ⟨.bool (!decide (x = y)), run_neqA _ _ _ _ _ _ x y (by exact ht.spec 3 rfl) (by exact ht.spec 7 rfl) w3, rfl⟩
        · intro t w3 hb3 hs hh hap
          have g0 : t 0 = .slice (some ad) n cap := hs 0 (Nat.le_of_ble_eq_true rfl)
          have g1 : t 1 = .int .i64 k := hs 1 (Nat.le_of_ble_eq_true rfl)
          have g2 : t 2 = .pointer (some (ad.add (k * 7))) := hs 2 (Nat.le_of_ble_eq_true rfl)
          have g3 : t 3 = actV x := hs 3 (Nat.le_of_ble_eq_true rfl)
          have g4 : t 4 = .slice (some bd) n cap2 := hs 4 (Nat.le_of_ble_eq_true rfl)
          have g5 : t 5 = .int .i64 k := hs 5 (Nat.le_of_ble_eq_true rfl)
          have g6 : t 6 = .pointer (some (bd.add (k * 7))) := hs 6 (Nat.le_of_ble_eq_true rfl)
          have g7 : t 7 = actV y := hs 7 (Nat.le_of_ble_eq_true rfl)
          have g8 : t 8 = .bool (!decide (x = y)) := hs 8 (Nat.le_of_ble_eq_true rfl)
          rw [show slots _ t = [(17, t 0), (18, t 1), (19, t 2), (20, t 3), (21, t 4), (22, t 5), (23, t 6), (24, t 7), (25, t 8)] from rfl, g0, g1, g2, g3, g4, g5, g6, g7, g8]
          clear g0 g1 g2 g3 g4 g5 g6 g7 g8 hs hh hap
          simp only [puts, Act.put, List.setIfInBounds_toArray, List.set_cons_zero, List.set_cons_succ]
          unfold actV
          by_cases hxy : x = y
          · rw [show (!decide (x = y)) = false by simp [hxy]]
            have hq2 := Lib.hid (hto.out hxy)
            clear hxy hne hto sA sB hq
            go_wp2_with fail
            go_roundw
            case rel => exact ⟨k + 1, by go_num, by omega, hq2, b_step hbr hb3⟩
            case measure => simp [intOf]; omega
          · rw [show (!decide (x = y)) = true by simp [hxy]]
            have hz : Hid (b0 = false) := Lib.hid (hne.out hxy)
            clear hxy hne hto sA sB hq
            go_wp2_with fail
            go_ret
            exact ⟨by rw [hz.out]; rfl, b_step hbr hb3⟩
      · obtain rfl : k = n := by omega
        have hz : Hid (b0 = true) := Lib.hid (hS1.out hq.out)
        clear hlt
        go_wp2_with fail
        go_ret
        exact ⟨by rw [hz.out]; rfl, hbr⟩
  · have hz : Hid (decide (l = r) = false) := Lib.hid (decide_eq_false (fun e => hnm (by rw [← hl, ← hm, e])))
    have e1 : ((n : Int) != (m : Int)) = true := by simp; omega
    clear hnm
    go_enter Tryd.func9, Tryd.ntmps9
    go_wp2_with fail
    go_ret
    exact ⟨by rw [hz.out]; rfl, b_refl _⟩
end Go.Proofs.YtlldjildedbjlaaDoor.ToldW
