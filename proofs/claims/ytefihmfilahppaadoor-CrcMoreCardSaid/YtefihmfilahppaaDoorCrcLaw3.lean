/- The law CrcMore, walked. Condition: the table lies in memory as the program lays it. -/
import Derived.Test.YtefihmfilahppaaDoorCrcLaw
import Derived.OpenShut
namespace Go.Proofs.YtefihmfilahppaaDoor.CrcW
open Go.RowKit Go.Proofs.YtefihmfilahppaaDoor.Com Go.Proofs.YtefihmfilahppaaDoor.Crc
set_option linter.unusedVariables false

theorem infoOctet : (Tryd.prog.info? 5).map (fun i => (i.zero, i.size, i.bytes)) = some (some (.int .u8 0), 1, 1) := by kernel_rfl
theorem one_cell (xs : List Int) : ∀ u ∈ xs.map (fun x => Value.int .u8 x), u.oneCell' = true := by
  intro u hu
  obtain ⟨x, _, rfl⟩ := List.mem_map.1 hu
  rfl

theorem xor8_ne (x y : Int) (hx0 : 0 ≤ x) (hx1 : x ≤ 255) (hy0 : 0 < y) (hy1 : y < 256) : bits .xor .u8 x y ≠ x := by
  have h : bits .xor .u8 x y = IntKind.u8.wrap (((BitVec.ofInt 8 x) ^^^ (BitVec.ofInt 8 y)).toNat : Int) := rfl
  rw [h, IntKind.wrap_u8]
  obtain ⟨a, rfl⟩ := Int.eq_ofNat_of_zero_le hx0
  obtain ⟨b, rfl⟩ := Int.eq_ofNat_of_zero_le (show 0 ≤ y by omega)
  rw [BitVec.ofInt_natCast, BitVec.ofInt_natCast]
  intro e
  have hlt := ((BitVec.ofNat 8 a) ^^^ (BitVec.ofNat 8 b)).isLt
  have e2 : ((BitVec.ofNat 8 a) ^^^ (BitVec.ofNat 8 b)).toNat = a := by omega
  have e3 : (BitVec.ofNat 8 a) ^^^ (BitVec.ofNat 8 b) = BitVec.ofNat 8 a := by
    apply BitVec.eq_of_toNat_eq
    rw [e2, BitVec.toNat_ofNat]
    omega
  have e4 : BitVec.ofNat 8 b = 0#8 := by
    have := congrArg (fun v => BitVec.ofNat 8 a ^^^ v) e3
    simpa [← BitVec.xor_assoc] using this
  have e5 := congrArg BitVec.toNat e4
  simp only [BitVec.toNat_ofNat] at e5
  omega
theorem pow8 (j : Nat) (h : j < 8) : 0 < (2 : Int) ^ j % 256 ∧ (2 : Int) ^ j % 256 < 256 := by
  have : j = 0 ∨ j = 1 ∨ j = 2 ∨ j = 3 ∨ j = 4 ∨ j = 5 ∨ j = 6 ∨ j = 7 := by omega
  rcases this with rfl | rfl | rfl | rfl | rfl | rfl | rfl | rfl <;> decide
theorem bv_ne {x y : Int} (hx : 0 ≤ x ∧ x ≤ 255) (hy : 0 ≤ y ∧ y ≤ 255) (h : x ≠ y) : bv x ≠ bv y := by
  intro e
  have := congrArg num e
  rw [bv_toNat x hx.1 hx.2, bv_toNat y hy.1 hy.2] at this
  exact h this

set_option maxHeartbeats 1000000 in
theorem more_walk (A B : Option Addr) (n m c d : Nat) (xs ys : List Int) (at_ bit : Int) (w : World) (hr : Reads w 1 A n (xs.map fun x => .int .u8 x)) (hs : Reads w 1 B m (ys.map fun x => .int .u8 x))
    (hn : n ≤ 9223372036854775807) (hm : m ≤ 9223372036854775807)
    (hx : ∀ x ∈ xs, 0 ≤ x ∧ x ≤ 255) (hy : ∀ x ∈ ys, 0 ≤ x ∧ x ≤ 255) (hat : 0 ≤ at_ ∧ at_ ≤ 65535) (hbit : 0 ≤ bit ∧ bit ≤ 255) (hT : Table w) :
    Calls Tryd.prog 4 #[.slice A n c, .slice B m d, .int .u16 at_, .int .u8 bit] w fun e w' => e = .returned (.bool true) ∧ Below w.heap.size w w' := by
  have aw := Lib.hid (awake_calls w hT)
  obtain ⟨ha0, ha1⟩ := hat
  obtain ⟨hb0, hb1⟩ := hbit
  by_cases h1 : n ≤ 3000
  · by_cases h2 : m ≤ 3000
    · have hl1 : xs.length = n := by have := hr.1; simpa using this
      have hl2 : ys.length = m := by have := hs.1; simpa using this
      obtain ⟨i0, hi0, hz0, hz1, hz2⟩ := info_parts infoOctet
      have HT := Lib.hid hT
      have HX := Lib.hid hx
      have HY := Lib.hid hy
      clear hT hx hy
      go_enter Tryd.func4, Tryd.ntmps4
      go_wp2_with (first
        | (go_at_call 6; refine aw.out.mono ?_; rintro e w1 ⟨rfl, hb⟩
           replace hr := hr.below hb
           replace hs := hs.below hb
           replace HT := Lib.hid (HT.out.below hb))
        | (at_builtin
           refine wpList_append_any _ rfl (.tmp 22) (.tmp 23) _ rfl w1.heap.size 5 i0 _ 1 1 Tryd.underlying22 hi0 hz0 hz1 hz2 rfl (by omega) (.slice (some ⟨w1.heap.size, 0, none⟩) 0 0) 0 [] rfl (own_empty (Blk.new _ _ _) (Nat.le_refl _)) A n c _ rfl (hr.below (b_alloc (b_refl _) _)) (one_cell xs) (by simp only [maxLen]; omega) (by omega) (by simp) ?_
           intro v1 wa hown1 hg1 hat1
           have hba : Below w1.heap.size w1 wa := b_grown_own (b_alloc (b_refl _) _) (own_empty (e := 5) (size := 1) (Blk.new _ _ _) (Nat.le_refl _)) (Nat.le_refl _) hg1)
        | (at_builtin
           refine wpList_append_any _ rfl (.tmp 24) (.tmp 25) _ rfl w1.heap.size 5 i0 _ 1 1 Tryd.underlying22 hi0 hz0 hz1 hz2 rfl (by omega) v1 (0 + n) _ rfl hown1 B m d _ rfl (hs.below hba) (one_cell ys) (by simp only [maxLen]; omega) (by omega) hba.size ?_
           intro v2 wb hown2 hg2 hat2
           have hbb : Below w1.heap.size w1 wb := b_grown_own hba hown1 (Nat.le_refl _) hg2
           rw [List.nil_append, ← List.map_append, Nat.zero_add] at hown2
           clear hown1 hg1 hat1 hg2 hat2
           obtain ⟨A2, c2, rfl⟩ := own_slice hown2))
      have hbw : Below w.heap.size w wb := b_step hb hbb
      have hX : ∀ x ∈ xs ++ ys, 0 ≤ x ∧ x ≤ 255 := fun x hx => by
        rcases List.mem_append.1 hx with h | h
        · exact HX.out x h
        · exact HY.out x h
      have hT := HT.out.below hbb
      have qa := Sum_calls A2 (n + m) c2 (xs ++ ys) wb (Reads.of_own hown2) (by omega) hX hT
      have qb := Sum_calls A n c xs wb (hr.below hbb) (by omega) HX.out hT
      have qc := More_calls (more 0#32 (xs.map bv)) B m d ys wb (hs.below hbb) (by omega) HY.out hT
      have qd := RSum_calls A2 (n + m) c2 (xs ++ ys) wb (Reads.of_own hown2) (by omega) hX
      rw [← more_append, ← List.map_append] at qc
      have HX2 := Lib.hid hX
      have HT2 := Lib.hid hT
      have HT1 := Lib.hid HT.out
      generalize hzs : xs ++ ys = zs at *
      have hlz : zs.length = n + m := by rw [← hzs]; simp; omega
      generalize hM : more 0#32 (zs.map bv) = M at qa qc qd
      generalize more 0#32 (xs.map bv) = P at qb qc
      have HM := Lib.hid hM
      have qa := Lib.hid qa
      have qb := Lib.hid qb
      have qc := Lib.hid qc
      have qd := Lib.hid qd
      clear hX hT HX HY hr hs hba hzs hM hbb hi0 hz0 hz1 hz2 HT
      by_cases h0 : n + m = 0
      · have h0' : ((n : Int) + (m : Int) == 0) = true := by rw [beq_iff_eq]; omega
        have H0 := Lib.hid h0
        clear h0
        go_wp2_with (first
          | (go_at_call 7; with_reducible refine qa.out.mono ?_; rintro e w2 ⟨rfl, rfl⟩)
          | (go_at_call 7; with_reducible refine qb.out.mono ?_; rintro e w2 ⟨rfl, rfl⟩)
          | (go_at_call 9; with_reducible refine qc.out.mono ?_; rintro e w2 ⟨rfl, rfl⟩)
          | (go_at_call 8; with_reducible refine qd.out.mono ?_; rintro e w2 ⟨rfl, rfl⟩))
        go_ret
        exact ⟨rfl, hbw⟩
      · have h0' : ((n : Int) + (m : Int) == 0) = false := by rw [beq_eq_false_iff_ne]; omega
        obtain ⟨g, cap, hv, hbg, hgl⟩ := hown2.form (by omega)
        injection hv with hA2 _ hc2
        subst hA2
        obtain ⟨k, hk⟩ : ∃ k : Nat, at_ % ((n : Int) + (m : Int)) = (k : Int) := ⟨(at_ % ((n : Int) + (m : Int))).toNat, by have := Int.emod_nonneg at_ (show (n : Int) + (m : Int) ≠ 0 by omega); omega⟩
        have hk1 : k < n + m := by have := Int.emod_lt_of_pos at_ (show 0 < (n : Int) + (m : Int) by omega); omega
        have hk2 : (k : Int) < (n : Int) + (m : Int) := by omega
        have e0 := hown2.cellAt k (by omega)
        rw [List.getElem?_map, List.getElem?_eq_getElem (by omega)] at e0
        have e0' : wb.cell? ⟨g, k, none⟩ = some (.int .u8 zs[k]) := e0
        have f0 := hown2.frozenAt k
        have hxk := HX2.out zs[k] (List.getElem_mem _)
        have HE := Lib.hid (List.getElem?_eq_getElem (l := zs) (i := k) (by omega))
        generalize zs[k] = x at e0' hxk HE
        obtain ⟨x0, x1⟩ := hxk
        have hb8 : 0 ≤ bit % 8 ∧ bit % 8 < 8 := by omega
        obtain ⟨b0, b1⟩ := hb8
        have Hown := Lib.hid hown2
        clear e0 hown2 h0 hc2
        go_wp2_with (first
          | (go_at_call 7; with_reducible refine qa.out.mono ?_; rintro e w2 ⟨rfl, rfl⟩)
          | (go_at_call 7; with_reducible refine qb.out.mono ?_; rintro e w2 ⟨rfl, rfl⟩)
          | (go_at_call 9; with_reducible refine qc.out.mono ?_; rintro e w2 ⟨rfl, rfl⟩)
          | (go_at_call 8; with_reducible refine qd.out.mono ?_; rintro e w2 ⟨rfl, rfl⟩)
          )
        have hne := xor8_ne x (2 ^ (bit % 8).toNat % 256) x0 x1 (pow8 _ (by omega)).1 (pow8 _ (by omega)).2
        have hrg := bounds_u8 (wf_bits .xor .u8 x (2 ^ (bit % 8).toNat % 256))
        generalize bits .xor .u8 x (2 ^ (bit % 8).toNat % 256) = y at *
        have hst := (Hown.out.stored k (.int .u8 y)).1
        rw [show (zs.map fun x => Value.int IntKind.u8 x).set k (.int .u8 y) = (zs.set k y).map (fun x => Value.int IntKind.u8 x) by rw [List.map_set]] at hst
        have hTs : Table (w2.setCell ⟨g, k, none⟩ (.int .u8 y)) := fun j hj => by
          have h1 := HT1.out j hj
          have h2 : w2.cell? ⟨0, j, none⟩ = some (.int .u32 (num (tab.getD j 0#32))) := HT2.out j hj
          have hlt := World.block_lt_of_cell? _ _ h1
          rw [World.cell?_setCell_other _ _ _ _ (fun e => by injection e with e1; have : 0 < w1.heap.size := hlt; omega)]
          exact h2
        refine (Sum_calls _ (n + m) c2 (zs.set k y) _ (Reads.of_own hst) (by omega) (fun z hz => ?_) hTs).mono ?_
        · rcases List.mem_or_eq_of_mem_set hz with h | h
          · exact HX2.out z h
          · subst h; exact hrg
        · rintro e w3 ⟨rfl, rfl⟩
          have hkl : k < zs.length := by omega
          have hx' : zs[k] = x := by
            have := HE.out
            rw [List.getElem?_eq_getElem hkl] at this
            exact Option.some.inj this
          have hturn := more_turned 0#32 (zs.map bv) k (by simpa using hkl) (bv y) (by
            rw [List.getElem_map, hx']
            exact bv_ne ⟨x0, x1⟩ hrg (Ne.symm hne))
          rw [← List.map_set, HM.out] at hturn
          have hfin : (num (more 0#32 ((zs.set k y).map bv)) != num M) = true := by
            rw [bne_iff_ne]
            exact fun e => hturn (num_inj e)
          generalize num (more 0#32 ((zs.set k y).map bv)) = S at hfin
          go_wp2_with fail
          go_ret
          exact ⟨by simp, hbw.setCell (Nat.le_trans hb.size hbg) _⟩
    · clear hr hs hx hy hT
      go_enter Tryd.func4, Tryd.ntmps4
      go_wp2_with (go_at_call 6; refine aw.out.mono ?_; rintro e w1 ⟨rfl, hb⟩)
      go_ret
      exact ⟨rfl, hb⟩
  · clear hr hs hx hy hT
    go_enter Tryd.func4, Tryd.ntmps4
    go_wp2_with (go_at_call 6; refine aw.out.mono ?_; rintro e w1 ⟨rfl, hb⟩)
    go_ret
    exact ⟨rfl, hb⟩
end Go.Proofs.YtefihmfilahppaaDoor.CrcW
