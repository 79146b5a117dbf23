/- Layer 1's walks: sums of octets. Condition: the table of four-bit steps lies in memory as the program lays it. -/
import Derived.Test.YtefihmfilahppaaDoorCom
import Derived.Test.YtefihmfilahppaaDoorCrcPlain
namespace Go.Proofs.YtefihmfilahppaaDoor.CrcW
open Go.RowKit Go.Proofs.YtefihmfilahppaaDoor.Com Go.Proofs.YtefihmfilahppaaDoor.Crc
set_option linter.unusedVariables false

theorem u32_bits : IntKind.u32.bits = 32 := rfl
theorem wrap_bv (x : BitVec 32) : IntKind.u32.wrap (x.toNat : Int) = (x.toNat : Int) := by
  rw [IntKind.wrap_u32]
  have := x.isLt
  omega
theorem of_bv (x : BitVec 32) : BitVec.ofInt IntKind.u32.bits (x.toNat : Int) = x := by
  show BitVec.ofInt 32 (x.toNat : Int) = x
  rw [BitVec.ofInt_natCast]
  simp
/-- A sum as a number; closed to the walk. -/
def num (x : BitVec 32) : Int := (x.toNat : Int)
theorem num_lo (x : BitVec 32) : 0 ≤ num x := Int.natCast_nonneg _
theorem num_hi (x : BitVec 32) : num x < 4294967296 := by have := x.isLt; unfold num; omega
theorem num_inj {x y : BitVec 32} (h : num x = num y) : x = y := by
  unfold num at h
  exact BitVec.eq_of_toNat_eq (by omega)
theorem bx (x y : BitVec 32) : bits .xor .u32 (num x) (num y) = num (x ^^^ y) := by
  have h : bits .xor .u32 (x.toNat : Int) (y.toNat : Int) = IntKind.u32.wrap (((BitVec.ofInt IntKind.u32.bits (x.toNat : Int)) ^^^ (BitVec.ofInt IntKind.u32.bits (y.toNat : Int))).toNat : Int) := rfl
  unfold num
  rw [h, of_bv, of_bv, ← wrap_bv]
  rfl
theorem bn (x : BitVec 32) : bits .xor .u32 IntKind.u32.max (num x) = num (~~~x) := by
  rw [show IntKind.u32.max = num (BitVec.allOnes 32) from rfl, bx, BitVec.allOnes_xor]
theorem ba (x : BitVec 32) : bits .and .u32 (num x) 15 = ((x &&& 15#32).toNat : Int) := by
  have h : bits .and .u32 (x.toNat : Int) ((15#32).toNat : Int) = IntKind.u32.wrap (((BitVec.ofInt IntKind.u32.bits (x.toNat : Int)) &&& (BitVec.ofInt IntKind.u32.bits ((15#32).toNat : Int))).toNat : Int) := rfl
  show bits .and .u32 (x.toNat : Int) ((15#32).toNat : Int) = _
  rw [h, of_bv, of_bv, ← wrap_bv]
  rfl
theorem bs (x : BitVec 32) : num x / 16 = num (x >>> 4) := by
  unfold num
  rw [BitVec.toNat_ushiftRight, Nat.shiftRight_eq_div_pow]
  norm_cast
def bv (x : Int) : BitVec 32 := BitVec.ofNat 32 x.toNat
theorem bv_toNat (x : Int) (h0 : 0 ≤ x) (h1 : x ≤ 255) : num (bv x) = x := by
  unfold num bv
  rw [BitVec.toNat_ofNat]
  omega
theorem and15 (x : BitVec 32) : (x &&& 15#32).toNat < 16 := by
  rw [BitVec.toNat_and]
  exact Nat.lt_of_le_of_lt Nat.and_le_right (by decide)

/-- The table, where the program lays it. -/
def Table (w : World) : Prop := ∀ j : Nat, j < 16 → w.cell? ⟨0, j, none⟩ = some (.int .u32 (num (tab.getD j 0#32)))
theorem Table.below {w w' : World} (h : Table w) (hb : Below w.heap.size w w') : Table w' := fun j hj => b_keep hb (h j hj)

theorem bytes_snoc (s : BitVec 32) (xs : List Int) (k : Nat) (h : k < xs.length) : bytesOf s ((xs.take (k + 1)).map bv) = byte (bytesOf s ((xs.take k).map bv)) (bv (xs.getD k 0)) := by
  rw [List.take_succ_eq_append_getElem h, List.map_append, bytes_append, List.getD_eq_getElem?_getD, List.getElem?_eq_getElem h]
  rfl

theorem More_calls (s : BitVec 32) (A : Option Addr) (n c : Nat) (xs : List Int) (w : World) (hr : Reads w 1 A n (xs.map fun x => .int .u8 x)) (hn : n ≤ 9223372036854775807)
    (hx : ∀ x ∈ xs, 0 ≤ x ∧ x ≤ 255) (hT : Table w) :
    Calls Tryd.prog 9 #[.int .u32 (num s), .slice A n c] w fun e w' => e = .returned (.int .u32 (num (more s (xs.map bv)))) ∧ w' = w := by
  have hl : xs.length = n := by have := hr.1; simpa using this
  have hs0 := num_lo s
  have hs1 := num_hi s
  obtain ⟨s', hs'⟩ : ∃ s', s' = ~~~s := ⟨_, rfl⟩
  have hns : (bits .xor .u32 IntKind.u32.max (num s)) = num s' := by rw [hs']; exact bn s
  have HS' := Lib.hid hs'
  have HT := Lib.hid hT
  have HX := Lib.hid hx
  clear hT hx hs'
  have hsg : IntKind.u32.signed = false := rfl
  go_enter Tryd.func9, Tryd.ntmps9
  go_wp2
  clear hns hsg
  go_loop [0, 11] (fun s0 i => ∃ (k : Nat) (x : BitVec 32), i = .int .i64 k ∧ s0 = .int .u32 (num x) ∧ k ≤ n ∧ Hid (x = bytesOf s' ((xs.take k).map bv))) (fun _ i => n - (intOf i).toNat)
  case atStart => exact ⟨0, s', rfl, rfl, by omega, Lib.hid rfl⟩
  case round =>
    obtain ⟨k, x, rfl, rfl, hk, hxk⟩ := hrel
    have hx0 := num_lo x
    have hx1 := num_hi x
    by_cases hlt : k < n
    · obtain ⟨ad, rfl, hc⟩ := hr.2 (by omega)
      have hb : w.cell? (ad.add k) = some (.int .u8 (xs.getD k 0)) := hc k _ (by rw [List.getElem?_map, List.getElem?_eq_getElem (by omega), List.getD_eq_getElem?_getD, List.getElem?_eq_getElem (by omega)]; rfl)
      have hb0 : 0 ≤ xs.getD k 0 ∧ xs.getD k 0 ≤ 255 := by
        rw [List.getD_eq_getElem?_getD, List.getElem?_eq_getElem (by omega)]
        exact HX.out _ (List.getElem_mem _)
      have HS := Lib.hid (bytes_snoc s' xs k (by omega))
      generalize xs.getD k 0 = b at hb hb0 HS
      obtain ⟨hb0, hb1⟩ := hb0
      clear hc hr
      obtain ⟨y, hy⟩ : ∃ y, y = x ^^^ bv b := ⟨_, rfl⟩
      obtain ⟨z, hz⟩ : ∃ z, z = nib y := ⟨_, rfl⟩
      have e1 : bits .xor .u32 (num x) b = num y := by
        have := bx x (bv b)
        rw [bv_toNat b hb0 hb1] at this
        rw [hy]; exact this
      have HY := Lib.hid hy
      have HZ := Lib.hid hz
      have steps : ∀ y z : BitVec 32, z = nib y → ∃ (q : Nat) (h : Int) (u : Int), q < 16 ∧ bits .and .u32 (num y) 15 = (q : Int) ∧ w.cell? ⟨0, q, none⟩ = some (.int .u32 h) ∧ num y / 16 = u ∧ bits .xor .u32 u h = num z := fun y z hz =>
        ⟨(y &&& 15#32).toNat, num (tab.getD (y &&& 15#32).toNat 0#32), num (y >>> 4), and15 y, ba y, HT.out _ (and15 y), bs y, by rw [bx, hz]; rfl⟩
      obtain ⟨q, h, u, q1, q2, q3, q4, q5⟩ := steps y z hz
      obtain ⟨z2, hz2⟩ : ∃ z2, z2 = nib z := ⟨_, rfl⟩
      obtain ⟨q', h', u', p1, p2, p3, p4, p5⟩ := steps z z2 hz2
      have HZ2 := Lib.hid hz2
      have y0 := num_lo y
      have y1 := num_hi y
      have z0 := num_lo z
      have z1 := num_hi z
      clear hy hz hz2 steps
      go_wp2
      refine wp_loop_rounds 3 ?_
      rw [rounds_succ]
      go_wp2
      rw [rounds_succ]
      go_wp2
      rw [rounds_succ]
      go_wp2
      go_round
      case rel => exact ⟨k + 1, z2, by go_num, rfl, by omega, Lib.hid (by rw [HS.out, ← hxk.out, HZ2.out, HZ.out, HY.out]; rfl)⟩
      case measure => simp [intOf]; omega
    · obtain rfl : k = n := by omega
      obtain ⟨r, hr'⟩ : ∃ r, r = ~~~x := ⟨_, rfl⟩
      have hnx : (bits .xor .u32 IntKind.u32.max (num x)) = num r := by rw [hr']; exact bn x
      have HR := Lib.hid hr'
      have hsg : IntKind.u32.signed = false := rfl
      clear hr'
      go_wp2
      go_ret
      refine ⟨ret_int ?_, rfl⟩
      rw [HR.out, hxk.out, HS'.out, ← hl, List.take_length]
      rfl

theorem Sum_calls (A : Option Addr) (n c : Nat) (xs : List Int) (w : World) (hr : Reads w 1 A n (xs.map fun x => .int .u8 x)) (hn : n ≤ 9223372036854775807)
    (hx : ∀ x ∈ xs, 0 ≤ x ∧ x ≤ 255) (hT : Table w) :
    Calls Tryd.prog 7 #[.slice A n c] w fun e w' => e = .returned (.int .u32 (num (more 0#32 (xs.map bv)))) ∧ w' = w := by
  have q := Lib.hid (show Calls Tryd.prog 9 #[.int .u32 0, .slice A n c] w (fun e w' => e = .returned (.int .u32 (num (more 0#32 (xs.map bv)))) ∧ w' = w) from More_calls 0#32 A n c xs w hr hn hx hT)
  clear hr hx hT
  go_enter Tryd.func7, Tryd.ntmps7
  go_wp2_with (go_at_call 9; refine q.out.mono ?_; rintro e w' ⟨rfl, rfl⟩)
  go_ret
  exact ⟨rfl, rfl⟩

/-- So many bits leave. -/
def stepN : Nat → BitVec 32 → BitVec 32
  | 0, s => s
  | n + 1, s => bstep (stepN n s)
theorem stepN_eight (s b : BitVec 32) : stepN 8 (s ^^^ b) = byte s b := by rw [byte_eq]; rfl
theorem half_num (x : BitVec 32) : num x / (2 : Int) = num (x >>> 1) := by
  unfold num
  rw [BitVec.toNat_ushiftRight, Nat.shiftRight_eq_div_pow]
  norm_cast
theorem low_num (x : BitVec 32) : (num x % (2 : Int) == 1) = x.getLsbD 0 := by
  unfold num
  rw [BitVec.getLsbD, Nat.testBit_zero, Bool.eq_iff_iff, beq_iff_eq, decide_eq_true_eq]
  omega
theorem not_num (x : BitVec 32) : 4294967295 - num x = num (~~~x) := by
  unfold num
  rw [BitVec.toNat_not]
  have := x.isLt
  omega

set_option maxRecDepth 100000 in
theorem RSum_calls (A : Option Addr) (n c : Nat) (xs : List Int) (w : World) (hr : Reads w 1 A n (xs.map fun x => .int .u8 x)) (hn : n ≤ 9223372036854775807)
    (hx : ∀ x ∈ xs, 0 ≤ x ∧ x ≤ 255) :
    Calls Tryd.prog 8 #[.slice A n c] w fun e w' => e = .returned (.int .u32 (num (more 0#32 (xs.map bv)))) ∧ w' = w := by
  have hl : xs.length = n := by have := hr.1; simpa using this
  have HX := Lib.hid hx
  clear hx
  obtain ⟨s', hs'⟩ : ∃ s', s' = ~~~(0#32) := ⟨_, rfl⟩
  have HS' := Lib.hid hs'
  have hs1 : (4294967295 : Int) = num s' := by rw [hs']; rfl
  have HS1 := Lib.hid hs1
  clear hs' hs1
  go_enter Tryd.func8, Tryd.ntmps8
  go_wp2
  go_loop [3, 4] (fun s0 i => ∃ (k : Nat) (x : BitVec 32), i = .int .i64 k ∧ s0 = .int .u32 (num x) ∧ k ≤ n ∧ Hid (x = bytesOf s' ((xs.take k).map bv))) (fun _ i => n - (intOf i).toNat)
  case atStart => exact ⟨0, s', rfl, by rw [← HS1.out], by omega, Lib.hid rfl⟩
  case round =>
    obtain ⟨k, x, rfl, rfl, hk, hxk⟩ := hrel
    have hx0 := num_lo x
    have hx1 := num_hi x
    by_cases hlt : k < n
    · obtain ⟨ad, rfl, hc⟩ := hr.2 (by omega)
      have hb : w.cell? (ad.add k) = some (.int .u8 (xs.getD k 0)) := hc k _ (by rw [List.getElem?_map, List.getElem?_eq_getElem (by omega), List.getD_eq_getElem?_getD, List.getElem?_eq_getElem (by omega)]; rfl)
      have hb0 : 0 ≤ xs.getD k 0 ∧ xs.getD k 0 ≤ 255 := by
        rw [List.getD_eq_getElem?_getD, List.getElem?_eq_getElem (by omega)]
        exact HX.out _ (List.getElem_mem _)
      have HS := Lib.hid (bytes_snoc s' xs k (by omega))
      generalize xs.getD k 0 = b at hb hb0 HS
      obtain ⟨hb0, hb1⟩ := hb0
      clear hc hr
      obtain ⟨y, hy⟩ : ∃ y, y = x ^^^ bv b := ⟨_, rfl⟩
      have e1 : bits .xor .u32 (num x) b = num y := by
        have := bx x (bv b)
        rw [bv_toNat b hb0 hb1] at this
        rw [hy]; exact this
      have HY := Lib.hid hy
      clear hy
      go_wp2
      clear e1 hb hb0 hb1 hx0 hx1
      go_hide hQ
      go_loop [3, 5] (fun s0 i => ∃ (j : Nat) (q : Int), i = .int .i64 j ∧ s0 = .int .u32 q ∧ j ≤ 8 ∧ 0 ≤ q ∧ q < 4294967296 ∧ Hid (q = num (stepN j y))) (fun _ i => 8 - (intOf i).toNat)
      case atStart => exact ⟨0, num y, rfl, rfl, by omega, num_lo y, num_hi y, Lib.hid rfl⟩
      case round =>
        obtain ⟨j, q, rfl, rfl, hj, z0, z1, hzj⟩ := hrel
        by_cases hlt8 : j < 8
        · have hw : num (bstep (stepN j y)) = if (q % 2 == 1) = true then bits .xor .u32 (q / 2) 3988292384 else q / 2 := by
            rw [hzj.out, low_num, half_num]
            unfold bstep
            cases (stepN j y).getLsbD 0
            · rfl
            · exact (bx _ 0xEDB88320#32).symm
          have HW := Lib.hid hw
          have u0 := num_lo (bstep (stepN j y))
          have u1 := num_hi (bstep (stepN j y))
          rw [hw] at u0 u1
          clear hw
          by_cases hm : q % 2 = 1
          · have h3 : (q % 2 == 1) = true := beq_iff_eq.2 hm
            rw [if_pos h3] at u0 u1
            generalize hb4 : bits .xor .u32 (q / 2) 3988292384 = v at u0 u1
            have HV := Lib.hid hb4
            have HM := Lib.hid h3
            clear hb4 h3
            go_wp2
            go_round
            case rel => exact ⟨j + 1, v, by go_num, by rw [HV.out], by omega, u0, u1, Lib.hid (by rw [stepN, HW.out, if_pos HM.out, HV.out])⟩
            case measure => simp [intOf]; omega
          · have h3 : ¬ (q % 2 == 1) = true := by simp [hm]
            rw [if_neg h3] at u0 u1
            have HM := Lib.hid h3
            clear h3
            go_wp2
            go_round
            case rel => exact ⟨j + 1, q / 2, by go_num, rfl, by omega, u0, u1, Lib.hid (by rw [stepN, HW.out, if_neg HM.out])⟩
            case measure => simp [intOf]; omega
        · obtain rfl : j = 8 := by omega
          subst hQ
          go_wp2
          go_round
          case rel => exact ⟨k + 1, stepN 8 y, by go_num, by rw [hzj.out], by omega, Lib.hid (by rw [HS.out, ← hxk.out, HY.out, ← stepN_eight])⟩
          case measure => simp [intOf]; omega
    · obtain rfl : k = n := by omega
      go_wp2
      go_ret
      refine ⟨ret_int ?_, rfl⟩
      rw [not_num, hxk.out, HS'.out, ← hl, List.take_length]
      rfl
end Go.Proofs.YtefihmfilahppaaDoor.CrcW
