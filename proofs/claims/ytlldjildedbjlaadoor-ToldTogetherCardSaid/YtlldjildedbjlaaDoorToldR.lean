/- The reference's digits, parts, text, walked. No condition. -/
import Derived.Test.YtlldjildedbjlaaDoorToldN
namespace Go.Proofs.YtlldjildedbjlaaDoor.ToldW
open Go.RowKit Go.Proofs.YtlldjildedbjlaaDoor.Com Go.Proofs.YtlldjildedbjlaaDoor.Ord Go.Proofs.YtlldjildedbjlaaDoor.ToldP
set_option linter.unusedVariables false
theorem dec_step (n : Nat) (h : n / 10 ≠ 0) : Lib.decDigits n = Lib.decDigits (n / 10) ++ [UInt8.ofNat (48 + n % 10)] := by
  rw [Lib.decDigits, dif_neg (by omega)]
theorem dec_last (n : Nat) (h : n / 10 = 0) : Lib.decDigits n = [UInt8.ofNat (48 + n % 10)] := by
  rw [Lib.decDigits, dif_pos (by omega), Nat.mod_eq_of_lt (by omega)]
theorem slice10 (d : Nat) (h : d < 10) (c : UInt8) (hc : c = UInt8.ofNat (48 + d)) (w : World) :
    (Instr.slice 9 (.string ⟨#[48, 49, 50, 51, 52, 53, 54, 55, 56, 57]⟩) (some (.int .u64 d)) (some (.int .u64 ((d : Int) + 1))) none).run Tryd.prog w = .ok (.string ⟨#[c]⟩) w := by
  subst hc
  have hc : d = 0 ∨ d = 1 ∨ d = 2 ∨ d = 3 ∨ d = 4 ∨ d = 5 ∨ d = 6 ∨ d = 7 ∨ d = 8 ∨ d = 9 := by omega
  rcases hc with rfl | rfl | rfl | rfl | rfl | rfl | rfl | rfl | rfl | rfl <;> (simp [Instr.slice, go_sem]; rfl)
set_option maxRecDepth 100000 in
set_option maxHeartbeats 1000000 in
theorem digits_calls (v : Int) (hv : In64 v) (w : World) :
    Calls Tryd.prog 37 #[.int .i64 v] w fun e w' => e = .returned (str (Lib.itoa v)) ∧ w' = w := by
  obtain ⟨h0, h1⟩ := hv
  unfold str
  obtain ⟨u, hu⟩ : ∃ u : Nat, u = v.natAbs := ⟨_, rfl⟩
  have hul : u < 18446744073709551616 := by omega
  have hdl : (Lib.decDigits u).length ≤ 21 := by
    have := Lib.itoa_length_le v h0 h1
    by_cases hn : v < 0
    · rw [show v = -(u : Int) by omega, Lib.itoa_neg u (by omega)] at this
      simp at this; omega
    · rw [show v = (u : Int) by omega, Lib.itoa_nonneg] at this
      exact this
  have hI : Hid (Lib.itoa v = if v < 0 then 45 :: Lib.decDigits u else Lib.decDigits u) := Lib.hid (by
    by_cases hn : v < 0
    · rw [if_pos hn, show v = -(u : Int) by omega, Lib.itoa_neg u (by omega)]
    · rw [if_neg hn, show v = (u : Int) by omega, Lib.itoa_nonneg])
  have hU := Lib.hid hu
  clear hu
  go_enter Tryd.func37, Tryd.ntmps37
  go_upto_if 8 with (fail)
  go_cut [4] (fun s4 wx => s4 = .int .u64 u ∧ wx = w)
  case first =>
    by_cases hn : v < 0
    · have d1 : decide (v < 0) = true := decide_eq_true hn
      have e1 : IntKind.u64.wrap (-(v + 1)) = -(v + 1) := by simp [IntKind.wrap, IntKind.bits, IntKind.signed]; omega
      have e2 : IntKind.u64.wrap (-(v + 1) + 1) = (u : Int) := by simp [IntKind.wrap, IntKind.bits, IntKind.signed]; have := hU.out; omega
      go_wp2_with fail
      go_meet
      case rel => exact ⟨rfl, rfl⟩
    · have d1 : decide (v < 0) = false := decide_eq_false hn
      have e1 : IntKind.u64.wrap v = (u : Int) := by simp [IntKind.wrap, IntKind.bits, IntKind.signed]; have := hU.out; omega
      go_wp2_with fail
      go_meet
      case rel => exact ⟨rfl, rfl⟩
  case rest =>
  obtain ⟨rfl, rfl⟩ := hcut
  go_wp2_with fail
  go_loopw [3, 4] (fun s3 s4 wr => ∃ (n : Nat) (out : List UInt8), s3 = .string ⟨out.toArray⟩ ∧ s4 = .int .u64 n ∧ n < 18446744073709551616 ∧ Hid (Lib.decDigits u = Lib.decDigits n ++ out) ∧ out.length ≤ 100 ∧ wr = wc) (fun s3 s4 _ => (intOf s4).toNat)
  case atStart => exact ⟨u, [], rfl, rfl, by omega, Lib.hid (by simp), by simp, rfl⟩
  case round =>
    obtain ⟨n, out, rfl, rfl, hn, hq, hol, rfl⟩ := hrel
    obtain ⟨d, hd⟩ : ∃ d : Nat, d = n % 10 := ⟨_, rfl⟩
    obtain ⟨m, hm⟩ : ∃ m : Nat, m = n / 10 := ⟨_, rfl⟩
    obtain ⟨c, hc⟩ : ∃ c, c = UInt8.ofNat (48 + d) := ⟨_, rfl⟩
    have e1 : ((n : Int) % 10) = (d : Int) := by omega
    have e2 : ((n : Int) / 10) = (m : Int) := by omega
    have e3 : IntKind.u64.wrap ((d : Int) + 1) = (d : Int) + 1 := by simp [IntKind.wrap, IntKind.bits, IntKind.signed]; omega
    have b1 : (d : Int) < 10 := by omega
    have hsl := slice10 d (by omega) c hc
    have hcat : Hid ((⟨#[c]⟩ : ByteArray) ++ ⟨out.toArray⟩ = ⟨(c :: out).toArray⟩) := Lib.hid (bcat [c] out)
    by_cases hm0 : m = 0
    · have hfin : Hid (Lib.decDigits u = c :: out) := Lib.hid (by rw [hq.out, dec_last n (by omega), hc, hd]; rfl)
      have e4 : ((m : Int) == 0) = true := by rw [hm0]; rfl
      by_cases hv : v < 0
      · have d1 : decide (v < 0) = true := decide_eq_true hv
        have hz : Hid ((⟨#[45]⟩ : ByteArray) ++ (⟨#[c]⟩ ++ ⟨out.toArray⟩) = ⟨(Lib.itoa v).toArray⟩) := Lib.hid (by rw [hcat.out, hI.out, if_pos hv, hfin.out]; exact bcat [45] (c :: out))
        clear hm hd hc hm0 hv
        go_wp2_with fail
        go_ret
        exact ⟨congrArg _ (congrArg _ hz.out), rfl⟩
      · have d1 : decide (v < 0) = false := decide_eq_false hv
        have hz : Hid ((⟨#[c]⟩ : ByteArray) ++ ⟨out.toArray⟩ = ⟨(Lib.itoa v).toArray⟩) := Lib.hid (by rw [hcat.out, hI.out, if_neg hv, hfin.out])
        clear hm hd hc hm0 hv
        go_wp2_with fail
        go_ret
        exact ⟨congrArg _ (congrArg _ hz.out), rfl⟩
    · have hfin : Hid (Lib.decDigits u = Lib.decDigits m ++ (c :: out)) := Lib.hid (by rw [hq.out, dec_step n (by omega), ← hm, hc, hd]; simp)
      have hl2 : (c :: out).length ≤ 100 := by have := congrArg List.length hfin.out; rw [List.length_append] at this; omega
      have hlt := Lib.hid (show m < n ∧ m < 18446744073709551616 by omega)
      have e4 : ((m : Int) == 0) = false := by simp; omega
      clear hm hd hc hm0
      go_wp2_with fail
      go_roundw
      case rel => exact ⟨m, c :: out, congrArg _ hcat.out, rfl, hlt.out.2, hfin, hl2, trivial⟩
      case measure => have := hlt.out.1; simp [intOf]; omega
set_option maxRecDepth 100000 in
set_option maxHeartbeats 1000000 in
theorem one_calls (name : List UInt8) (hnm : name.length ≤ 100) (v : Int) (hv : In64 v) (w : World) :
    Calls Tryd.prog 30 #[str name, .int .i64 v] w fun e w' => e = .returned (str (prt name v)) ∧ w' = w := by
  have q1 := Lib.hid (digits_calls v hv)
  have hil := Lib.itoa_length_le v hv.1 hv.2
  unfold str at *
  by_cases h0 : v = 0
  · have e1 : (v == 0) = true := by simp [h0]
    have hp : Hid (prt name v = []) := Lib.hid (by unfold prt; rw [if_pos h0])
    clear h0
    go_enter Tryd.func30, Tryd.ntmps30
    go_wp2_with fail
    go_ret
    exact ⟨by rw [hp.out]; rfl, rfl⟩
  · have e1 : (v == 0) = false := by simp [h0]
    have hp : Hid (prt name v = [32] ++ name ++ [61] ++ Lib.itoa v) := Lib.hid (by unfold prt; rw [if_neg h0]; simp)
    clear h0
    go_enter Tryd.func30, Tryd.ntmps30
    go_wp2_with (go_at_call 37; refine (q1.out _).mono ?_; rintro e w2 ⟨rfl, rfl⟩)
    go_ret
    refine ⟨?_, rfl⟩
    rw [hp.out, ← bcat, ← bcat, ← bcat]
    rfl
/-- The reference's names. -/
def kinds9 : List (List UInt8) := kindN.tail
theorem Kinds_calls (w : World) : Calls Tryd.prog 25 #[] w fun e w' => e = .returned (.slice (some ⟨w.heap.size, 0, none⟩) 9 9) ∧ w' = w.alloc (.cells (kinds9.map str).toArray 9) := by
  unfold kinds9 kindN str
  go_enter Tryd.func25, Tryd.ntmps25
  go_wp2_with fail
  go_ret
  exact ⟨rfl, rfl⟩
end Go.Proofs.YtlldjildedbjlaaDoor.ToldW
