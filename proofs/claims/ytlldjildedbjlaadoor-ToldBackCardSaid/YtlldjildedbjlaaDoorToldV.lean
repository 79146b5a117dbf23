/- The reference's number, walked. No condition. -/
import Derived.Test.YtlldjildedbjlaaDoorToldT
namespace Go.Proofs.YtlldjildedbjlaaDoor.ToldW
open Go.RowKit Go.Proofs.YtlldjildedbjlaaDoor.Com Go.Proofs.YtlldjildedbjlaaDoor.Ord Go.Proofs.YtlldjildedbjlaaDoor.ToldP
set_option linter.unusedVariables false
/-- Digits, at most so many. -/
def digF : Nat → Nat → List UInt8 → Nat × List UInt8
  | 0, acc, r => (acc, r)
  | _ + 1, acc, [] => (acc, [])
  | k + 1, acc, c :: r => if 48 ≤ c.toNat ∧ c.toNat ≤ 57 then digF k (10 * acc + (c.toNat - 48)) r else (acc, c :: r)
def headOf (name : List UInt8) : List UInt8 := 32 :: (name ++ [61])
def numR (neg : Bool) (s r1 : List UInt8) : Int × List UInt8 :=
  if (digF 19 0 r1).2.length = r1.length ∨ 9223372036854775808 < (digF 19 0 r1).1 ∨ ((digF 19 0 r1).1 = 9223372036854775808 ∧ neg = false) then (0, s)
  else (if neg then -((digF 19 0 r1).1 : Int) else ((digF 19 0 r1).1 : Int), (digF 19 0 r1).2)
def negOf (r0 : List UInt8) : Bool := decide (r0.head? = some 45)
def numberP (s name : List UInt8) : Int × List UInt8 :=
  if (headOf name).isPrefixOf s = false then (0, s) else
  numR (negOf (s.drop (headOf name).length)) s (if negOf (s.drop (headOf name).length) = true then (s.drop (headOf name).length).drop 1 else s.drop (headOf name).length)
theorem ext_take (s : List UInt8) (n : Nat) : (⟨s.toArray⟩ : ByteArray).extract 0 n = ⟨(s.take n).toArray⟩ := by
  apply ByteArray.ext
  simp [ByteArray.data_extract]
theorem ext_drop (s : List UInt8) (n : Nat) : (⟨s.toArray⟩ : ByteArray).extract n s.length = ⟨(s.drop n).toArray⟩ := by
  apply ByteArray.ext
  simp only [ByteArray.data_extract, List.extract_toArray, List.extract_eq_take_drop]
  rw [List.take_of_length_le (by simp)]
attribute [local go_sem] ext_take ext_drop
theorem prefix_take (H s : List UInt8) : H.isPrefixOf s = decide (s.take H.length = H) := by
  rw [Bool.eq_iff_iff]
  simp only [List.isPrefixOf_iff_prefix, decide_eq_true_eq]
  rw [List.prefix_iff_eq_take]
  exact ⟨fun h => h.symm, fun h => h.symm⟩
theorem eq45 (c : UInt8) : ((c.toNat : Int) == 45) = decide (some c = some (45 : UInt8)) := by
  have e45 : (45 : UInt8).toNat = 45 := by decide
  by_cases h : c = 45
  · subst h; rfl
  · have h1 : c.toNat ≠ 45 := fun e => h (UInt8.toNat_inj.1 (e.trans e45.symm))
    rw [decide_eq_false (by simpa using h), beq_eq_false_iff_ne]
    omega
theorem ba_get (s : List UInt8) (i : Nat) (c : UInt8) (hc : s[i]? = some c) : ∀ h, (⟨s.toArray⟩ : ByteArray)[i]'h = c := by
  intro h
  have : s[i]? = some ((⟨s.toArray⟩ : ByteArray)[i]'h) := by
    have hl : i < s.length := by have h' : i < s.toArray.size := h; simpa using h'
    rw [List.getElem?_eq_getElem hl]
    rfl
  rw [this] at hc
  injection hc
set_option maxRecDepth 100000 in
set_option maxHeartbeats 1000000 in
theorem number_calls (s name : List UInt8) (hs : s.length ≤ 100000) (hn : name.length ≤ 100) (w : World) :
    Calls Tryd.prog 26 #[str s, str name] w fun e w' => e = .returned (.tuple #[.int .i64 (numberP s name).1, str (numberP s name).2]) ∧ Below w.heap.size w w' := by
  obtain ⟨H, hH⟩ : ∃ H, headOf name = H := ⟨_, rfl⟩
  have hcat : Hid ((⟨#[32]⟩ : ByteArray) ++ ⟨name.toArray⟩ ++ ⟨#[61]⟩ = ⟨H.toArray⟩) := Lib.hid (by
    rw [show (⟨#[32]⟩ : ByteArray) ++ ⟨name.toArray⟩ = ⟨([32] ++ name).toArray⟩ from bcat [32] name, ← hH]
    exact bcat ([32] ++ name) [61])
  have hHl : H.length ≤ 102 := by rw [← hH]; simp [headOf]; omega
  have hN : Hid (numberP s name = if decide (s.take H.length = H) = false then (0, s) else numR (negOf (s.drop H.length)) s (if negOf (s.drop H.length) = true then (s.drop H.length).drop 1 else s.drop H.length)) := Lib.hid (by rw [← prefix_take, ← hH]; rfl)
  clear hH
  unfold str
  by_cases hp : s.take H.length = H
  · have hpb : (s.take H.length == H) = true := by simp [hp]
    have hlen : H.length ≤ s.length := by have := congrArg List.length hp; rw [List.length_take] at this; omega
    obtain ⟨neg, hneg⟩ : ∃ b, negOf (s.drop H.length) = b := ⟨_, rfl⟩
    obtain ⟨i1, hi1⟩ : ∃ i1, i1 = H.length + (if neg = true then 1 else 0) := ⟨_, rfl⟩
    have hr1 : (if negOf (s.drop H.length) = true then (s.drop H.length).drop 1 else s.drop H.length) = s.drop i1 := by
      rw [hneg, hi1]
      cases neg
      · simp
      · simp
    have hN2 : Hid (numberP s name = numR neg s (s.drop i1)) := Lib.hid (by rw [hN.out, if_neg (by simp [hp]), hr1, hneg])
    clear hN hr1
    have hlt : ¬ s.length < H.length := by omega
    have hi0 : neg = true → H.length < s.length := by
      intro h
      rw [h] at hneg
      unfold negOf at hneg
      rcases Nat.lt_or_ge H.length s.length with h1 | h1
      · exact h1
      · rw [List.drop_eq_nil_of_le h1] at hneg
        simp at hneg
    go_enter Tryd.func26, Tryd.ntmps26
    go_upto_region 2 with (fail)
    rw [hcat.out]
    have HN := Lib.hid hneg
    have HI := Lib.hid hi1
    have HI0 := Lib.hid hi0
    clear hneg hi1 hi0
    go_upto_region 5 with (fail)
    go_cut [8] (fun s8 wx => s8 = .bool neg ∧ wx = w)
    case first =>
      rcases Nat.lt_or_ge H.length s.length with h1 | h1
      · obtain ⟨c, hc⟩ : ∃ c, s[H.length]? = some c := ⟨_, List.getElem?_eq_getElem h1⟩
        have hg := ba_get s _ c hc
        have hb : ((c.toNat : Int) == 45) = neg := by
          rw [← HN.out]
          unfold negOf
          rw [List.head?_drop, hc]
          exact eq45 c
        clear hc
        go_wp2_with fail
        go_meet
        case rel => exact ⟨rfl, rfl⟩
      · have hb : neg = false := by
          rw [← HN.out, List.drop_eq_nil_of_le h1]; rfl
        have h2 : ¬ (H.length : Int) < (s.length : Int) := by omega
        go_wp2_with fail
        go_meet
        case rel => exact ⟨by rw [hb], rfl⟩
    case rest =>
    obtain ⟨rfl, rfl⟩ := hcut
    go_upto_if 40 with (fail)
    go_cut [7] (fun s7 wx => s7 = .int .i64 i1 ∧ wx = wc)
    case first =>
      cases neg
      · have e1 : i1 = H.length := by have := HI.out; simpa using this
        go_wp2_with fail
        go_meet
        case rel => exact ⟨by rw [e1], rfl⟩
      · have e1 : i1 = H.length + 1 := by have := HI.out; simpa using this
        go_wp2_with fail
        go_meet
        case rel => exact ⟨by rw [e1]; rfl, rfl⟩
    case rest =>
    obtain ⟨rfl, rfl⟩ := hcut
    have hi1 : i1 ≤ s.length := by
      have h1 := HI.out
      have h2 := HI0.out
      cases neg
      · simp at h1; omega
      · simp at h1 h2; omega
    have hdl : (s.drop i1).length = s.length - i1 := List.length_drop
    obtain ⟨p, hpp⟩ : ∃ p, digF 19 0 (s.drop i1) = p := ⟨_, rfl⟩
    have HP := Lib.hid hpp
    go_upto_block 0 with (fail)
    go_cut [7, 9] (fun s7 s9 wx => ∃ k n : Nat, s7 = .int .i64 (i1 + k : Nat) ∧ s9 = .int .u64 n ∧ i1 + k ≤ s.length ∧ n < 10000000000000000000 ∧ Hid (p = (n, s.drop (i1 + k))) ∧ wx = wc)
    case first =>
      go_wp2_with fail
      go_loopw [7, 9] (fun s7 s9 wr => ∃ k n : Nat, s7 = .int .i64 (i1 + k : Nat) ∧ s9 = .int .u64 n ∧ i1 + k ≤ s.length ∧ k ≤ 19 ∧ n < 10 ^ k ∧ Hid (p = digF (19 - k) n (s.drop (i1 + k))) ∧ wr = wc) (fun s7 s9 _ => s.length - (intOf s7).toNat)
      case atStart => exact ⟨0, 0, rfl, rfl, hi1, by omega, by omega, Lib.hid (by rw [← HP.out]; rfl), rfl⟩
      case round =>
        obtain ⟨k, n, rfl, rfl, hik, hk, hnk, hq, rfl⟩ := hrel
        have hn19 : n < 10000000000000000000 := Nat.lt_of_lt_of_le hnk (Nat.le_trans (Nat.pow_le_pow_right (by omega) hk) (by decide))
        obtain ⟨j, hj⟩ : ∃ j, j = i1 + k := ⟨_, rfl⟩
        rw [← hj] at hik hq ⊢
        have hrel : ∀ (hp : Hid (p = (n, s.drop j))), ∃ k' n' : Nat, Value.int .i64 (j : Int) = .int .i64 (i1 + k' : Nat) ∧ Value.int .u64 (n : Int) = .int .u64 n' ∧ i1 + k' ≤ s.length ∧ n' < 10000000000000000000 ∧ Hid (p = (n', s.drop (i1 + k'))) ∧ wr = wr := fun hp => ⟨k, n, by rw [hj], rfl, by omega, hn19, by rw [← hj]; exact hp, rfl⟩
        have HR := Lib.hid hrel
        have HJ := Lib.hid hj
        rcases Nat.lt_or_ge j s.length with hjl | hjl
        · obtain ⟨c, hc⟩ : ∃ c, s[j]? = some c := ⟨_, List.getElem?_eq_getElem hjl⟩
          have hg := ba_get s j c hc
          have hdr : Hid (s.drop j = c :: s.drop (j + 1)) := Lib.hid (by rw [List.drop_eq_getElem_cons hjl]; rw [List.getElem?_eq_getElem hjl] at hc; injection hc with hc; rw [hc])
          clear hc hrel
          by_cases h48 : 48 ≤ c.toNat
          · by_cases h57 : c.toNat ≤ 57
            · by_cases h19 : k = 19
              · have hp := Lib.hid (HR.out (Lib.hid (by rw [hq.out, h19]; rfl)))
                have e1 : ¬ (j : Int) < (i1 : Int) + 19 := by omega
                have e2 : (48 : Int) ≤ (c.toNat : Int) := by omega
                have e3 : (c.toNat : Int) ≤ 57 := by omega
                clear h48 h57 h19 hj
                go_wp2_with fail
                go_meet
                case rel =>
                obtain ⟨k', n', a1, a2, a3, a4, a5, _⟩ := hp.out
                exact ⟨k', n', a1, a2, a3, a4, a5, rfl⟩
              · have hst : Hid (p = digF (19 - (k + 1)) (10 * n + (c.toNat - 48)) (s.drop (j + 1))) := Lib.hid (by
                  rw [hq.out, hdr.out, show 19 - k = (19 - (k + 1)) + 1 by omega, digF, if_pos ⟨h48, h57⟩])
                obtain ⟨d, hd⟩ : ∃ d : Nat, c.toNat = d + 48 := ⟨c.toNat - 48, by omega⟩
                have hd' : c.toNat - 48 = d := by omega
                rw [hd'] at hst
                have e1 : (j : Int) < (i1 : Int) + 19 := by omega
                have e2 : (48 : Int) ≤ (c.toNat : Int) := by omega
                have e3 : (c.toNat : Int) ≤ 57 := by omega
                have e4 : IntKind.u8.wrap ((c.toNat : Int) - 48) = (d : Int) := by simp [IntKind.wrap, IntKind.bits, IntKind.signed]; omega
                have e5 : IntKind.u64.wrap (10 * (n : Int)) = 10 * (n : Int) := by
                  have : 10 ^ k ≤ 10 ^ 18 := Nat.pow_le_pow_right (by omega) (by omega)
                  simp [IntKind.wrap, IntKind.bits, IntKind.signed]; omega
                have e6 : IntKind.u64.wrap (d : Int) = (d : Int) := by simp [IntKind.wrap, IntKind.bits, IntKind.signed]; omega
                have hnn : 10 * n + d < 10 ^ (k + 1) := by rw [Nat.pow_succ]; omega
                have e7 : IntKind.u64.wrap (10 * (n : Int) + (d : Int)) = ((10 * n + d : Nat) : Int) := by
                  have : 10 ^ (k + 1) ≤ 10 ^ 19 := Nat.pow_le_pow_right (by omega) (by omega)
                  simp [IntKind.wrap, IntKind.bits, IntKind.signed]; omega
                have hk1 : k + 1 ≤ 19 := by omega
                have HK := Lib.hid (And.intro hnn hk1)
                clear h48 h57 h19 hd hd' hj hnk hnn
                go_wp2_with fail
                go_roundw
                case rel => exact ⟨k + 1, 10 * n + d, by rw [show i1 + (k + 1) = j + 1 by have := HJ.out; omega]; go_num, rfl, by have := HJ.out; omega, HK.out.2, HK.out.1, by rw [show i1 + (k + 1) = j + 1 by have := HJ.out; omega]; exact hst, trivial⟩
                case measure => simp [intOf]; omega
            · have hp := Lib.hid (HR.out (Lib.hid (by
                rw [hq.out, hdr.out]
                cases h : 19 - k with
                | zero => rfl
                | succ m => rw [digF, if_neg (by omega)])))
              have e2 : (48 : Int) ≤ (c.toNat : Int) := by omega
              have e3 : ¬ (c.toNat : Int) ≤ 57 := by omega
              clear h48 h57 hj
              go_wp2_with fail
              go_meet
              case rel =>
                obtain ⟨k', n', a1, a2, a3, a4, a5, _⟩ := hp.out
                exact ⟨k', n', a1, a2, a3, a4, a5, rfl⟩
          · have hp := Lib.hid (HR.out (Lib.hid (by
              rw [hq.out, hdr.out]
              cases h : 19 - k with
              | zero => rfl
              | succ m => rw [digF, if_neg (by omega)])))
            have e2 : ¬ (48 : Int) ≤ (c.toNat : Int) := by omega
            clear h48 hj
            go_wp2_with fail
            go_meet
            case rel =>
                obtain ⟨k', n', a1, a2, a3, a4, a5, _⟩ := hp.out
                exact ⟨k', n', a1, a2, a3, a4, a5, rfl⟩
        · have hp := Lib.hid (HR.out (Lib.hid (by
            rw [hq.out, List.drop_eq_nil_of_le hjl]
            cases 19 - k <;> rfl)))
          have e1 : ¬ (j : Int) < (s.length : Int) := by omega
          clear hj hrel
          go_wp2_with fail
          go_meet
          case rel =>
                obtain ⟨k', n', a1, a2, a3, a4, a5, _⟩ := hp.out
                exact ⟨k', n', a1, a2, a3, a4, a5, rfl⟩
    case rest =>
    obtain ⟨k, n, rfl, rfl, hik, hnl, hq, rfl⟩ := hcut
    have hN3 : Hid (numberP s name = if k = 0 ∨ 9223372036854775808 < n ∨ (n = 9223372036854775808 ∧ neg = false) then (0, s) else (if neg then -(n : Int) else (n : Int), s.drop (i1 + k))) := Lib.hid (by
      rw [hN2.out]
      unfold numR
      rw [HP.out, hq.out]
      have e : (s.drop (i1 + k)).length = (s.drop i1).length ↔ k = 0 := by
        rw [List.length_drop, List.length_drop]; omega
      simp only [e])
    obtain ⟨j, hj⟩ : ∃ j, j = i1 + k := ⟨_, rfl⟩
    rw [← hj] at hik hN3 ⊢
    have HJ := Lib.hid hj
    clear hN2 HI HI0 HN hq
    by_cases hk0 : k = 0
    · have hz : Hid (numberP s name = (0, s)) := Lib.hid (by rw [hN3.out, if_pos (.inl hk0)])
      have e1 : ((j : Int) == (i1 : Int)) = true := by simp; omega
      clear hk0 hj
      go_wp2_with fail
      refine bodyPost_ret (v := .tuple #[.int .i64 0, .string ⟨s.toArray⟩]) (by simp [results, Tryd.results26, go_sem]) rfl ⟨by rw [hz.out], b_refl _⟩
    have e1 : ((j : Int) == (i1 : Int)) = false := by simp; omega
    by_cases hn1 : 9223372036854775808 < n
    · have hz : Hid (numberP s name = (0, s)) := Lib.hid (by rw [hN3.out, if_pos (.inr (.inl hn1))])
      have e2 : decide ((n : Int) > 9223372036854775808) = true := decide_eq_true (by omega)
      have e3 : (9223372036854775808 : Int) < (n : Int) := by omega
      clear hk0 hj hn1
      go_wp2_with fail
      refine bodyPost_ret (v := .tuple #[.int .i64 0, .string ⟨s.toArray⟩]) (by simp [results, Tryd.results26, go_sem]) rfl ⟨by rw [hz.out], b_refl _⟩
    have e2 : decide ((n : Int) > 9223372036854775808) = false := decide_eq_false (by omega)
    have e3 : ¬ (9223372036854775808 : Int) < (n : Int) := by omega
    by_cases hn2 : n = 9223372036854775808 ∧ neg = false
    · have hz : Hid (numberP s name = (0, s)) := Lib.hid (by rw [hN3.out, if_pos (.inr (.inr hn2))])
      obtain ⟨rfl, rfl⟩ := hn2
      clear hk0 hj hn1
      go_wp2_with fail
      refine bodyPost_ret (v := .tuple #[.int .i64 0, .string ⟨s.toArray⟩]) (by simp [results, Tryd.results26, go_sem]) rfl ⟨by rw [hz.out], b_refl _⟩
    have hz : Hid (numberP s name = (if neg then -(n : Int) else (n : Int), s.drop j)) := Lib.hid (by
      rw [hN3.out, if_neg (fun h => h.elim hk0 fun h => h.elim hn1 hn2)])
    have hjs : (j : Int) ≤ (s.length : Int) := by omega
    cases neg
    · have e4 : ((n : Int) == 9223372036854775808) = false := by
        have : n ≠ 9223372036854775808 := fun h => hn2 ⟨h, rfl⟩
        simp; omega
      have e5 : IntKind.i64.wrap (n : Int) = (n : Int) := by
        have : n ≠ 9223372036854775808 := fun h => hn2 ⟨h, rfl⟩
        simp [IntKind.wrap, IntKind.bits, IntKind.signed]; omega
      clear hk0 hj hn1 hn2
      go_upto_region 17 with (fail)
      refine wp_region_on (by kernel_rfl) (by kernel_rfl) ?_
      repeat (go_big_quiet_step (fail))
      refine wpQuiet_nil ?_
      rintro _ ⟨⟨w2, hb2⟩, rfl⟩
      go_wp2_with fail
      refine bodyPost_ret (v := .tuple #[.int .i64 n, .string ⟨(s.drop j).toArray⟩]) (by simp [results, Tryd.results26, go_sem]) rfl ⟨by rw [hz.out]; rfl, hb2⟩
    · obtain ⟨m, e5⟩ : ∃ m : Int, IntKind.u64.wrap ((n : Int) - 1) = m := ⟨_, rfl⟩
      obtain ⟨q, e6⟩ : ∃ q : Int, IntKind.i64.wrap m = q := ⟨_, rfl⟩
      have hmq : q = (n : Int) - 1 := by
        rw [← e6, ← e5]
        simp [IntKind.wrap, IntKind.bits, IntKind.signed]
        omega
      have e7 : IntKind.i64.wrap (-q) = -q := by simp [IntKind.wrap, IntKind.bits, IntKind.signed]; omega
      have e8 : IntKind.i64.wrap (-q - 1) = -(n : Int) := by simp [IntKind.wrap, IntKind.bits, IntKind.signed]; omega
      have HZ : Hid (numberP s name = (-(n : Int), s.drop j)) := Lib.hid (by rw [hz.out]; rfl)
      obtain ⟨N, hNN⟩ : ∃ N : Int, N = (n : Int) := ⟨_, rfl⟩
      rw [← hNN] at e5 e8 HZ e3 ⊢
      by_cases hn3 : N = 9223372036854775808
      · have e4 : (N == 9223372036854775808) = true := by simp [hn3]
        have e9 : ¬ (9223372036854775808 : Int) < N := by omega
        clear hn3 hNN hmq hk0 hj hn1 hn2 hz hN3 e2
        go_upto_region 16 with (fail)
        refine wp_region_on (by kernel_rfl) (by kernel_rfl) ?_
        repeat (go_big_quiet_step (fail))
        refine wpQuiet_nil ?_
        rintro _ ⟨⟨w2, hb2⟩, rfl⟩
        go_wp2_with fail
        refine bodyPost_ret (v := .tuple #[.int .i64 (-N), .string ⟨(s.drop j).toArray⟩]) (by simp [results, Tryd.results26, go_sem]) rfl ⟨by rw [HZ.out], hb2⟩
      · have e4 : (N == 9223372036854775808) = false := by simp [hn3]
        have e9 : ¬ (9223372036854775808 : Int) < N := by omega
        clear hn3 hNN hmq hk0 hj hn1 hn2 hz hN3 e2
        go_upto_region 16 with (fail)
        refine wp_region_on (by kernel_rfl) (by kernel_rfl) ?_
        repeat (go_big_quiet_step (fail))
        refine wpQuiet_nil ?_
        rintro _ ⟨⟨w2, hb2⟩, rfl⟩
        go_wp2_with fail
        refine bodyPost_ret (v := .tuple #[.int .i64 (-N), .string ⟨(s.drop j).toArray⟩]) (by simp [results, Tryd.results26, go_sem]) rfl ⟨by rw [HZ.out], hb2⟩
  · have hz : Hid (numberP s name = (0, s)) := Lib.hid (by rw [hN.out, if_pos (decide_eq_false hp)])
    have hpb : (s.take H.length == H) = false := by simpa using hp
    by_cases hl : s.length < H.length
    · go_enter Tryd.func26, Tryd.ntmps26
      go_upto_region 2 with (fail)
      rw [hcat.out]
      go_wp2_with fail
      refine bodyPost_ret (v := .tuple #[.int .i64 0, .string ⟨s.toArray⟩]) (by simp [results, Tryd.results26, go_sem]) rfl ⟨by rw [hz.out], b_refl _⟩
    · go_enter Tryd.func26, Tryd.ntmps26
      go_upto_region 2 with (fail)
      rw [hcat.out]
      go_wp2_with fail
      refine bodyPost_ret (v := .tuple #[.int .i64 0, .string ⟨s.toArray⟩]) (by simp [results, Tryd.results26, go_sem]) rfl ⟨by rw [hz.out], b_refl _⟩
end Go.Proofs.YtlldjildedbjlaaDoor.ToldW
