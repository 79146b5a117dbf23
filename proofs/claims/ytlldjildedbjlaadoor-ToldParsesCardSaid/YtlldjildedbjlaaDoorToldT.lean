/- The reference's Print and Same, walked. No condition. -/
import Derived.Test.YtlldjildedbjlaaDoorToldS
namespace Go.Proofs.YtlldjildedbjlaaDoor.ToldW
open Go.RowKit Go.Proofs.YtlldjildedbjlaaDoor.Com Go.Proofs.YtlldjildedbjlaaDoor.Ord Go.Proofs.YtlldjildedbjlaaDoor.ToldP
set_option linter.unusedVariables false
set_option maxRecDepth 100000 in
set_option maxHeartbeats 1000000 in
theorem RPrint_calls (A : Option Addr) (n cap : Nat) (l : List DoA) (hl : l.length = n) (ha : ∀ a ∈ l, Arg a) (w : World) (hr : Reads w 7 A n (cellsAs l)) (hn : n ≤ 1000000) :
    Calls Tryd.prog 11 #[.slice A n cap] w fun e w' => e = .returned (.tuple #[str (printP l).1, .int .i64 (printP l).2]) ∧ Below w.heap.size w w' := by
  unfold str
  by_cases h4 : 400 < n
  · have hp : Hid (printP l = ([], 1)) := Lib.hid (by unfold printP; rw [hl, if_pos h4])
    have d1 : decide ((n : Int) > 400) = true := decide_eq_true (by omega)
    have d2 : (400 : Int) < n := by omega
    clear h4
    go_enter Tryd.func11, Tryd.ntmps11
    go_wp2_with fail
    refine bodyPost_ret (v := .tuple #[.string ⟨#[]⟩, .int .i64 1]) (by simp [results, Tryd.results11, go_sem]) rfl ⟨by rw [hp.out]; rfl, b_refl _⟩
  have hpp : Hid (printP l = if l.all kindOK then (textsA l, 0) else ([], 1)) := Lib.hid (by unfold printP; rw [hl, if_neg h4])
  have d1 : decide ((n : Int) > 400) = false := decide_eq_false (by omega)
  have d2 : ¬ (400 : Int) < n := by omega
  go_enter Tryd.func11, Tryd.ntmps11
  go_wp2_with fail
  go_loopw [4, 5] (fun s i wr => ∃ k : Nat, i = .int .i64 k ∧ k ≤ n ∧ Hid ((l.take k).all kindOK = true) ∧ s = .string ⟨(textsA (l.take k)).toArray⟩ ∧ Below w.heap.size w wr) (fun s i _ => n - (intOf i).toNat)
  case atStart => exact ⟨0, rfl, by omega, Lib.hid rfl, rfl, b_refl _⟩
  case round =>
    obtain ⟨k, rfl, hk, hq, rfl, hbr⟩ := hrel
    by_cases hlt : k < n
    · have hkl : k < l.length := by omega
      obtain ⟨ad, rfl, _⟩ := hr.2 (by omega)
      have hs7 := Reads.seven (hr.below hbr) hlt hkl
      have hts := Lib.hid (texts_succ l k hkl)
      have htk := Lib.hid (List.take_succ_eq_append_getElem hkl)
      have hal : ∀ (h : kindOK l[k] = false), l.all kindOK = false := fun h => by
        rw [← Bool.not_eq_true]
        intro hh
        rw [List.all_eq_true.1 hh _ (List.getElem_mem hkl)] at h
        cases h
      have hax := ha _ (List.getElem_mem hkl)
      have htl := texts_len (l.take k) fun b hb => ha b (List.mem_of_mem_take hb)
      rw [List.length_take, Nat.min_eq_left (by omega)] at htl
      have hxl := text_len hax.all
      generalize l[k] = x at *
      have s0 := hs7 0 (.int .i64 x.kind) rfl
      have s1 := hs7 1 (.int .i64 x.who) rfl
      have s2 := hs7 2 (.int .i64 x.amount) rfl
      have s3 := hs7 3 (.int .u32 x.draw) rfl
      have s4 := hs7 4 (.int .i64 x.pos) rfl
      have s5 := hs7 5 (.int .i64 x.fault) rfl
      have s6 := hs7 6 (.int .i64 x.keep) rfl
      rw [if_pos rfl] at s0
      rw [if_neg (by decide)] at s1
      rw [if_neg (by decide)] at s2
      rw [if_neg (by decide)] at s3
      rw [if_neg (by decide)] at s4
      rw [if_neg (by decide)] at s5
      rw [if_neg (by decide)] at s6
      clear hs7
      by_cases hk0 : kindOK x = true
      · have hkk : 1 ≤ x.kind ∧ x.kind ≤ 9 := by
          unfold kindOK at hk0
          simpa using hk0
        have hq2 : Hid ((l.take (k + 1)).all kindOK = true) := Lib.hid (by rw [htk.out, List.all_append, hq.out]; simpa using hk0)
        have d3 : decide (x.kind < 1) = false := decide_eq_false (by omega)
        have d4 : decide (x.kind > 9) = false := decide_eq_false (by omega)
        have q1 := Lib.hid (Text_calls x hkk.1 hkk.2 hax.d0 hax.d1 hax.all wr)
        have hcat : Hid ((⟨(textsA (l.take k)).toArray⟩ : ByteArray) ++ ⟨(textA x).toArray⟩ ++ ⟨#[10]⟩ = ⟨(textsA (l.take (k + 1))).toArray⟩) := Lib.hid (by
          rw [hts.out, bcat]
          have := bcat (textsA (l.take k) ++ textA x) [10]
          rw [← List.append_assoc]
          exact this)
        have HL := Lib.hid htl
        generalize textsA (l.take k) = tk at *
        unfold actV str at q1
        clear hk0 hkk hal hax ha
        go_wp2_with (go_at_call 18; refine q1.out.mono ?_; rintro e w2 ⟨rfl, hb3⟩)
        go_roundw
        case rel => exact ⟨k + 1, by go_num, by omega, hq2, congrArg Value.string hcat.out, b_step hbr hb3⟩
        case measure => simp [intOf]; omega
      · have hp : Hid (printP l = ([], 1)) := Lib.hid (by rw [hpp.out, hal (by simpa using hk0)]; rfl)
        by_cases hx1 : x.kind < 1
        · have d3 : decide (x.kind < 1) = true := decide_eq_true hx1
          clear hx1 hk0
          go_wp2_with fail
          change bodyPost _ _ _ _ _ _
          refine bodyPost_ret (v := .tuple #[.string ⟨#[]⟩, .int .i64 1]) (by simp [results, Tryd.results11, go_sem]) rfl ⟨by rw [hp.out]; rfl, hbr⟩
        · have d3 : decide (x.kind < 1) = false := decide_eq_false hx1
          have d4 : decide (x.kind > 9) = true := by
            unfold kindOK at hk0
            simp at hk0
            exact decide_eq_true (by omega)
          clear hx1 hk0
          go_wp2_with fail
          change bodyPost _ _ _ _ _ _
          refine bodyPost_ret (v := .tuple #[.string ⟨#[]⟩, .int .i64 1]) (by simp [results, Tryd.results11, go_sem]) rfl ⟨by rw [hp.out]; rfl, hbr⟩
    · obtain rfl : k = n := by omega
      have hp : Hid (printP l = (textsA l, 0)) := Lib.hid (by rw [hpp.out]; have := hq.out; rw [List.take_of_length_le (by omega)] at this; rw [if_pos this])
      rw [List.take_of_length_le (by omega)]
      clear hlt h4
      go_wp2_with fail
      refine bodyPost_ret (v := .tuple #[.string ⟨(textsA l).toArray⟩, .int .i64 0]) (by simp [results, Tryd.results11, go_sem]) rfl ⟨by rw [hp.out]; rfl, hbr⟩
end Go.Proofs.YtlldjildedbjlaaDoor.ToldW
