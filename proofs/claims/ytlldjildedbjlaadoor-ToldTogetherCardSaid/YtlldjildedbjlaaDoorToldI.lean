/- The document's examples, asked of the program. Condition: the listed variables hold what the text lays. -/
import Derived.Test.YtlldjildedbjlaaDoorToldG
import Derived.Test.YtlldjildedbjlaaDoorToldH
namespace Go.Proofs.YtlldjildedbjlaaDoor.ToldW
open Go.RowKit Go.Proofs.YtlldjildedbjlaaDoor.Com Go.Proofs.YtlldjildedbjlaaDoor.Ord Go.Proofs.YtlldjildedbjlaaDoor.ToldP
set_option linter.unusedVariables false
theorem Parse_at (s : List UInt8) (hs : s.length ≤ 100000) (l : List DoA) (n c : Nat) (hp : parseP s = (l, n, c)) (w : World) (hG : Glob w) :
    Calls Tryd.prog 7 #[str s] w fun e w' => ∃ A cp, e = .returned (.tuple #[.slice A l.length cp, .int .i64 n, .int .i64 c]) ∧ Reads w' 7 A l.length (cellsAs l) ∧ Below w.heap.size w w' := by
  refine (Parse_calls s hs w hG).mono ?_
  rintro e w' ⟨v, rfl, ho, hb⟩
  rw [hp] at ho
  obtain ⟨A, cp, rfl⟩ := own_slice ho
  exact ⟨A, cp, by rw [hp], Reads.of_own ho, hb⟩
theorem RParse_at (s : List UInt8) (hs : s.length ≤ 100000) (l : List DoA) (n c : Nat) (hp : parseP s = (l, n, c)) (w : World) :
    Calls Tryd.prog 8 #[str s] w fun e w' => ∃ A cp, e = .returned (.tuple #[.slice A l.length cp, .int .i64 n, .int .i64 c]) ∧ Reads w' 7 A l.length (cellsAs l) ∧ Below w.heap.size w w' := by
  refine (RParse_calls s hs w).mono ?_
  rintro e w' ⟨v, rfl, ho, hb⟩
  rw [hp] at ho
  obtain ⟨A, cp, rfl⟩ := own_slice ho
  exact ⟨A, cp, by rw [hp], Reads.of_own ho, hb⟩
theorem reads_new (w : World) (l : List DoA) (cs : Array Value) (t : TypeId) (hc : cs.toList = cellsAs l) : Reads (w.alloc (.cells cs t)) 7 (some ⟨w.heap.size, 0, none⟩) l.length (cellsAs l) := by
  refine ⟨cellsAs_len l, fun _ => ⟨_, rfl, ?_⟩⟩
  rw [← hc]
  exact new_cells w cs t
set_option maxRecDepth 100000 in
set_option maxHeartbeats 1000000 in
theorem awake_calls (w : World) (hG : Glob w) : Calls Tryd.prog 6 #[] w fun e w' => e = .returned (.bool true) ∧ Below w.heap.size w w' := by
  have q1 := Lib.hid (Parse_at ex1 (by decide) _ _ _ p1 w hG)
  have q2 := Lib.hid (Parse_at ex2 (by decide) _ _ _ p2)
  unfold str ex1 at q1
  unfold str ex2 at q2
  simp only [List.length_cons, List.length_nil, Nat.zero_add, Nat.reduceAdd] at q1 q2
  go_enter Tryd.func6, Tryd.ntmps6
  go_upto_region 2 with (go_at_call 7; refine q1.out.mono ?_; rintro e w1 ⟨A, cp, rfl, hr1, hb1⟩)
  have hG1 := Lib.hid (hG.below hb1)
  clear q1
  go_upto_region 3 with (go_at_call 7; refine (q2.out _ hG1.out).mono ?_; rintro e w2 ⟨A2, cp2, rfl, hr2, hb2⟩)
  have hG2 := Lib.hid (hG1.out.below hb2)
  clear q2 hr2
  have q3 := Lib.hid (Print_calls (some ⟨w2.heap.size, 0, none⟩) 1 1 [dec5] rfl (fun a ha => by rw [List.mem_singleton.1 ha]; exact arg_of v5) _ (hG2.out.below (b_alloc (b_refl w2) (.cells (cellsA dec5) 38))) (reads_new w2 [dec5] (cellsA dec5) _ rfl) (by decide))
  rw [p3] at q3
  have hb3 := b_alloc hb2 (.cells (cellsA dec5) 38)
  unfold str cellsA dec5 ex3 at q3
  unfold cellsA dec5 at hb3
  go_upto_region 4 with (go_at_call 10; refine q3.out.mono ?_; rintro e w4 ⟨rfl, hb4⟩)
  have hb5 := b_step hb3 hb4
  obtain ⟨ad, rfl, _⟩ := hr1.2 (by omega)
  have sA := Reads.seven (hr1.below hb5) (k := 0) (by decide) (by decide)
  have sB := Reads.seven (hr1.below hb5) (k := 1) (by decide) (by decide)
  have s0 := sA 0 (.int .i64 2) rfl
  have s1 := sA 1 (.int .i64 0) rfl
  have s2 := sA 2 (.int .i64 5) rfl
  have s3 := sA 3 (.int .u32 0) rfl
  have s4 := sA 4 (.int .i64 0) rfl
  have s5 := sA 5 (.int .i64 0) rfl
  have s6 := sA 6 (.int .i64 0) rfl
  have t1 := sB 1 (.int .i64 1) rfl
  rw [if_pos rfl] at s0
  rw [if_neg (by decide)] at s1 s2 s3 s4 s5 s6 t1
  simp only [Nat.zero_mul, Nat.one_mul, Go.Addr.add_zero'] at s0 s1 s2 s3 s4 s5 s6 t1
  simp [Addr.add] at t1
  clear sA sB q3 hr1
  have hbz := b_step hb1 hb5
  go_wp2_with fail
  go_ret
  exact ⟨rfl, hbz⟩
end Go.Proofs.YtlldjildedbjlaaDoor.ToldW
