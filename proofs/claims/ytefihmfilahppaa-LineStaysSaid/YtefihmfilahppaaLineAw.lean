/- Layer 11's awake, walked. No condition. -/
import Derived.Test.YtefihmfilahppaaLineRef3
namespace Go.Proofs.Ytefihmfilahppaa.LineW
open Go.RowKit Go.Proofs.Ytefihmfilahppaa.Com Go.Proofs.Ytefihmfilahppaa.StampW Go.Proofs.Ytefihmfilahppaa.RightsW Go.Proofs.Ytefihmfilahppaa.Ord Go.Proofs.Ytefihmfilahppaa.Tok
set_option linter.unusedVariables false
theorem own_cap {w : World} {base : Nat} {e : TypeId} {size n c : Nat} {A : Option Addr} {xs : List Value} (h : w.ownsRow base e size (.slice A n c) n xs) : n ≤ c := by
  rcases h.2 with ⟨h1, h2⟩ | ⟨g, cap, cur, h1, _, _, h2, _⟩
  · omega
  · injection h1 with _ _ h3
    omega
set_option maxHeartbeats 1000000 in
theorem awake11 (w : World) : Calls Try.prog 30 #[] w fun e w' => e = .returned (.bool true) ∧ Below w.heap.size w w' := by
  have q1 := fun (w : World) => Join_calls ⟨1, 1, 0, 1, 0, 0⟩ 0 none 0 0 [] ⟨3, 0, 5⟩ w Reads.none_ (by omega)
  rw [show joinL ⟨1, 1, 0, 1, 0, 0⟩ 0 [] ⟨3, 0, 5⟩ = ([⟨3, 0, 5⟩], 0) by decide] at q1
  have q2 := fun (A : Option Addr) (c : Nat) (w : World) (h : Reads w 3 A 1 (cellsR [⟨3, 0, 5⟩])) => Join_calls ⟨1, 1, 0, 1, 0, 0⟩ 0 A 1 c [⟨3, 0, 5⟩] ⟨4, 0, 5⟩ w h (by omega)
  rw [show joinL ⟨1, 1, 0, 1, 0, 0⟩ 0 [⟨3, 0, 5⟩] ⟨4, 0, 5⟩ = ([], 3) by decide] at q2
  unfold cfgV reqV at q1 q2
  dsimp only at q1 q2
  have q1 := Lib.hid q1
  have q2 := Lib.hid q2
  go_enter Try.func30, Try.ntmps30
  go_wp2_with fail
  refine (q1.out _).mono ?_
  rintro e w1 ⟨v, rfl, hown, hb⟩
  have z0 := b_keep (a := ⟨w.heap.size, 0, none⟩) (v := .int .i64 1) hb (by go_simp)
  have z1 := b_keep (a := ⟨w.heap.size, 1, none⟩) (v := .int .i64 1) hb (by go_simp)
  have z2 := b_keep (a := ⟨w.heap.size, 2, none⟩) (v := .int .i64 0) hb (by go_simp)
  have z3 := b_keep (a := ⟨w.heap.size, 3, none⟩) (v := .int .i64 1) hb (by go_simp)
  have z4 := b_keep (a := ⟨w.heap.size, 4, none⟩) (v := .int .i64 0) hb (by go_simp)
  have z5 := b_keep (a := ⟨w.heap.size, 5, none⟩) (v := .int .i64 0) hb (by go_simp)
  obtain ⟨A, c, rfl⟩ := own_slice hown
  have hr := Reads.of_own hown
  have hcap : 1 ≤ c := own_cap hown
  have hb' : Below w.heap.size w w1 := b_step (by repeat (first | exact b_refl _ | apply b_drew | apply b_drewN | apply b_alloc | refine b_set ?_ (by simp) _)) hb
  clear hb hown q1
  go_wp2_with fail
  refine (q2.out _ _ _ hr).mono ?_
  rintro e w2 ⟨v2, rfl, hown2, hb2⟩
  obtain ⟨A2, c2, rfl⟩ := own_slice hown2
  replace hr := hr.below hb2
  replace hb' := b_step hb' hb2
  clear hb2 hown2 q2 z0 z1 z2 z3 z4 z5
  obtain ⟨ad, rfl, _⟩ := hr.2 (by simp)
  go_wp2_with fail
  have q3 := Leave_some ad 1 c [⟨3, 0, 5⟩] w2 hr (by omega) hcap (by simp)
  rw [if_pos rfl] at q3
  refine q3.mono ?_
  rintro e w3 ⟨rfl, hb3⟩
  unfold reqV
  dsimp only [List.getElem_cons_zero]
  replace hb' := b_step hb' hb3
  clear q3 hb3
  go_wp2_with fail
  go_ret
  exact ⟨rfl, b_alloc hb' _⟩
end Go.Proofs.Ytefihmfilahppaa.LineW
