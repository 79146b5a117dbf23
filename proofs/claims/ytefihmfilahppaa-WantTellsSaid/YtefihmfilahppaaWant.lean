/- Layer 12's walks: how much is asked for. No condition. -/
import Derived.Test.YtefihmfilahppaaHalf
import Derived.Test.YtefihmfilahppaaFlat
import Derived.Test.YtefihmfilahppaaTok2
import Derived.Lib.SliceRun
namespace Go.Proofs.Ytefihmfilahppaa.WantW
open Go.RowKit Go.Proofs.Ytefihmfilahppaa.Com Go.Proofs.Ytefihmfilahppaa.Ord Go.Proofs.Ytefihmfilahppaa.Tok Go.Proofs.Ytefihmfilahppaa.Half Go.Proofs.Ytefihmfilahppaa.Flat
set_option linter.unusedVariables false
theorem toInt_run (name : String) (way : Ieee.Toward) (x : Nat) (s : Bool) (m : Nat) (i : Int) (hr : FloatKind.f64.decode x = .number s m i) (w : World) :
    (Extern.MathFloor.toIntegral name way #[.float .f64 x]).run Try.prog w = .ok (.float .f64 (FloatKind.f64.encode ((Ieee.Datum.number s m i).integral way))) w := by
  have : Extern.MathFloor.toIntegral name way #[.float .f64 x] = pure (.float .f64 (FloatKind.f64.encode ((Ieee.Datum.number s m i).integral way))) := by
    show (match FloatKind.f64.decode x with
      | .nan s t => _
      | d => _) = _
    rw [hr]
  rw [this, Sem.run_pure]
theorem archFloor_run (v : Nat) (h : v < 2 ^ 53) (w : World) : (callFunc 61 #[.float .f64 (H v)]).run Try.prog w = .ok (.value (.float .f64 (H (2 * (v / 2))))) w := by
  have hf : (FloatKind.f64.decode (H v)).integral .down = .number false (v / 2) 0 := H_integral .down (.inl rfl) h
  have hw : FloatKind.f64.encode (.number false (v / 2) 0) = H (2 * (v / 2)) := H_whole (by omega)
  obtain ⟨K, i, hr, _⟩ := H_read h
  have hr : FloatKind.f64.decode (H v) = .number false K i := hr
  rw [run_callFunc_extern Try.func61 (by kernel_rfl) (by kernel_rfl) (by kernel_rfl) (show Extern.find Try.f61 = some (Extern.MathFloor.toIntegral "math.archFloor" .down) by kernel_rfl)]
  rw [toInt_run _ _ _ _ _ _ hr, ← hr, hf, hw]
  rfl
theorem Floor_calls (v : Nat) (h : v < 2 ^ 53) (w : World) : Calls Try.prog 58 #[.float .f64 (H v)] w fun e w' => e = .returned (.float .f64 (H (2 * (v / 2)))) ∧ w' = w := by
  have hf := archFloor_run v h
  generalize H v = x at *
  generalize H (2 * (v / 2)) = y at *
  go_enter Try.func58, Try.ntmps58
  go_wp2_with fail
  go_ret
  exact ⟨rfl, rfl⟩
theorem halved_calls (a b : Nat) (ha : 2 * a < 2 ^ 53) (hb : 2 * b < 2 ^ 53) (w : World) : Calls Try.prog 53 #[.complex .f64 (H (2 * a)) (H (2 * b))] w fun e w' => e = .returned (.complex .f64 (H (2 * (a / 2))) (H (2 * (b / 2)))) ∧ w' = w := by
  have hm := fun w => run_complex_mul (P := Try.prog) w 80 _ _ _ _ _ _ (H_cmul ha hb)
  have q1 := Lib.hid (Floor_calls a (by omega))
  have q2 := Lib.hid (Floor_calls b (by omega))
  generalize H (2 * a) = x at *
  generalize H (2 * b) = y at *
  generalize H (2 * (a / 2)) = x1 at *
  generalize H (2 * (b / 2)) = y1 at *
  generalize H a = x2 at *
  generalize H b = y2 at *
  go_enter Try.func53, Try.ntmps53
  go_wp2_with (first | (go_at_call 58; with_reducible refine (q1.out _).mono ?_; rintro e w1 ⟨rfl, rfl⟩) | (go_at_call 58; with_reducible refine (q2.out _).mono ?_; rintro e w1 ⟨rfl, rfl⟩))
  go_ret
  exact ⟨rfl, rfl⟩
end Go.Proofs.Ytefihmfilahppaa.WantW
