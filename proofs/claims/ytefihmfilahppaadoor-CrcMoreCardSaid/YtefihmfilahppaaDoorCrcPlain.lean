/- Layer 1, over bits alone: four bits at a time come to what one at a time does; a bit turned makes another sum. No condition. -/
import Derived.Laws.BitsLemmas
import Derived.Laws.BitsAllLaws
namespace Go.Proofs.YtefihmfilahppaaDoor.Crc
set_option linter.unusedSimpArgs false

/-- One bit leaves. -/
def bstep (s : BitVec 32) : BitVec 32 := if s.getLsbD 0 then (s >>> 1) ^^^ 0xEDB88320#32 else s >>> 1
/-- What four bits that leave lay on a sum. -/
def tab : List (BitVec 32) := [0x00000000#32, 0x1DB71064#32, 0x3B6E20C8#32, 0x26D930AC#32, 0x76DC4190#32, 0x6B6B51F4#32, 0x4DB26158#32, 0x5005713C#32, 0xEDB88320#32, 0xF00F9344#32, 0xD6D6A3E8#32, 0xCB61B38C#32, 0x9B64C2B0#32, 0x86D3D2D4#32, 0xA00AE278#32, 0xBDBDF21C#32]
def nib (s : BitVec 32) : BitVec 32 := (s >>> 4) ^^^ tab.getD (s &&& 15#32).toNat 0#32
/-- A byte more. -/
def byte (s : BitVec 32) (b : BitVec 32) : BitVec 32 := nib (nib (s ^^^ b))
def bytesOf (s : BitVec 32) (l : List (BitVec 32)) : BitVec 32 := l.foldl byte s
/-- The sum of bytesOf, that of some ahead being known. -/
def more (s : BitVec 32) (l : List (BitVec 32)) : BitVec 32 := ~~~ bytesOf (~~~ s) l

theorem step_xor (a b : BitVec 32) : bstep (a ^^^ b) = bstep a ^^^ bstep b := by
  unfold bstep
  rw [BitVec.getLsbD_xor, BitVec.ushiftRight_xor_distrib]
  cases a.getLsbD 0 <;> cases b.getLsbD 0 <;> simp
  · rw [BitVec.xor_assoc]
  · rw [BitVec.xor_assoc, BitVec.xor_assoc]; congr 1; rw [BitVec.xor_comm]
  · rw [BitVec.xor_assoc, BitVec.xor_comm (b >>> 1) (_), ← BitVec.xor_assoc (0xEDB88320#32), BitVec.xor_self, BitVec.zero_xor]
theorem step_zero {x : BitVec 32} (h : bstep x = 0#32) : x = 0#32 := by
  unfold bstep at h
  cases h0 : x.getLsbD 0
  · rw [h0] at h
    simp only [Bool.false_eq_true, if_false] at h
    apply BitVec.eq_of_getLsbD_eq
    intro i hi
    cases i with
    | zero => simpa using h0
    | succ i =>
      have := congrArg (fun v => v.getLsbD i) h
      simp only [BitVec.getLsbD_ushiftRight, BitVec.getLsbD_zero] at this
      rw [Nat.add_comm] at this
      simpa using this
  · rw [h0] at h
    simp only [if_true] at h
    have := congrArg (fun v => v.getLsbD 31) h
    simp at this
theorem step_inj {a b : BitVec 32} (h : bstep a = bstep b) : a = b := by
  have h2 : bstep (a ^^^ b) = 0#32 := by rw [step_xor, h, BitVec.xor_self]
  have h3 := step_zero h2
  have := congrArg (fun v => v ^^^ b) h3
  simpa [BitVec.xor_assoc] using this
def step4 (s : BitVec 32) : BitVec 32 := bstep (bstep (bstep (bstep s)))
theorem step4_xor (a b : BitVec 32) : step4 (a ^^^ b) = step4 a ^^^ step4 b := by simp only [step4, step_xor]
theorem step4_low : ∀ n : Fin 16, step4 (BitVec.ofNat 32 n.val) = tab.getD n.val 0#32 := by decide +kernel
theorem step4_high {x : BitVec 32} (h : ∀ i, i < 4 → x.getLsbD i = false) : step4 x = x >>> 4 := by
  have s1 : bstep x = x >>> 1 := by unfold bstep; rw [h 0 (by omega)]; rfl
  have s2 : bstep (x >>> 1) = x >>> 2 := by unfold bstep; rw [BitVec.getLsbD_ushiftRight, h 1 (by omega)]; simp [BitVec.shiftRight_add]
  have s3 : bstep (x >>> 2) = x >>> 3 := by unfold bstep; rw [BitVec.getLsbD_ushiftRight, h 2 (by omega)]; simp [BitVec.shiftRight_add]
  have s4 : bstep (x >>> 3) = x >>> 4 := by unfold bstep; rw [BitVec.getLsbD_ushiftRight, h 3 (by omega)]; simp [BitVec.shiftRight_add]
  unfold step4
  rw [s1, s2, s3, s4]
theorem nib_eq (s : BitVec 32) : nib s = step4 s := by
  have e : s = (s &&& ~~~15#32) ^^^ (s &&& 15#32) := by
    apply BitVec.eq_of_getLsbD_eq
    intro i hi
    simp only [BitVec.getLsbD_xor, BitVec.getLsbD_and, BitVec.getLsbD_not]
    cases s.getLsbD i <;> cases (15#32).getLsbD i <;> simp [hi]
  have hh : ∀ i, i < 4 → (s &&& ~~~15#32).getLsbD i = false := by
    intro i hi
    have : (15#32).getLsbD i = true := by
      rcases (by omega : i = 0 ∨ i = 1 ∨ i = 2 ∨ i = 3) with rfl | rfl | rfl | rfl <;> decide
    rw [BitVec.getLsbD_and, BitVec.getLsbD_not, this]; simp
  have hq : (s &&& 15#32).toNat < 16 := by
    rw [BitVec.toNat_and]
    exact Nat.lt_of_le_of_lt Nat.and_le_right (by decide)
  have hsh : (s &&& ~~~15#32) >>> 4 = s >>> 4 := by
    apply BitVec.eq_of_getLsbD_eq
    intro i hi
    simp only [BitVec.getLsbD_ushiftRight, BitVec.getLsbD_and, BitVec.getLsbD_not]
    have : (15#32).getLsbD (4 + i) = false := by
      rw [BitVec.getLsbD_ofNat]
      have : Nat.testBit 15 (4 + i) = false := Nat.testBit_lt_two_pow (by have := Nat.pow_le_pow_right (show 0 < 2 by decide) (show 4 ≤ 4 + i by omega); omega)
      simp [this]
    by_cases h32 : 4 + i < 32
    · rw [this]; simp [h32]
    · rw [BitVec.getLsbD_of_ge s (4 + i) (by omega)]; simp
  conv => rhs; rw [e]
  rw [step4_xor, step4_high hh, hsh]
  have := step4_low ⟨(s &&& 15#32).toNat, hq⟩
  simp only [BitVec.ofNat_toNat, BitVec.setWidth_eq] at this
  rw [this]
  rfl
theorem step4_inj {a b : BitVec 32} (h : step4 a = step4 b) : a = b := step_inj (step_inj (step_inj (step_inj h)))
theorem byte_eq (s b : BitVec 32) : byte s b = step4 (step4 (s ^^^ b)) := by unfold byte; rw [nib_eq, nib_eq]
theorem xor_inj {s t b : BitVec 32} (h : s ^^^ b = t ^^^ b) : s = t := by
  have := congrArg (fun v => v ^^^ b) h
  simpa [BitVec.xor_assoc] using this
theorem byte_inj {s t b : BitVec 32} (h : byte s b = byte t b) : s = t := by
  rw [byte_eq, byte_eq] at h
  exact xor_inj (step4_inj (step4_inj h))
theorem byte_ne {s b c : BitVec 32} (h : b ≠ c) : byte s b ≠ byte s c := by
  intro e
  rw [byte_eq, byte_eq] at e
  have := step4_inj (step4_inj e)
  rw [BitVec.xor_comm s b, BitVec.xor_comm s c] at this
  exact h (xor_inj this)
theorem bytes_inj {l : List (BitVec 32)} {s t : BitVec 32} (h : bytesOf s l = bytesOf t l) : s = t := by
  induction l generalizing s t with
  | nil => exact h
  | cons b l ih => exact byte_inj (ih h)
theorem bytes_append (s : BitVec 32) (a b : List (BitVec 32)) : bytesOf s (a ++ b) = bytesOf (bytesOf s a) b := by simp [bytesOf, List.foldl_append]
theorem more_append (s : BitVec 32) (a b : List (BitVec 32)) : more s (a ++ b) = more (more s a) b := by
  simp [more, bytes_append]
/-- One byte turned: another sum. -/
theorem bytes_turned (s : BitVec 32) (l : List (BitVec 32)) (k : Nat) (hk : k < l.length) (c : BitVec 32) (h : l[k] ≠ c) : bytesOf s (l.set k c) ≠ bytesOf s l := by
  induction l generalizing s k with
  | nil => simp at hk
  | cons b l ih =>
    cases k with
    | zero =>
      intro e
      have e2 : bytesOf (byte s c) l = bytesOf (byte s b) l := e
      exact byte_ne h (bytes_inj e2).symm
    | succ k =>
      intro e
      have e2 : bytesOf (byte s b) (l.set k c) = bytesOf (byte s b) l := e
      exact ih (byte s b) k (by simpa using hk) h e2
theorem more_turned (s : BitVec 32) (l : List (BitVec 32)) (k : Nat) (hk : k < l.length) (c : BitVec 32) (h : l[k] ≠ c) : more s (l.set k c) ≠ more s l := by
  intro e
  have := congrArg (fun v => ~~~ v) e
  simp only [more, BitVec.not_not] at this
  exact bytes_turned _ l k hk c h this
end Go.Proofs.YtefihmfilahppaaDoor.Crc
