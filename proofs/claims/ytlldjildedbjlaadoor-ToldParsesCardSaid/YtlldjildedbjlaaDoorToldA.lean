/- Scripts as text, walked: an act's numbers, and its line. Condition: the listed variables hold what the text lays. -/
import Derived.Test.YtlldjildedbjlaaDoorShelf
import Derived.Test.YtlldjildedbjlaaDoorToldP2
import Derived.Test.YtlldjildedbjlaaDoorTok2
import Derived.Deep.DeepCutAuto
import Derived.Lib.AppendIntMem
namespace Go.Proofs.YtlldjildedbjlaaDoor.ToldW
open Go.RowKit Go.Proofs.YtlldjildedbjlaaDoor.Com Go.Proofs.YtlldjildedbjlaaDoor.Ord Go.Proofs.YtlldjildedbjlaaDoor.Tok Go.Proofs.YtlldjildedbjlaaDoor.ToldP
set_option linter.unusedVariables false
def str (l : List UInt8) : Value := .string ⟨l.toArray⟩
/-- What the package's variables hold. -/
structure Glob (w : World) : Prop where
  kinds : ∀ i l, kindN[i]? = some l → w.cell? ⟨0, i, none⟩ = some (str l)
  names : ∀ i l, nameN[i]? = some l → w.cell? ⟨1, i, none⟩ = some (str l)
  most : ∃ m, w.cell? ⟨2, 0, none⟩ = some (.int .i64 m)
  bad : ∃ te pe, w.cell? ⟨3, 0, none⟩ = some (.iface te pe)
  far : ∃ te pe, w.cell? ⟨4, 0, none⟩ = some (.iface te pe)
  pows : Lib.TabIs Tryd.prog w "internal/strconv.uint64pow10" .u64 Lib.pow10Tab
theorem TabIs_below {P : Program} {w w' : World} {name : String} {k : IntKind} {zs : List Int} (h : Lib.TabIs P w name k zs) (hb : Below w.heap.size w w') (hz : zs ≠ []) : Lib.TabIs P w' name k zs := by
  unfold Lib.TabIs at h ⊢
  cases hg : P.globalNamed name with
  | none => unfold World.var? at h; simp [hg] at h
  | some g =>
    have hlt : g < w.heap.size := by
      rcases Nat.lt_or_ge g w.heap.size with h1 | h1
      · exact h1
      · unfold World.var? at h
        simp [hg, Array.getElem?_eq_none h1] at h
    unfold World.var? at h ⊢
    simp only [hg, Option.bind_some] at h ⊢
    rw [hb.block g hlt]
    exact h
theorem Glob.below {w w' : World} (h : Glob w) (hb : Below w.heap.size w w') : Glob w' := by
  obtain ⟨m, hm⟩ := h.most
  obtain ⟨a, b, hs⟩ := h.bad
  obtain ⟨c, d, hr⟩ := h.far
  exact ⟨fun i l hi => b_keep hb (h.kinds i l hi), fun i l hi => b_keep hb (h.names i l hi), ⟨m, b_keep hb hm⟩, ⟨a, b, b_keep hb hs⟩, ⟨c, d, b_keep hb hr⟩, TabIs_below h.pows hb (by decide)⟩
def actV (a : DoA) : Value := .agg #[.int .i64 a.kind, .int .i64 a.who, .int .i64 a.amount, .int .u32 a.draw, .int .i64 a.pos, .int .i64 a.fault, .int .i64 a.keep]
theorem cat_run (t : TypeId) (a b : List UInt8) (h : a.length + b.length ≤ 1000000000000) (w : World) : (binOp .add t (.string ⟨a.toArray⟩) (.string ⟨b.toArray⟩)).run Tryd.prog w = .ok (.string ⟨(a ++ b).toArray⟩) w := by
  have hm : IntKind.i64.max = 9223372036854775807 := by decide
  have e : (⟨a.toArray⟩ ++ ⟨b.toArray⟩ : ByteArray) = ⟨(a ++ b).toArray⟩ := by
    apply ByteArray.ext
    rw [ByteArray.data_append]
    simp
  have hs : (⟨a.toArray⟩ : ByteArray).size + (⟨b.toArray⟩ : ByteArray).size = a.length + b.length := rfl
  simp only [binOp, Op.stringOp]
  rw [hs, hm, if_neg (by omega), e]
  rfl
theorem part_len (name : List UInt8) (v : Int) (h : In64 v) (hn : name.length ≤ 6) : (prt name v).length ≤ 29 := by
  have := Lib.itoa_length_le v h.1 h.2
  unfold prt
  split
  · simp
  · simp; omega
theorem name_len (k : Nat) : (nameN.getD k []).length ≤ 6 := by
  rcases Nat.lt_or_ge k 6 with h | h
  · have hc : k = 0 ∨ k = 1 ∨ k = 2 ∨ k = 3 ∨ k = 4 ∨ k = 5 := by omega
    rcases hc with rfl | rfl | rfl | rfl | rfl | rfl <;> decide
  · rw [List.getD_eq_getElem?_getD, List.getElem?_eq_none (by show 6 ≤ k; exact h)]; simp
theorem bcat (a b : List UInt8) : (⟨a.toArray⟩ : ByteArray) ++ ⟨b.toArray⟩ = ⟨(a ++ b).toArray⟩ := by apply ByteArray.ext; simp [ByteArray.data_append]
theorem index6 (c0 c1 c2 c3 c4 c5 : Value) (k : Nat) (hk : k < 6) (w : World) : (Instr.index 79 (.agg #[c0, c1, c2, c3, c4, c5]) (.int .i64 k)).run Tryd.prog w = .ok (#[c0, c1, c2, c3, c4, c5].getD k undef) w := by
  have hc : k = 0 ∨ k = 1 ∨ k = 2 ∨ k = 3 ∨ k = 4 ∨ k = 5 := by omega
  rcases hc with rfl | rfl | rfl | rfl | rfl | rfl <;> simp [Instr.index, go_sem]
theorem index6s (c0 c1 c2 c3 c4 c5 : Value) (k : Nat) (hk : k < 6) (w : World) : (Instr.index 61 (.agg #[c0, c1, c2, c3, c4, c5]) (.int .i64 k)).run Tryd.prog w = .ok (#[c0, c1, c2, c3, c4, c5].getD k undef) w := by
  have hc : k = 0 ∨ k = 1 ∨ k = 2 ∨ k = 3 ∨ k = 4 ∨ k = 5 := by omega
  rcases hc with rfl | rfl | rfl | rfl | rfl | rfl <;> simp [Instr.index, go_sem]
set_option maxRecDepth 100000 in
theorem get_calls (a : DoA) (k : Nat) (hk : k < 6) (h0 : 0 ≤ a.draw) (h1 : a.draw < 4294967296) (w : World) :
    Calls Tryd.prog 28 #[actV a, .int .i64 k] w fun e w' => e = .returned (.int .i64 ((vals a).getD k 0)) ∧ Below w.heap.size w w' := by
  unfold actV
  obtain ⟨kind, who, amount, draw, pos, fault, keep⟩ := a
  dsimp only at *
  have hi := fun w => index6 (.int .i64 who) (.int .i64 amount) (.int .i64 draw) (.int .i64 pos) (.int .i64 fault) (.int .i64 keep) k hk w
  have hv : Hid (#[Value.int .i64 who, .int .i64 amount, .int .i64 draw, .int .i64 pos, .int .i64 fault, .int .i64 keep].getD k undef = .int .i64 ((vals ⟨kind, who, amount, draw, pos, fault, keep⟩).getD k 0)) := Lib.hid (by
    have hc : k = 0 ∨ k = 1 ∨ k = 2 ∨ k = 3 ∨ k = 4 ∨ k = 5 := by omega
    rcases hc with rfl | rfl | rfl | rfl | rfl | rfl <;> rfl)
  generalize #[Value.int .i64 who, .int .i64 amount, .int .i64 draw, .int .i64 pos, .int .i64 fault, .int .i64 keep].getD k undef = v at *
  go_enter Tryd.func28, Tryd.ntmps28
  go_wp2_with fail
  go_ret
  exact ⟨by rw [← hv.out]; rfl, b_alloc (b_refl _) _⟩
theorem parts_succ (a : DoA) (k : Nat) (hk : k < 6) : prts a (k + 1) = prts a k ++ prt (nameN.getD k []) ((vals a).getD k 0) := by
  have hc : k = 0 ∨ k = 1 ∨ k = 2 ∨ k = 3 ∨ k = 4 ∨ k = 5 := by omega
  rcases hc with rfl | rfl | rfl | rfl | rfl | rfl <;> simp [prts, vals, nameN]
theorem parts_len (a : DoA) (ha : ∀ k, k < 6 → In64 ((vals a).getD k 0)) : ∀ k, k ≤ 6 → (prts a k).length ≤ k * 29
  | 0, _ => by simp [prts]
  | k + 1, h => by
    rw [parts_succ a k (by omega), List.length_append]
    have h1 := parts_len a ha k (by omega)
    have h2 := part_len (nameN.getD k []) ((vals a).getD k 0) (ha k (by omega)) (name_len k)
    omega
theorem kind_len (n : Nat) : (kindN.getD n []).length ≤ 7 := by
  rcases Nat.lt_or_ge n 10 with h | h
  · have hc : n = 0 ∨ n = 1 ∨ n = 2 ∨ n = 3 ∨ n = 4 ∨ n = 5 ∨ n = 6 ∨ n = 7 ∨ n = 8 ∨ n = 9 := by omega
    rcases hc with rfl | rfl | rfl | rfl | rfl | rfl | rfl | rfl | rfl | rfl <;> decide
  · rw [List.getD_eq_getElem?_getD, List.getElem?_eq_none (by show 10 ≤ n; exact h)]; simp
set_option maxRecDepth 100000 in
set_option maxHeartbeats 1000000 in
theorem text_calls (a : DoA) (ha : Tellable a) (w : World) (hG : Glob w) :
    Calls Tryd.prog 16 #[actV a] w fun e w' => e = .returned (str (textA a)) ∧ Below w.heap.size w w' := by
  obtain ⟨h0, h9, hd0, hd1, hall⟩ := ha
  obtain ⟨n, hn⟩ : ∃ n : Nat, a.kind = n := ⟨a.kind.toNat, by omega⟩
  have hn9 : n ≤ 9 := by omega
  have hk : w.cell? ⟨0, n, none⟩ = some (str (kindN.getD n [])) := hG.kinds n _ (by
    have : n < kindN.length := by show n < 10; omega
    rw [List.getD_eq_getElem?_getD, List.getElem?_eq_getElem this]; rfl)
  have ht : Hid (textA a = kindN.getD n [] ++ prts a 6) := Lib.hid (by unfold textA; rw [hn]; rfl)
  have q1 := Lib.hid (fun k hk => get_calls a k hk hd0 hd1)
  have n0 := hG.names 0 _ rfl
  have n1 := hG.names 1 _ rfl
  have n2 := hG.names 2 _ rfl
  have n3 := hG.names 3 _ rfl
  have n4 := hG.names 4 _ rfl
  have n5 := hG.names 5 _ rfl
  have l0 : 0 < w.heap.size := World.block_lt_of_cell? w _ hk
  have l1 : 1 < w.heap.size := World.block_lt_of_cell? w _ n0
  have hkl := kind_len n
  unfold str at *
  generalize kindN.getD n [] = kn at *
  have HN := Lib.hid hn
  unfold actV at *
  rw [hn]
  have e0 : (0 : Int) ≤ (n : Int) := by omega
  have e1 : (n : Int) < 10 := by omega
  clear hn h0 h9
  go_enter Tryd.func16, Tryd.ntmps16
  go_wp2_with fail
  have hB0 := Blk.new w 38 #[.int .i64 (n : Int), .int .i64 a.who, .int .i64 a.amount, .int .u32 a.draw, .int .i64 a.pos, .int .i64 a.fault, .int .i64 a.keep]
  have hBW := b_alloc (b_refl w) (.cells #[.int .i64 (n : Int), .int .i64 a.who, .int .i64 a.amount, .int .u32 a.draw, .int .i64 a.pos, .int .i64 a.fault, .int .i64 a.keep] 38)
  replace hG := hG.below hBW
  rw [HN.out] at q1
  clear n0 n1 n2 n3 n4 n5 hk
  generalize w.alloc (.cells #[.int .i64 (n : Int), .int .i64 a.who, .int .i64 a.amount, .int .u32 a.draw, .int .i64 a.pos, .int .i64 a.fault, .int .i64 a.keep] 38) = w0 at *
  go_loopw [3, 12] (fun s3 s12 wr => ∃ k : Nat, k ≤ 6 ∧ s12 = .int .i64 k ∧ s3 = .string ⟨(kn ++ prts a k).toArray⟩ ∧ Below w0.heap.size w0 wr) (fun _ s12 _ => 6 - (intOf s12).toNat)
  case atStart => exact ⟨0, by omega, rfl, by simp [prts], b_refl _⟩
  case round =>
    obtain ⟨k, hk, rfl, rfl, hbr⟩ := hrel
    by_cases hlt : k < 6
    · have hi : ∀ w, (Instr.index 61 (.agg #[.string { data := #[119, 104, 111] }, .string { data := #[97, 109, 111, 117, 110, 116] }, .string { data := #[100, 114, 97, 119] }, .string { data := #[97, 116] }, .string { data := #[102, 97, 117, 108, 116] }, .string { data := #[107, 101, 101, 112] }]) (.int .i64 k)).run Tryd.prog w = .ok (.string ⟨(nameN.getD k []).toArray⟩) w := by
        intro w
        rw [index6s _ _ _ _ _ _ k hlt]
        have hc : k = 0 ∨ k = 1 ∨ k = 2 ∨ k = 3 ∨ k = 4 ∨ k = 5 := by omega
        rcases hc with rfl | rfl | rfl | rfl | rfl | rfl <;> rfl
      have hs := Lib.hid (parts_succ a k hlt)
      have q2 := q1.out k hlt
      have hv := hall k hlt
      have hpl := parts_len a hall k hk
      have hnl := name_len k
      have hil := Lib.itoa_length_le _ hv.1 hv.2
      replace hB0 := hB0.below hbr
      have c0 := hB0.cell 0
      have c1 := hB0.cell 1
      have c2 := hB0.cell 2
      have c3 := hB0.cell 3
      have c4 := hB0.cell 4
      have c5 := hB0.cell 5
      have c6 := hB0.cell 6
      simp only [List.getElem?_toArray, List.getElem?_cons_zero, List.getElem?_cons_succ] at c0 c1 c2 c3 c4 c5 c6
      generalize nameN.getD k [] = nm at *
      generalize (vals a).getD k 0 = v at *
      generalize prts a k = p0 at *
      replace q2 := Lib.hid q2
      have hG1 := hG.below hbr
      by_cases hv0 : v = 0
      · have e2 : (v != 0) = false := by simp [hv0]
        have hs2 : Hid (prts a (k + 1) = p0) := Lib.hid (by rw [hs.out, hv0]; simp [prt])
        clear hv0 hs
        go_wp2_with (go_at_call 28; refine (q2.out _).mono ?_; rintro e w3 ⟨rfl, hb⟩)
        go_roundw
        case rel => exact ⟨k + 1, by omega, by go_num, by rw [hs2.out], b_step hbr hb⟩
        case measure => simp [intOf]; omega
      · have e2 : (v != 0) = true := by simp [hv0]
        have hs2 : Hid (prts a (k + 1) = p0 ++ 32 :: (nm ++ 61 :: Lib.itoa v)) := Lib.hid (by rw [hs.out]; unfold prt; rw [if_neg hv0])
        have hx4 : Hid (kn ++ (p0 ++ 32 :: (nm ++ 61 :: Lib.itoa v)) = kn ++ p0 ++ 32 :: (nm ++ 61 :: Lib.itoa v)) := Lib.hid (by simp)
        clear hv0 hs
        have hpk : (kn ++ p0).length ≤ 1000 := by rw [List.length_append]; omega
        clear hpl hkl
        generalize kn ++ p0 = kp at *
        go_wp2_with (go_at_call 28; refine (q2.out _).mono ?_; rintro e w3 ⟨rfl, hb⟩; have hG2 := hG1.below hb)
        have q3 := Lib.hid (Tryd.strconv_FormatInt_10 v hv.1 hv.2 w3 hG2.pows)
        go_wp2_with (go_at_call 29; refine q3.out.mono ?_; rintro e w4 ⟨rfl, kk, os, rfl⟩)
        go_roundw
        case rel => exact ⟨k + 1, by omega, by go_num, by rw [hs2.out, hx4.out]; simp only [bcat]; simp, b_step hbr (b_step hb (Go.Lib.below_grow _ _ (Nat.le_refl _) kk os))⟩
        case measure => simp [intOf]; omega
    · obtain rfl : k = 6 := by omega
      clear hlt hB0
      go_wp2_with fail
      go_ret
      exact ⟨by rw [ht.out]; rfl, b_step hBW hbr⟩
end Go.Proofs.YtlldjildedbjlaaDoor.ToldW
