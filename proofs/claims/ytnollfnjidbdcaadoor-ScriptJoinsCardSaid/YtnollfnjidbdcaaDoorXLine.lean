/- line and Print of package script. -/
import Derived.Test.YtnollfnjidbdcaaDoorXUnhex
namespace Go.Proofs.YtnollfnjidbdcaaDoor.X
open Go.RowKit
set_option linter.unusedSimpArgs false
set_option linter.unusedVariables false

/-- A word, as a value of an interface. -/
def WdAt (w : World) (u : Value) : Wd → Prop
  | .num n => u = .iface 3 (.int .i64 n) ∧ -9223372036854775808 ≤ n ∧ n ≤ 9223372036854775807
  | .bytes l => ∃ v, u = .iface 37 v ∧ BytesAt w v l
theorem WdAt.below {w w' : World} {u : Value} {x : Wd} (h : WdAt w u x) (hb : Below w.heap.size w w') : WdAt w' u x := by
  cases x with
  | num n => exact h
  | bytes l => obtain ⟨v, hv, hl⟩ := h; exact ⟨v, hv, hl.below (B := 0) hb⟩
/-- The words of a slice. -/
def WordsAt (w : World) (v : Value) (ws : List Wd) : Prop :=
  ∃ p c, v = .slice p ws.length c ∧ ws.length ≤ c ∧ c ≤ maxLen ∧ (0 < ws.length → ∃ b off, p = some ⟨b, off, none⟩ ∧ ∀ j x, ws[j]? = some x → ∃ u, w.cell? ⟨b, off + j, none⟩ = some u ∧ WdAt w u x)

theorem words_snoc : ∀ (l : List Wd) (x : Wd), wordsL (l ++ [x]) = if l = [] then x.text else wordsL l ++ 32 :: x.text
  | [], x => by simp [wordsL]
  | [a], x => by simp [wordsL]
  | a :: b :: r, x => by
    have ih := words_snoc (b :: r) x
    simp only [List.cons_append] at ih ⊢
    unfold wordsL
    rw [ih]
    simp
theorem words_le : ∀ (l m : List Wd), (wordsL l).length ≤ (wordsL (l ++ m)).length
  | [], m => by simp [wordsL]
  | [a], m => by
    cases m with
    | nil => simp
    | cons b r => simp [wordsL]
  | a :: b :: r, m => by
    have ih := words_le (b :: r) m
    simp only [List.cons_append] at ih ⊢
    unfold wordsL
    simp
    omega
theorem words_take (ws : List Wd) (k : Nat) : (wordsL (ws.take k)).length ≤ (wordsL ws).length := by
  have := words_le (ws.take k) (ws.drop k)
  rwa [List.take_append_drop] at this

theorem words_elem (ws : List Wd) (k : Nat) (x : Wd) (h : ws[k]? = some x) : x.text.length ≤ (wordsL ws).length := by
  have h1 := words_take ws (k + 1)
  rw [List.take_add_one, h, Option.toList_some, words_snoc] at h1
  split at h1
  · exact h1
  · simp at h1; omega
theorem ret_str {a b : ByteArray} (h : a = b) : Ending.returned (.string a) = .returned (.string b) := by rw [h]
theorem isBuilder_below {B b : Nat} {bs : List Value} {w w' : World} (h : Lib.IsBuilder 64 5 B b bs w) (hb : Below w.heap.size w w') : Lib.IsBuilder 64 5 B b bs w' := by
  have key : ∀ p, Lib.BuilderAt 64 5 B b p bs w → Lib.BuilderAt 64 5 B b p bs w' := by
    rintro p ⟨h1, v, h2, h3, h4⟩
    exact ⟨h1, v, (hb.block b (Array.getElem?_eq_some_iff.1 h2).1).trans h2, ownsRow_below h3 hb, h4⟩
  exact h.elim (fun h => .inl (key _ h)) (fun h => .inr (key _ h))
theorem assert_int (n : Int) (w : World) : (Instr.typeAssert (.iface 3 (.int .i64 n)) 20 3 true).run Tryd.prog w = .ok (.tuple #[.int .i64 n, .bool true]) w := by kernel_rfl
theorem assert_noInt (v : Value) (w : World) : (Instr.typeAssert (.iface 37 v) 20 3 true).run Tryd.prog w = .ok (.tuple #[.int .i64 0, .bool false]) w := by kernel_rfl
theorem assert_bytes (v : Value) (w : World) : (Instr.typeAssert (.iface 37 v) 20 37 true).run Tryd.prog w = .ok (.tuple #[v, .bool true]) w := by kernel_rfl
theorem cells_str (l : List UInt8) : Lib.strCells ⟨l.toArray⟩ = Lib.byteCells l := rfl

set_option maxHeartbeats 2000000 in
set_option maxRecDepth 100000 in
theorem line_any (v : Value) (ws : List Wd) (hl : (wordsL ws).length ≤ 35184372088832) (w : World) (E : Env w) (h : WordsAt w v ws) :
    Calls Tryd.prog 22 #[v] w (Ret w (.string ⟨(lineL ws).toArray⟩)) := by
  obtain ⟨p, c, rfl, h1, h2, h3⟩ := h
  unfold maxLen at h2
  have H3 := Lib.hid h3
  have EN := Lib.hid E
  clear h3 E
  go_enter Tryd.func22, Tryd.ntmps22
  go_wp2_with fail
  go_loopw [4, 5, 10] (fun _ _ v10 wr => ∃ k : Nat, k ≤ ws.length ∧ v10 = .int .i64 k ∧ Lib.IsBuilder 64 5 w.heap.size w.heap.size (Lib.byteCells (wordsL (ws.take k))) wr ∧ Below w.heap.size w wr) (fun _ _ v10 _ => ws.length - (intOf v10).toNat)
  case atStart => exact ⟨0, by omega, rfl, Lib.fresh_isBuilder 64 5 w, (Below.refl _ w).alloc (Nat.le_refl _) _⟩
  case round =>
    obtain ⟨k, hk, rfl, hI, hB⟩ := hrel
    by_cases hkl : k < ws.length
    · obtain ⟨b, off, hp, hc⟩ := H3.out (by omega)
      obtain ⟨x, hx⟩ : ∃ x, ws[k]? = some x := ⟨ws[k], List.getElem?_eq_getElem hkl⟩
      obtain ⟨u, hu, hux⟩ := hc k x hx
      have huw : wr.cell? ⟨b, off + k, none⟩ = some u := (hB.cell (p := ⟨b, off + k, none⟩) (World.block_lt_of_cell? _ _ hu)).trans hu
      have hkli : (k : Int) < ws.length := by omega
      subst hp
      have HX := Lib.hid hx
      have HW := Lib.hid hux
      have HI := Lib.hid hI
      have HB := Lib.hid hB
      clear hc hu hx hux hI hB
      cases x with
      | num n =>
        obtain ⟨rfl, n0, n1⟩ := HW.out
        have ta := assert_int n
        by_cases hk0 : 0 < k
        · have hk0i : (0 : Int) < k := by omega
          have hne : ¬ ws.take k = [] := fun e => by have := congrArg List.length e; rw [List.length_take] at this; simp only [List.length_nil] at this; omega
          obtain ⟨pre, hpre⟩ : ∃ pre, wordsL (ws.take k) ++ [32] = pre := ⟨_, rfl⟩
          have hsn : wordsL (ws.take (k + 1)) = pre ++ Lib.itoa n := by
            rw [List.take_add_one, HX.out, Option.toList_some, words_snoc, if_neg hne, ← hpre]; simp [Wd.text]
          have ht2 := words_take ws (k + 1)
          rw [hsn, List.length_append] at ht2
          have HSN := Lib.hid hsn
          have HT2 := Lib.hid ht2
          have HPRE := Lib.hid hpre
          clear hne hsn ht2 hpre
          go_wp2_with fail
          refine (writeByte_any _ _ (Lib.byteCells (wordsL (ws.take k))) _ _ HI.out (by rw [Lib.byteCells_length]; have := words_take ws k; omega) HB.out.size).mono ?_
          rintro e W1 ⟨rfl, i1', b1⟩
          have i1 : Lib.IsBuilder 64 5 w.heap.size w.heap.size (Lib.byteCells pre) W1 := by rw [← HPRE.out, cells_snoc]; exact i1'
          have hB1 := HB.out.trans b1
          clear i1' b1
          go_wp2_with fail
          refine (itoa_any n n0 n1 W1 (EN.out.below hB1 EN.out.gl)).mono ?_
          rintro e W2 ⟨rfl, b2⟩
          have hB2 := hB1.trans (b2.mono hB1.size)
          have i2 := isBuilder_below i1 b2
          clear i1 hB1 b2
          go_wp2_with fail
          refine (writeString_any _ _ _ _ _ i2 (by have := HT2.out; rw [Lib.byteCells_length, size_is]; simp at this ⊢; omega) hB2.size).mono ?_
          rintro e W3 ⟨rfl, i3, b3⟩
          have HI3 := Lib.hid i3
          have HB3 := Lib.hid (hB2.trans b3)
          clear i2 hB2 i3 b3 HI HB
          go_wp2_with fail
          go_roundw
          case rel =>
            refine ⟨k + 1, by omega, by go_num, ?_, HB3.out⟩
            have h := HI3.out
            rw [HSN.out]
            simpa [Lib.byteCells, Lib.strCells] using h
          case measure => simp [intOf]; omega
        · have hk0i : ¬ (0 : Int) < k := by omega
          obtain rfl : k = 0 := by omega
          have huw0 := huw
          rw [Nat.add_zero] at huw0
          clear huw
          obtain ⟨pre, hpre⟩ : ∃ pre : List UInt8, [] = pre := ⟨_, rfl⟩
          have hsn : wordsL (ws.take (0 + 1)) = pre ++ Lib.itoa n := by
            rw [List.take_add_one, HX.out, Option.toList_some, words_snoc, if_pos (by simp), ← hpre]; simp [Wd.text]
          have ht2 := words_take ws (0 + 1)
          rw [hsn, List.length_append] at ht2
          have HSN := Lib.hid hsn
          have HT2 := Lib.hid ht2
          obtain ⟨W1, hW1⟩ : ∃ W1, wr = W1 := ⟨_, rfl⟩
          subst hW1
          have i1 : Lib.IsBuilder 64 5 w.heap.size w.heap.size (Lib.byteCells pre) wr := by rw [← hpre]; exact HI.out
          have hB1 := HB.out
          clear hsn ht2 hpre
          go_wp2_with fail
          refine (itoa_any n n0 n1 wr (EN.out.below hB1 EN.out.gl)).mono ?_
          rintro e W2 ⟨rfl, b2⟩
          have hB2 := hB1.trans (b2.mono hB1.size)
          have i2 := isBuilder_below i1 b2
          clear i1 hB1 b2
          go_wp2_with fail
          refine (writeString_any _ _ _ _ _ i2 (by have := HT2.out; rw [Lib.byteCells_length, size_is]; simp at this ⊢; omega) hB2.size).mono ?_
          rintro e W3 ⟨rfl, i3, b3⟩
          have HI3 := Lib.hid i3
          have HB3 := Lib.hid (hB2.trans b3)
          clear i2 hB2 i3 b3 HI HB
          go_wp2_with fail
          go_roundw
          case rel =>
            refine ⟨0 + 1, by omega, by go_num, ?_, HB3.out⟩
            have h := HI3.out
            rw [HSN.out]
            simpa [Lib.byteCells, Lib.strCells] using h
          case measure => simp [intOf]; omega
      | bytes l =>
        obtain ⟨v0, rfl, hv0⟩ := HW.out
        have ta := assert_noInt v0
        have tb := assert_bytes v0
        have HV := Lib.hid (show BytesAt w v0 l from hv0)
        clear hv0
        have hcat : (hexL l).length ≤ 35184372088832 := by have := words_elem ws k _ HX.out; simp only [Wd.text, List.length_cons] at this; omega
        by_cases hk0 : 0 < k
        · have hk0i : (0 : Int) < k := by omega
          have hne : ¬ ws.take k = [] := fun e => by have := congrArg List.length e; rw [List.length_take] at this; simp only [List.length_nil] at this; omega
          obtain ⟨pre, hpre⟩ : ∃ pre, wordsL (ws.take k) ++ [32] = pre := ⟨_, rfl⟩
          have hsn : wordsL (ws.take (k + 1)) = pre ++ (120 :: hexL l) := by
            rw [List.take_add_one, HX.out, Option.toList_some, words_snoc, if_neg hne, ← hpre]; simp [Wd.text]
          have ht2 := words_take ws (k + 1)
          rw [hsn, List.length_append] at ht2
          have HSN := Lib.hid hsn
          have HT2 := Lib.hid ht2
          have HPRE := Lib.hid hpre
          clear hne hsn ht2 hpre
          go_wp2_with fail
          refine (writeByte_any _ _ (Lib.byteCells (wordsL (ws.take k))) _ _ HI.out (by rw [Lib.byteCells_length]; have := words_take ws k; omega) HB.out.size).mono ?_
          rintro e W1 ⟨rfl, i1', b1⟩
          have i1 : Lib.IsBuilder 64 5 w.heap.size w.heap.size (Lib.byteCells pre) W1 := by rw [← HPRE.out, cells_snoc]; exact i1'
          have hB1 := HB.out.trans b1
          clear i1' b1
          go_wp2_with fail
          refine (hex_any v0 l (by have := HT2.out; rw [List.length_cons, hexL_length] at this; omega) W1 (HV.out.below (B := 0) hB1)).mono ?_
          rintro e W2 ⟨rfl, b2⟩
          have hB2 := hB1.trans (b2.mono hB1.size)
          have i2 := isBuilder_below i1 b2
          clear i1 hB1 b2
          go_wp2_with fail
          refine (writeString_any _ _ _ _ _ i2 (by have := HT2.out; rw [Lib.byteCells_length, size_is]; simp at this ⊢; omega) hB2.size).mono ?_
          rintro e W3 ⟨rfl, i3, b3⟩
          have HI3 := Lib.hid i3
          have HB3 := Lib.hid (hB2.trans b3)
          clear i2 hB2 i3 b3 HI HB
          go_wp2_with fail
          go_roundw
          case rel =>
            refine ⟨k + 1, by omega, by go_num, ?_, HB3.out⟩
            have h := HI3.out
            rw [HSN.out]
            simpa [Lib.byteCells, Lib.strCells] using h
          case measure => simp [intOf]; omega
        · have hk0i : ¬ (0 : Int) < k := by omega
          obtain rfl : k = 0 := by omega
          have huw0 := huw
          rw [Nat.add_zero] at huw0
          clear huw
          obtain ⟨pre, hpre⟩ : ∃ pre : List UInt8, [] = pre := ⟨_, rfl⟩
          have hsn : wordsL (ws.take (0 + 1)) = pre ++ (120 :: hexL l) := by
            rw [List.take_add_one, HX.out, Option.toList_some, words_snoc, if_pos (by simp), ← hpre]; simp [Wd.text]
          have ht2 := words_take ws (0 + 1)
          rw [hsn, List.length_append] at ht2
          have HSN := Lib.hid hsn
          have HT2 := Lib.hid ht2
          obtain ⟨W1, hW1⟩ : ∃ W1, wr = W1 := ⟨_, rfl⟩
          subst hW1
          have i1 : Lib.IsBuilder 64 5 w.heap.size w.heap.size (Lib.byteCells pre) wr := by rw [← hpre]; exact HI.out
          have hB1 := HB.out
          clear hsn ht2 hpre
          go_wp2_with fail
          refine (hex_any v0 l (by have := HT2.out; rw [List.length_cons, hexL_length] at this; omega) wr (HV.out.below (B := 0) hB1)).mono ?_
          rintro e W2 ⟨rfl, b2⟩
          have hB2 := hB1.trans (b2.mono hB1.size)
          have i2 := isBuilder_below i1 b2
          clear i1 hB1 b2
          go_wp2_with fail
          refine (writeString_any _ _ _ _ _ i2 (by have := HT2.out; rw [Lib.byteCells_length, size_is]; simp at this ⊢; omega) hB2.size).mono ?_
          rintro e W3 ⟨rfl, i3, b3⟩
          have HI3 := Lib.hid i3
          have HB3 := Lib.hid (hB2.trans b3)
          clear i2 hB2 i3 b3 HI HB
          go_wp2_with fail
          go_roundw
          case rel =>
            refine ⟨0 + 1, by omega, by go_num, ?_, HB3.out⟩
            have h := HI3.out
            rw [HSN.out]
            simpa [Lib.byteCells, Lib.strCells] using h
          case measure => simp [intOf]; omega
    · have hkl' : k = ws.length := by omega
      have hkn : ¬ (k : Int) < ws.length := by omega
      rw [List.take_of_length_le (by omega)] at hI
      clear hkl'
      go_wp2_with fail
      refine (Tryd.Builder_String_any _ _ _ _ hI hB.size).mono ?_
      rintro e W1 ⟨rfl, b1⟩
      go_wp2_with fail
      go_ret
      exact ⟨ret_str (ByteArray.mk_append_mk (wordsL ws) [10]), hB.trans b1⟩
end Go.Proofs.YtnollfnjidbdcaaDoor.X
