/- Print of package script: the lines of all steps, one behind the other. -/
import Derived.Test.YtnollfnjidbdcaaDoorXLine
import Derived.Laws.Rows
namespace Go.Proofs.YtnollfnjidbdcaaDoor.X
open Go.RowKit
set_option linter.unusedSimpArgs false
set_option linter.unusedVariables false

def i64ok (n : Int) : Prop := -9223372036854775808 ≤ n ∧ n ≤ 9223372036854775807
/-- A step, in four cells. -/
structure StAt (w : World) (b o : Nat) (x : St) : Prop where
  ck : w.cell? ⟨b, o, none⟩ = some (.int .i64 x.k)
  ca : w.cell? ⟨b, o + 1, none⟩ = some (.int .i64 x.a)
  cb : w.cell? ⟨b, o + 2, none⟩ = some (.int .i64 x.b)
  cd : ∃ v, w.cell? ⟨b, o + 3, none⟩ = some v ∧ BytesAt w v x.d
  ok : i64ok x.k ∧ i64ok x.a ∧ i64ok x.b
theorem cell_below {w w' : World} {a : Addr} {v : Value} (h : w.cell? a = some v) (hb : Below w.heap.size w w') : w'.cell? a = some v :=
  (hb.cell (p := a) (World.block_lt_of_cell? _ _ h)).trans h
theorem StAt.below {w w' : World} {b o : Nat} {x : St} (h : StAt w b o x) (hb : Below w.heap.size w w') : StAt w' b o x := by
  obtain ⟨v, h1, h2⟩ := h.cd
  exact ⟨cell_below h.ck hb, cell_below h.ca hb, cell_below h.cb hb, ⟨v, cell_below h1 hb, h2.below (B := 0) hb⟩, h.ok⟩
/-- The steps of a slice. -/
def StepsAt (w : World) (v : Value) (xs : List St) : Prop :=
  ∃ p c, v = .slice p xs.length c ∧ xs.length ≤ c ∧ c ≤ maxLen ∧ (0 < xs.length → ∃ b off, p = some ⟨b, off, none⟩ ∧ ∀ j x, xs[j]? = some x → StAt w b (off + j * 4) x)
theorem StepsAt.below {w w' : World} {v : Value} {xs : List St} (h : StepsAt w v xs) (hb : Below w.heap.size w w') : StepsAt w' v xs := by
  obtain ⟨p, c, hv, h1, h2, h3⟩ := h
  refine ⟨p, c, hv, h1, h2, fun h0 => ?_⟩
  obtain ⟨b, off, hp, hx⟩ := h3 h0
  exact ⟨b, off, hp, fun j x hj => (hx j x hj).below hb⟩
theorem BytesAt.shape {w : World} {v : Value} {l : List UInt8} (h : BytesAt w v l) : ∃ p c, v = .slice p l.length c := by
  obtain ⟨p, c, h, _⟩ := h; exact ⟨p, c, h⟩

theorem printL_take (xs : List St) (k : Nat) : (printL (xs.take k)).length ≤ (printL xs).length := by
  conv => rhs; rw [← List.take_append_drop k xs]
  unfold printL
  rw [List.flatMap_append, List.length_append]
  omega
theorem printL_snoc (l : List St) (x : St) : printL (l ++ [x]) = printL l ++ lineL x.words := by simp [printL]

/-- The words of a step, just laid. -/
theorem words_new {W : World} {t0 : Nat} {v : Value} {x : St} (hv : BytesAt W v x.d) (hok : i64ok x.k ∧ i64ok x.a ∧ i64ok x.b) :
    WordsAt (W.alloc (.cells #[.iface 3 (.int .i64 x.k), .iface 3 (.int .i64 x.a), .iface 3 (.int .i64 x.b), .iface 37 v] t0)) (.slice (some ⟨W.heap.size, 0, none⟩) 4 4) x.words := by
  refine ⟨_, _, rfl, Nat.le_refl _, by unfold maxLen; simp [St.words], fun _ => ⟨W.heap.size, 0, rfl, fun j y hj => ?_⟩⟩
  have hb : (W.alloc (.cells #[.iface 3 (.int .i64 x.k), .iface 3 (.int .i64 x.a), .iface 3 (.int .i64 x.b), .iface 37 v] t0)).heap[W.heap.size]? = some (.cells #[.iface 3 (.int .i64 x.k), .iface 3 (.int .i64 x.a), .iface 3 (.int .i64 x.b), .iface 37 v] t0 (0, 0)) := by
    exact heap_alloc_new W _
  have hB : Below W.heap.size W (W.alloc (.cells #[.iface 3 (.int .i64 x.k), .iface 3 (.int .i64 x.a), .iface 3 (.int .i64 x.b), .iface 37 v] t0)) := (Below.refl _ _).alloc (Nat.le_refl _) _
  simp only [Nat.zero_add, Lib.cell_of_heap hb]
  match j, hj with
  | 0, hj => simp [St.words] at hj; subst hj; exact ⟨_, rfl, rfl, hok.1⟩
  | 1, hj => simp [St.words] at hj; subst hj; exact ⟨_, rfl, rfl, hok.2.1⟩
  | 2, hj => simp [St.words] at hj; subst hj; exact ⟨_, rfl, rfl, hok.2.2⟩
  | 3, hj => simp [St.words] at hj; subst hj; exact ⟨_, rfl, v, rfl, hv.below (B := 0) hB⟩
  | j + 4, hj => simp [St.words] at hj

set_option maxHeartbeats 2000000 in
set_option maxRecDepth 100000 in
theorem print_any (v : Value) (xs : List St) (hl : (printL xs).length ≤ 17592186044416) (w : World) (E : Env w) (h : StepsAt w v xs) :
    Calls Tryd.prog 14 #[v] w (Ret w (.string ⟨(printL xs).toArray⟩)) := by
  obtain ⟨p, c, rfl, h1, h2, h3⟩ := h
  unfold maxLen at h2
  have H3 := Lib.hid h3
  have EN := Lib.hid E
  clear h3 E
  go_enter Tryd.func14, Tryd.ntmps14
  go_wp2_with fail
  go_loopw [5, 8] (fun _ v8 wr => ∃ k : Nat, k ≤ xs.length ∧ v8 = .int .i64 k ∧ Lib.IsBuilder 64 5 w.heap.size w.heap.size (Lib.byteCells (printL (xs.take k))) wr ∧ Below w.heap.size w wr) (fun _ v8 _ => xs.length - (intOf v8).toNat)
  case atStart => exact ⟨0, by omega, rfl, Lib.fresh_isBuilder 64 5 w, (Below.refl _ w).alloc (Nat.le_refl _) _⟩
  case round =>
    obtain ⟨k, hk, rfl, hI, hB⟩ := hrel
    by_cases hkl : k < xs.length
    · obtain ⟨b, off, hp, hc⟩ := H3.out (by omega)
      obtain ⟨x, hx⟩ : ∃ x, xs[k]? = some x := ⟨xs[k], List.getElem?_eq_getElem hkl⟩
      have hst := (hc k x hx).below hB
      have hkli : (k : Int) < xs.length := by omega
      subst hp
      have c0 := hst.ck
      have c1 := hst.ca
      have c2 := hst.cb
      obtain ⟨vd, c3, hvd⟩ := hst.cd
      have hok := hst.ok
      have HX := Lib.hid hx
      have hpl := printL_take xs (k + 1)
      rw [List.take_add_one, hx, Option.toList_some, printL_snoc, List.length_append] at hpl
      have HPL := Lib.hid hpl
      have HI := Lib.hid hI
      have HB := Lib.hid hB
      have HVD := Lib.hid hvd
      have HOK := Lib.hid hok
      obtain ⟨pd, cd, rfl⟩ := hvd.shape
      clear hc hx hst hvd hok hpl hI hB
      go_wp2_with fail
      have hB1 : Below w.heap.size w (wr.alloc (.cells #[.int .i64 x.k, .int .i64 x.a, .int .i64 x.b, .slice pd x.d.length cd] 39)) := HB.out.alloc HB.out.size _
      have hBr : Below wr.heap.size wr (wr.alloc (.cells #[.int .i64 x.k, .int .i64 x.a, .int .i64 x.b, .slice pd x.d.length cd] 39)) := (Below.refl _ _).alloc (Nat.le_refl _) _
      have hw := words_new (W := wr.alloc (.cells #[.int .i64 x.k, .int .i64 x.a, .int .i64 x.b, .slice pd x.d.length cd] 39)) (t0 := 20) (HVD.out.below (B := 0) hBr) HOK.out
      have hB2 := hB1.alloc hB1.size (.cells #[.iface 3 (.int .i64 x.k), .iface 3 (.int .i64 x.a), .iface 3 (.int .i64 x.b), .iface 37 (.slice pd x.d.length cd)] 20)
      rw [World.size_alloc] at hw
      have hwl : (wordsL x.words).length + 1 ≤ 17592186044416 := by have := HPL.out; unfold lineL at this; simp at this; omega
      refine (line_any _ x.words (by omega) _ (EN.out.below hB2 EN.out.gl) hw).mono ?_
      rintro e W2 ⟨rfl, b2⟩
      have hB3 := hB2.trans (b2.mono hB2.size)
      have i3 := isBuilder_below (isBuilder_below (isBuilder_below HI.out hBr) ((Below.refl _ _).alloc (Nat.le_refl _) _)) b2
      clear hB1 hBr hw hB2 b2
      go_wp2_with fail
      refine (writeString_any _ _ (Lib.byteCells (printL (xs.take k))) _ _ i3 (by have := HPL.out; rw [Lib.byteCells_length, size_is]; simp at this ⊢; omega) hB3.size).mono ?_
      rintro e W4 ⟨rfl, i4, b4⟩
      have HI4 := Lib.hid i4
      have HB4 := Lib.hid (hB3.trans b4)
      clear i3 hB3 i4 b4 HI HB
      go_wp2_with fail
      go_roundw
      case rel =>
        refine ⟨k + 1, by omega, by go_num, ?_, HB4.out⟩
        have h := HI4.out
        rw [List.take_add_one, HX.out, Option.toList_some, printL_snoc]
        simpa [Lib.byteCells, Lib.strCells] using h
      case measure => simp [intOf]; omega
    · have hkl' : k = xs.length := by omega
      have hkn : ¬ (k : Int) < xs.length := by omega
      rw [List.take_of_length_le (by omega)] at hI
      clear hkl'
      go_wp2_with fail
      refine (Tryd.Builder_String_any _ _ _ _ hI hB.size).mono ?_
      rintro e W1 ⟨rfl, b1⟩
      go_wp2_with fail
      go_ret
      exact ⟨rfl, hB.trans b1⟩
end Go.Proofs.YtnollfnjidbdcaaDoor.X
