/- Parse of package script: the steps of a text. -/
import Derived.Test.YtnollfnjidbdcaaDoorXLoop
import Derived.Test.YtnollfnjidbdcaaDoorXSetter
namespace Go.Proofs.YtnollfnjidbdcaaDoor.X
open Go.RowKit Go.Shelf
set_option linter.unusedSimpArgs false
set_option linter.unusedVariables false
attribute [local go_sem] Oper.semAt_some

theorem linesFn_any (s : ByteArray) (w : World) : Calls Tryd.prog 30 #[.string s] w fun e w' => e = .returned (.func (.func 41) #[] #[.pointer (some ⟨w.heap.size, 0, none⟩)]) ∧ w.alloc (.cells #[.string s] 9) = w' := by
  go_enter Tryd.func30, Tryd.ntmps30
  go_wp2_with fail
  go_ret
  exact ⟨rfl, rfl⟩


theorem own_kept {lo e sz n : Nat} {w w' : World} {v : Value} {xs : List Value} (h : w.ownsRow lo e sz v n xs) (hs : ∀ k cur, lo ≤ k → w.heap[k]? = some (.cells cur e (0, 0)) → w'.heap[k]? = w.heap[k]?) : w'.ownsRow lo e sz v n xs := by
  refine ⟨h.1, ?_⟩
  rcases h.2 with h | ⟨g, cap, cur, hv, h1, h2, r⟩
  · exact .inl h
  · exact .inr ⟨g, cap, cur, hv, h1, (hs g cur h1 h2).trans h2, r⟩
/-- Steps in the cells of a row: four cells each; the bytes lie in rows of their own. -/
def RowSts (W : World) (lo : Nat) (xs : List St) (cs : List Value) : Prop :=
  cs.length = 4 * xs.length ∧ ∀ j x, xs[j]? = some x → cs[4 * j]? = some (.int .i64 x.k) ∧ cs[4 * j + 1]? = some (.int .i64 x.a) ∧ cs[4 * j + 2]? = some (.int .i64 x.b) ∧
    (∃ d, cs[4 * j + 3]? = some d ∧ W.ownsRow lo 5 1 d x.d.length (Lib.byteCells x.d)) ∧ i64ok x.k ∧ i64ok x.a ∧ i64ok x.b
theorem RowSts.kept {W W' : World} {lo : Nat} {xs : List St} {cs : List Value} (h : RowSts W lo xs cs) (hs : ∀ k cur, lo ≤ k → W.heap[k]? = some (.cells cur 5 (0, 0)) → W'.heap[k]? = W.heap[k]?) : RowSts W' lo xs cs := by
  refine ⟨h.1, fun j x hj => ?_⟩
  obtain ⟨h1, h2, h3, ⟨d, h4, h5⟩, h6⟩ := h.2 j x hj
  exact ⟨h1, h2, h3, ⟨d, h4, own_kept h5 hs⟩, h6⟩
theorem RowSts.snoc {W : World} {lo : Nat} {xs : List St} {cs : List Value} {x : St} {d : Value} (h : RowSts W lo xs cs) (hd : W.ownsRow lo 5 1 d x.d.length (Lib.byteCells x.d)) (hx : i64ok x.k ∧ i64ok x.a ∧ i64ok x.b) :
    RowSts W lo (xs ++ [x]) (cs ++ [.int .i64 x.k, .int .i64 x.a, .int .i64 x.b, d]) := by
  refine ⟨by simp [h.1]; omega, fun j y hj => ?_⟩
  by_cases hl : j < xs.length
  · rw [List.getElem?_append_left hl] at hj
    have := h.1
    rw [List.getElem?_append_left (by omega), List.getElem?_append_left (by omega), List.getElem?_append_left (by omega), List.getElem?_append_left (by omega)]
    exact h.2 j y hj
  · have hj0 : j = xs.length := by
      have := (List.getElem?_eq_some_iff.1 hj).1
      simp at this; omega
    subst hj0
    simp at hj
    subst hj
    have := h.1
    rw [List.getElem?_append_right (by omega), List.getElem?_append_right (by omega), List.getElem?_append_right (by omega), List.getElem?_append_right (by omega)]
    rw [show 4 * xs.length - cs.length = 0 by omega, show 4 * xs.length + 1 - cs.length = 1 by omega, show 4 * xs.length + 2 - cs.length = 2 by omega, show 4 * xs.length + 3 - cs.length = 3 by omega]
    exact ⟨rfl, rfl, rfl, ⟨d, rfl, hd⟩, hx⟩
theorem bytesAt_own {W : World} {lo : Nat} {d : Value} {l : List UInt8} (h : W.ownsRow lo 5 1 d l.length (Lib.byteCells l)) : BytesAt W d l := by
  rcases h.2 with ⟨h1, h0⟩ | ⟨g, cap, cur, h1, h2, h3, h4, h5, _⟩
  · exact ⟨none, 0, by rw [h1, h0], by omega, by unfold maxLen; omega, fun h => by omega⟩
  · subst h1
    refine ⟨_, cap, rfl, h4, h5, fun _ => ⟨g, 0, rfl, fun j x hj => ?_⟩⟩
    have hl : j < l.length * 1 := by have := (List.getElem?_eq_some_iff.1 hj).1; omega
    rw [Nat.zero_add, h.cellAt j hl]
    unfold Lib.byteCells
    rw [List.getElem?_map, hj]
    rfl
theorem Turns.box {n₀ B k : Nat} {W W' : World} {t : TypeId} {v : Value} (h : Turns n₀ B W W') (hb : Boxed W k t v) (hk : k ≠ B) : Boxed W' k t v := (h.same k hb.lt hk (.inr ⟨_, hb, rfl⟩)).trans hb
theorem Turns.cells {n₀ B lo e : Nat} {W W' : World} (h : Turns n₀ B W W') (hl : B < lo) : ∀ k cur, lo ≤ k → W.heap[k]? = some (.cells cur e (0, 0)) → W'.heap[k]? = W.heap[k]? :=
  fun k cur hk hc => h.same k (Array.getElem?_eq_some_iff.1 hc).1 (by omega) (.inr ⟨_, hc, rfl⟩)
theorem Turns.below {n₀ B z : Nat} {w W W' : World} (h : Turns n₀ B W W') (hb : Below z w W) (hz : z ≤ n₀) (hB : z ≤ B) (hw : z ≤ w.heap.size) : Below z w W' :=
  ⟨h.os.trans hb.os, h.tape.trans hb.tape, h.output.trans hb.output, Nat.le_trans hb.size h.size, fun k hk => (h.same k (by have := hb.size; omega) (by omega) (.inl (by omega))).trans (hb.block k hk)⟩

/-- Between two rounds. -/
def ParseI (w : World) (pre : List (List UInt8)) (W : World) : Prop :=
  ∃ (xs : List St) (v : Value) (cs : List Value), Boxed W w.heap.size 29 (.slice none 0 0) ∧ Boxed W (w.heap.size + 1) 3 (.int .i64 0) ∧ Boxed W (w.heap.size + 1 + 1) 31 (.int .i64 0) ∧ Boxed W (w.heap.size + 1 + 1 + 1) 29 v ∧
    Boxed W (w.heap.size + 1 + 1 + 1 + 1) 3 (.int .i64 pre.length) ∧ W.ownsRow (w.heap.size + 6) 39 4 v xs.length cs ∧ RowSts W (w.heap.size + 6) xs cs ∧
    (∀ rest, parseGo 0 [] (pre ++ rest) = parseGo pre.length xs rest) ∧ xs.length ≤ pre.length ∧ Below w.heap.size w W
/-- A round has found a line that is none. -/
def ParseX (w : World) (l : List UInt8) (W : World) : Prop :=
  ∃ n : Int, Boxed W w.heap.size 29 (.slice none 0 0) ∧ Boxed W (w.heap.size + 1) 3 (.int .i64 n) ∧ Boxed W (w.heap.size + 1 + 1) 31 (.int .i64 8) ∧ parseL l = ([], n, 8) ∧ Below w.heap.size w W
def ParsePost (l : List UInt8) (w : World) (e : Ending) (w' : World) : Prop :=
  Below w.heap.size w w' ∧ ∃ v, e = .returned (.tuple #[v, .int .i64 (parseL l).2.1, .int .i64 (parseL l).2.2]) ∧ StepsAt w' v (parseL l).1
theorem lines_le : ∀ (l x : List UInt8), x ∈ linesL l → x.length ≤ l.length
  | [], x, h => by simp [linesL] at h
  | c :: r, x, h => by
    unfold linesL at h
    split at h
    · rcases List.mem_cons.1 h with h | h
      · subst h; simp
      · have := lines_le r x h; simp; omega
    · cases hs : linesL r with
      | nil => rw [hs] at h; simp at h; subst h; simp
      | cons a t =>
        rw [hs] at h
        rcases List.mem_cons.1 h with h | h
        · subst h
          have := lines_le r a (by rw [hs]; simp)
          simp; omega
        · have := lines_le r x (by rw [hs]; simp [h])
          simp; omega
theorem lines_count : ∀ l : List UInt8, (linesL l).length ≤ l.length
  | [] => by simp [linesL]
  | c :: r => by
    have ih := lines_count r
    unfold linesL
    split
    · simp; omega
    · cases hs : linesL r with
      | nil => simp
      | cons a t => rw [hs] at ih; simp at ih ⊢; omega

theorem trim_le' (l p : List UInt8) : (Lib.trimSuffix l p).length ≤ l.length := by
  unfold Lib.trimSuffix
  split
  · simp
  · exact Nat.le_refl _
theorem boxed_below {W W' : World} {k : Nat} {t : TypeId} {v : Value} (h : Boxed W k t v) (hb : Below W.heap.size W W') : Boxed W' k t v := (hb.block k h.lt).trans h
theorem stepsAt_own {W : World} {lo : Nat} {v : Value} {xs : List St} {cs : List Value} (h : W.ownsRow lo 39 4 v xs.length cs) (hR : RowSts W lo xs cs) : StepsAt W v xs := by
  rcases h.2 with ⟨h1, h0⟩ | ⟨g, cap, cur, h1, h2, h3, h4, h5, _⟩
  · exact ⟨none, 0, by rw [h1, h0], by omega, by unfold maxLen; omega, fun h => by omega⟩
  · subst h1
    refine ⟨_, cap, rfl, h4, h5, fun _ => ⟨g, 0, rfl, fun j x hj => ?_⟩⟩
    obtain ⟨e0, e1, e2, ⟨d, e3, e4⟩, e5, e6, e7⟩ := hR.2 j x hj
    have hl : j < xs.length := (List.getElem?_eq_some_iff.1 hj).1
    refine ⟨?_, ?_, ?_, ⟨d, ?_, bytesAt_own e4⟩, e5, e6, e7⟩
    · rw [Nat.zero_add, Nat.mul_comm j 4, h.cellAt _ (by omega), e0]
    · rw [Nat.zero_add, Nat.mul_comm j 4, h.cellAt _ (by omega), e1]
    · rw [Nat.zero_add, Nat.mul_comm j 4, h.cellAt _ (by omega), e2]
    · rw [Nat.zero_add, Nat.mul_comm j 4, h.cellAt _ (by omega), e3]
theorem results13_run {tmps : Array Value} {W : World} {z : Nat} {v : Value} {n e : Int} (p0 : tmps.getD 2 undef = .pointer (some ⟨z, 0, none⟩)) (p1 : tmps.getD 3 undef = .pointer (some ⟨z + 1, 0, none⟩)) (p2 : tmps.getD 4 undef = .pointer (some ⟨z + 1 + 1, 0, none⟩))
    (b0 : Boxed W z 29 v) (b1 : Boxed W (z + 1) 3 (.int .i64 n)) (b2 : Boxed W (z + 1 + 1) 31 (.int .i64 e)) :
    (results Tryd.f13 tmps).run Tryd.prog W = .ok (.tuple #[v, .int .i64 n, .int .i64 e]) W := by
  have p0' : tmps[2]?.getD undef = .pointer (some ⟨z, 0, none⟩) := by simpa using p0
  have p1' : tmps[3]?.getD undef = .pointer (some ⟨z + 1, 0, none⟩) := by simpa using p1
  have p2' : tmps[4]?.getD undef = .pointer (some ⟨z + 1 + 1, 0, none⟩) := by simpa using p2
  have c0 := b0.cell
  have c1 := b1.cell
  have c2 := b2.cell
  have u29 := Tryd.underlying29
  have u3 := Tryd.underlying3
  have u31 := Tryd.underlying31
  simp [results, Tryd.results13, p0', p1', p2', asAddr, go_sem, c0, c1, c2, u29, u3, u31, Result.andThen]
theorem parse_end {l : List UInt8} {w W : World} {D : Nat} {v : Value} {xs : List St} {cs : List Value} {n e : Int} {tmps : Array Value} (hD : w.heap.size + 6 ≤ D) (hK : W.heap[D]? = some (.deferred (some [])))
    (p0 : tmps.getD 2 undef = .pointer (some ⟨w.heap.size, 0, none⟩)) (p1 : tmps.getD 3 undef = .pointer (some ⟨w.heap.size + 1, 0, none⟩)) (p2 : tmps.getD 4 undef = .pointer (some ⟨w.heap.size + 1 + 1, 0, none⟩))
    (b0 : Boxed W w.heap.size 29 v) (b1 : Boxed W (w.heap.size + 1) 3 (.int .i64 n)) (b2 : Boxed W (w.heap.size + 1 + 1) 31 (.int .i64 e)) (hB : Below w.heap.size w W)
    (hrow : W.ownsRow (w.heap.size + 6) 39 4 v xs.length cs) (hR : RowSts W (w.heap.size + 6) xs cs) (hp : parseL l = (xs, n, e)) :
    bodyPostM Fence.wide 3 Tryd.prog Tryd.f13 (ParsePost l w) Exit.ret { tmps := tmps, defers := [{ target := .collected D, args := #[] }] } W := by
  have hcells : ∀ {t : TypeId} (k : Nat) (cur : Array Value), w.heap.size + 6 ≤ k → W.heap[k]? = some (.cells cur t (0, 0)) → (W.putObj D (.deferred none)).heap[k]? = W.heap[k]? := fun k cur _ hc => World.putObj_heap_other (by
    rintro rfl; rw [hK] at hc; cases hc)
  have hbox : ∀ {k : Nat} {t : TypeId} {u : Value}, Boxed W k t u → Boxed (W.putObj D (.deferred none)) k t u := fun {k t u} hb => (World.putObj_heap_other (by
    rintro rfl
    have hb' : W.heap[k]? = _ := hb
    rw [hK] at hb'; cases hb')).trans hb
  refine ⟨by simp, .inl ⟨_, _, rfl, run_takeDeferred hK, ?_⟩⟩
  refine ⟨_, results13_run p0 p1 p2 (hbox b0) (hbox b1) (hbox b2), ?_⟩
  rw [ParsePost, hp]
  refine ⟨⟨hB.os, hB.tape, hB.output, by simpa using hB.size, fun k hk => (World.putObj_heap_other (by omega)).trans (hB.block k hk)⟩, v, rfl, stepsAt_own (own_kept hrow hcells) (hR.kept hcells)⟩

theorem keepsOthers_below {W W' : World} (h : Below W.heap.size W W') : KeepsOthers W W' := ⟨h.size, fun k o hk _ => (h.block k (Array.getElem?_eq_some_iff.1 hk).1).trans hk⟩
theorem parse_bad {l : List UInt8} {w W Wn W2 : World} {n₀ B : Nat} {ls : List (List UInt8)} {n m : Int} {e0 : Int} {u : Value} {o : Obj} {a : Act} (PO : KeepsOthers W Wn) (PB : Below w.heap.size w Wn) (hB2 : Below Wn.heap.size Wn W2)
    (b0 : Boxed W2 w.heap.size 29 u) (b1 : Boxed W2 (w.heap.size + 1) 3 (.int .i64 m)) (b2 : Boxed W2 (w.heap.size + 1 + 1) 31 (.int .i64 e0)) (hp : parseL l = ([], n, 8)) :
    bodyPostL n₀ B (ParseI w) (ParseX w l) ls W Exit.ret a (((((W2.setCell ⟨w.heap.size, 0, none⟩ (.slice none 0 0)).setCell ⟨w.heap.size + 1, 0, none⟩ (.int .i64 n)).setCell ⟨w.heap.size + 1 + 1, 0, none⟩ (.int .i64 8)).alloc o).drew) := by
  have k0 := ((PO.trans (keepsOthers_below hB2)).trans (KeepsOthers.setCell W2 ⟨w.heap.size, 0, none⟩ (.slice none 0 0)))
  have k1 := k0.trans (KeepsOthers.setCell _ ⟨w.heap.size + 1, 0, none⟩ (.int .i64 n))
  have k2 := k1.trans (KeepsOthers.setCell _ ⟨w.heap.size + 1 + 1, 0, none⟩ (.int .i64 8))
  have k3 := (k2.trans (KeepsOthers.alloc _ o)).trans (KeepsOthers.drew _)
  refine ⟨k3.from _, n, ?_⟩
  have hB := PB.trans (hB2.mono PB.size)
  have h0 := b0.set (.slice none 0 0)
  have h1 : Boxed _ (w.heap.size + 1) 3 _ := b1.kept (grownBy_setCell' W2 w.heap.size (.slice none 0 0)) (by simp)
  have h2 : Boxed _ (w.heap.size + 1 + 1) 31 _ := b2.kept (grownBy_setCell' W2 w.heap.size (.slice none 0 0)) (by simp; omega)
  have hB := hB.setCell (p := ⟨w.heap.size, 0, none⟩) (Nat.le_refl _) (.slice none 0 0)
  generalize W2.setCell ⟨w.heap.size, 0, none⟩ (.slice none 0 0) = Wa at h0 h1 h2 hB ⊢
  have i0 : Boxed _ w.heap.size 29 _ := h0.kept (grownBy_setCell' Wa (w.heap.size + 1) (.int .i64 n)) (by simp)
  have i1 := h1.set (.int .i64 n)
  have i2 : Boxed _ (w.heap.size + 1 + 1) 31 _ := h2.kept (grownBy_setCell' Wa (w.heap.size + 1) (.int .i64 n)) (by simp)
  have hB := hB.setCell (p := ⟨w.heap.size + 1, 0, none⟩) (Nat.le_succ _) (.int .i64 n)
  generalize Wa.setCell ⟨w.heap.size + 1, 0, none⟩ (.int .i64 n) = Wb at i0 i1 i2 hB ⊢
  have j0 : Boxed _ w.heap.size 29 _ := i0.kept (grownBy_setCell' Wb (w.heap.size + 1 + 1) (.int .i64 8)) (by simp; omega)
  have j1 : Boxed _ (w.heap.size + 1) 3 _ := i1.kept (grownBy_setCell' Wb (w.heap.size + 1 + 1) (.int .i64 8)) (by simp)
  have j2 := i2.set (.int .i64 8)
  have hB := hB.setCell (p := ⟨w.heap.size + 1 + 1, 0, none⟩) (Nat.le_add_right _ 2) (.int .i64 8)
  exact ⟨j0.alloc o, j1.alloc o, j2.alloc o, hp, (hB.alloc hB.size o).drew⟩
theorem parse_stops {l : List UInt8} {pre rest : List (List UInt8)} {x : List UInt8} {xs : List St} (hpre : pre ++ x :: rest = linesL l) (hgo : ∀ rest, parseGo 0 [] (pre ++ rest) = parseGo pre.length xs rest) (hx : stepOf x = none) : parseL l = ([], (pre.length : Int) + 1, 8) := by
  unfold parseL
  rw [← hpre, hgo]
  unfold parseGo
  rw [hx]

theorem info39 : (Tryd.prog.info? 39).map (fun i => (i.zero, i.size, i.bytes)) = some (some (.agg #[.int .i64 0, .int .i64 0, .int .i64 0, .slice none 0 0]), 4, 48) := by kernel_rfl
theorem cell_new4 (w : World) (a b c d : Value) (t : TypeId) : ∀ j u, [a, b, c, d][j]? = some u → (w.alloc (.cells #[a, b, c, d] t)).cell? ((⟨w.heap.size, 0, none⟩ : Addr).add j) = some u := by
  intro j u hj
  match j, hj with
  | 0, hj => simp at hj; subst hj; simp [Addr.add]
  | 1, hj => simp at hj; subst hj; simp [Addr.add]
  | 2, hj => simp at hj; subst hj; simp [Addr.add]
  | 3, hj => simp at hj; subst hj; simp [Addr.add]
theorem cell_new4' {w : World} {n : Nat} (hn : w.heap.size = n) (a b c d : Value) (t : TypeId) : ∀ j u, [a, b, c, d][j]? = some u → (w.alloc (.cells #[a, b, c, d] t)).cell? ((⟨n, 0, none⟩ : Addr).add j) = some u := by
  subst hn; exact cell_new4 w a b c d t
theorem parse_on {l : List UInt8} {w W Wn W2 w3 : World} {n₀ : Nat} {pre : List (List UInt8)} {x : List UInt8} {xs : List St} {cs : List Value} {y : St} {v v' d : Value} {o1 o2 : Obj} {a : Act} (hz : w.heap.size + 6 ≤ W.heap.size)
    (PO : KeepsOthers W Wn) (PQ : Wn.heap[w.heap.size + 1 + 1 + 1 + 1 + 1]? = W.heap[w.heap.size + 1 + 1 + 1 + 1 + 1]?) (PB : Below w.heap.size w Wn) (hB2 : Below Wn.heap.size Wn W2)
    (b0 : Boxed Wn w.heap.size 29 (.slice none 0 0)) (b1 : Boxed Wn (w.heap.size + 1) 3 (.int .i64 0)) (b2 : Boxed Wn (w.heap.size + 1 + 1) 31 (.int .i64 0)) (b3 : Boxed Wn (w.heap.size + 1 + 1 + 1) 29 v) (b4 : Boxed Wn (w.heap.size + 1 + 1 + 1 + 1) 3 (.int .i64 ((pre.length : Int) + 1)))
    (hrow : Wn.ownsRow (w.heap.size + 6) 39 4 v xs.length cs) (hR : RowSts Wn (w.heap.size + 6) xs cs) (how : W2.ownsRow Wn.heap.size 5 1 d y.d.length (Lib.byteCells y.d)) (hok : i64ok y.k ∧ i64ok y.a ∧ i64ok y.b)
    (hg : ((W2.alloc o1).alloc o2).grownBy w3 v.ownBlock) (hown : w3.ownsRow (w.heap.size + 6) 39 4 v' (xs.length + 1) (cs ++ [.int .i64 y.k, .int .i64 y.a, .int .i64 y.b, d]))
    (hgo : ∀ rest, parseGo 0 [] (pre ++ rest) = parseGo pre.length xs rest) (hst : stepOf x = some y) (hxl : xs.length ≤ pre.length) :
    bodyPostL n₀ (w.heap.size + 1 + 1 + 1 + 1 + 1) (ParseI w) (ParseX w l) (pre ++ [x]) W Exit.normal a (w3.setCell ⟨w.heap.size + 1 + 1 + 1, 0, none⟩ v') := by
  have hBc : Below Wn.heap.size Wn ((W2.alloc o1).alloc o2) := (hB2.alloc hB2.size o1).alloc (by have := hB2.size; simp; omega) o2
  have hWn : w.heap.size + 6 ≤ Wn.heap.size := Nat.le_trans hz PO.size
  have hrowc := ownsRow_below hrow hBc
  have hne : ∀ k, v.ownBlock = some k → w.heap.size + 6 ≤ k ∧ k < Wn.heap.size := hrow.lt
  have hcell : ∀ (j : Nat) (o : Obj), v.ownBlock = some j → ((W2.alloc o1).alloc o2).heap[j]? = some o → o.isCells = true := by
    intro j o hj ho
    rcases hrowc.2 with ⟨h, _⟩ | ⟨g, cap, cur, h, _, hgb, _⟩
    · rw [h] at hj; simp [Value.ownBlock] at hj
    · rw [h] at hj
      obtain rfl : g = j := by simpa [Value.ownBlock] using hj
      rw [hgb] at ho; cases ho; rfl
  have h5 : ∀ k cur, w.heap.size + 6 ≤ k → ((W2.alloc o1).alloc o2).heap[k]? = some (.cells cur 5 (0, 0)) → w3.heap[k]? = ((W2.alloc o1).alloc o2).heap[k]? := fun k cur _ hk => hg.block k (Array.getElem?_eq_some_iff.1 hk).1 (by
    intro e
    rcases hrowc.2 with ⟨h, _⟩ | ⟨g, cap, cur', h, _, hgb, _⟩
    · rw [h] at e; simp [Value.ownBlock] at e
    · rw [h] at e
      obtain rfl : k = g := by simpa [Value.ownBlock] using e
      rw [hgb] at hk; cases hk)
  have box : ∀ {k : Nat} {t : TypeId} {u : Value}, k < w.heap.size + 6 → Boxed Wn k t u → Boxed w3 k t u := fun {k t u} hk hb => (boxed_below hb hBc).kept hg (by
    intro e; have := (hne k e.symm).1; omega)
  have set5 : ∀ k (cur : Array Value) (t : TypeId), w.heap.size + 6 ≤ k → w3.heap[k]? = some (.cells cur t (0, 0)) → (w3.setCell ⟨w.heap.size + 1 + 1 + 1, 0, none⟩ v').heap[k]? = w3.heap[k]? := fun k cur t hk _ => Below.heap_setCell _ _ _ _ (by show k ≠ w.heap.size + 1 + 1 + 1; omega)
  have hKO := (((PO.trans (keepsOthers_below hBc)).trans (KeepsOthers.of_grownBy hg (fun j o e hj => hcell j o e hj))).trans (KeepsOthers.setCell w3 ⟨w.heap.size + 1 + 1 + 1, 0, none⟩ v'))
  have hR3 : RowSts w3 (w.heap.size + 6) xs cs := (hR.kept (W' := ((W2.alloc o1).alloc o2)) (fun k cur _ hk => hBc.block k (Array.getElem?_eq_some_iff.1 hk).1)).kept h5
  have hd3 : w3.ownsRow (w.heap.size + 6) 5 1 d y.d.length (Lib.byteCells y.d) := own_kept (ownsRow_mono hWn ((how.alloc o1).alloc o2)) h5
  have hBw : Below w.heap.size w w3 := (PB.trans (hBc.mono PB.size)).grown hg (by have := PB.size; have := hBc.size; omega) (fun k e => by have := (hne k e).1; omega)
  refine ⟨hKO.from _, ?_, xs ++ [y], v', cs ++ [.int .i64 y.k, .int .i64 y.a, .int .i64 y.b, d], ?_, ?_, ?_, ?_, ?_, ?_, ?_, ?_, ?_, ?_⟩
  · rw [← PQ]
    refine (Below.heap_setCell _ _ _ _ (by show w.heap.size + 1 + 1 + 1 + 1 + 1 ≠ w.heap.size + 1 + 1 + 1; omega)).trans ((hg.block _ (by have := hBc.size; omega) (by intro e; have := (hne _ e.symm).1; omega)).trans (hBc.block _ (by omega)))
  · exact (box (by omega) b0).kept (grownBy_setCell' w3 _ _) (by intro e; have := Option.some.inj e; omega)
  · exact (box (by omega) b1).kept (grownBy_setCell' w3 _ _) (by intro e; have := Option.some.inj e; omega)
  · exact (box (by omega) b2).kept (grownBy_setCell' w3 _ _) (by intro e; have := Option.some.inj e; omega)
  · exact (box (by omega) b3).set v'
  · have := (box (by omega) b4).kept (grownBy_setCell' w3 (w.heap.size + 1 + 1 + 1) v') (by intro e; have := Option.some.inj e; omega)
    simpa using this
  · have := own_kept hown (fun k cur hk hc => set5 k cur 39 hk hc)
    simpa using this
  · exact (hR3.snoc hd3 hok).kept (fun k cur hk hc => set5 k cur 5 hk hc)
  · intro rest
    rw [List.append_assoc, hgo]
    show parseGo pre.length xs (x :: rest) = _
    rw [parseGo, hst]
    simp
  · simp; omega
  · exact hBw.setCell (p := ⟨w.heap.size + 1 + 1 + 1, 0, none⟩) (Nat.le_add_right _ 3) v'

set_option maxHeartbeats 2000000 in
set_option maxRecDepth 100000 in
theorem parse_any (s : ByteArray) (hs : s.size ≤ 1000000) (w : World) (E : Env w) : Calls Tryd.prog 13 #[.string s] w (ParsePost s.data.toList w) := by
  have EN := Lib.hid E
  clear E
  refine (callsIn_wide (n := 3)).1 ?_
  refine callsIn_of_wp_marks Tryd.func13 rfl trivial ?_ rfl
  simp only [Tryd.ntmps13, List.size_toArray, List.length_cons, List.length_nil, Nat.reduceAdd, Nat.reduceSub, Array.replicate_succ, Array.replicate_zero, List.push_toArray, List.append_toArray, List.nil_append, List.cons_append]
  gi_wp2_with (refine ⟨trivial, ?_⟩; gi_at_call 30; refine (callsIn_wide.2 (linesFn_any _ _)).mono ?_; rintro e w2 ⟨rfl, rfl⟩)
  have a0 := Boxed.new w 29 (.slice none 0 0)
  obtain ⟨w1, hw1⟩ : ∃ w1, w.alloc (.cells #[.slice none 0 0] 29) = w1 := ⟨_, rfl⟩
  have z1 : w1.heap.size = w.heap.size + 1 := by rw [← hw1]; simp
  have B1 : Below w.heap.size w w1 := by rw [← hw1]; exact (Below.refl _ w).alloc (Nat.le_refl _) _
  rw [hw1] at a0 ⊢
  have a1 := Boxed.new w1 3 (.int .i64 0)
  have a0 := a0.alloc (.cells #[.int .i64 0] 3)
  have B2 := B1.alloc B1.size (.cells #[.int .i64 0] 3)
  obtain ⟨w2, hw2⟩ : ∃ w2, w1.alloc (.cells #[.int .i64 0] 3) = w2 := ⟨_, rfl⟩
  have z2 : w2.heap.size = w.heap.size + 1 + 1 := by rw [← hw2]; simp; omega
  rw [z1] at a1
  rw [hw2] at a0 a1 B2 ⊢
  have a2 := Boxed.new w2 31 (.int .i64 0)
  have a0 := a0.alloc (.cells #[.int .i64 0] 31)
  have a1 := a1.alloc (.cells #[.int .i64 0] 31)
  have B3 := B2.alloc B2.size (.cells #[.int .i64 0] 31)
  obtain ⟨w3, hw3⟩ : ∃ w3, w2.alloc (.cells #[.int .i64 0] 31) = w3 := ⟨_, rfl⟩
  have z3 : w3.heap.size = w.heap.size + 1 + 1 + 1 := by rw [← hw3]; simp; omega
  rw [z2] at a2
  rw [hw3] at a0 a1 a2 B3 ⊢
  have a3 := Boxed.new w3 29 (.slice none 0 0)
  have a0 := a0.alloc (.cells #[.slice none 0 0] 29)
  have a1 := a1.alloc (.cells #[.slice none 0 0] 29)
  have a2 := a2.alloc (.cells #[.slice none 0 0] 29)
  have B4 := B3.alloc B3.size (.cells #[.slice none 0 0] 29)
  obtain ⟨w4, hw4⟩ : ∃ w4, w3.alloc (.cells #[.slice none 0 0] 29) = w4 := ⟨_, rfl⟩
  have z4 : w4.heap.size = w.heap.size + 1 + 1 + 1 + 1 := by rw [← hw4]; simp; omega
  rw [z3] at a3
  rw [hw4] at a0 a1 a2 a3 B4 ⊢
  have a4 := Boxed.new w4 3 (.int .i64 0)
  have a0 := a0.alloc (.cells #[.int .i64 0] 3)
  have a1 := a1.alloc (.cells #[.int .i64 0] 3)
  have a2 := a2.alloc (.cells #[.int .i64 0] 3)
  have a3 := a3.alloc (.cells #[.int .i64 0] 3)
  have B5 := B4.alloc B4.size (.cells #[.int .i64 0] 3)
  obtain ⟨w5, hw5⟩ : ∃ w5, w4.alloc (.cells #[.int .i64 0] 3) = w5 := ⟨_, rfl⟩
  have z5 : w5.heap.size = w.heap.size + 1 + 1 + 1 + 1 + 1 := by rw [← hw5]; simp; omega
  rw [z4] at a4
  rw [hw5] at a0 a1 a2 a3 a4 B5 ⊢
  have a5 := Boxed.new w5 9 (.string s)
  have a0 := a0.alloc (.cells #[.string s] 9)
  have a1 := a1.alloc (.cells #[.string s] 9)
  have a2 := a2.alloc (.cells #[.string s] 9)
  have a3 := a3.alloc (.cells #[.string s] 9)
  have a4 := a4.alloc (.cells #[.string s] 9)
  have B6 := B5.alloc B5.size (.cells #[.string s] 9)
  obtain ⟨w6, hw6⟩ : ∃ w6, w5.alloc (.cells #[.string s] 9) = w6 := ⟨_, rfl⟩
  have z6 : w6.heap.size = w.heap.size + 6 := by rw [← hw6]; simp; omega
  rw [z5] at a5
  rw [hw6] at a0 a1 a2 a3 a4 a5 B6 ⊢
  clear hw1 hw2 hw3 hw4 hw5 hw6 B1 B2 B3 B4 B5 z1 z2 z3 z4 z5
  refine rangeLines 3 s hs (w.heap.size + 1 + 1 + 1 + 1 + 1) (by omega) rfl rfl a5 (ParseI w) (ParseX w s.data.toList) ?hI ?hIx ?h0
    (fun x => { tmps := #[.string s, undef, .pointer (some ⟨w.heap.size, 0, none⟩), .pointer (some ⟨w.heap.size + 1, 0, none⟩), .pointer (some ⟨w.heap.size + 1 + 1, 0, none⟩), .pointer (some ⟨w.heap.size + 1 + 1 + 1, 0, none⟩), .pointer (some ⟨w.heap.size + 1 + 1 + 1 + 1, 0, none⟩),
      .string ⟨x.toArray⟩, undef, undef, undef, undef, .string s, .func (.func 41) #[] #[.pointer (some ⟨w.heap.size + 1 + 1 + 1 + 1 + 1, 0, none⟩)], .string ⟨x.toArray⟩, undef, undef, undef, undef, undef, undef, undef, undef, undef, undef, undef, undef, undef, undef, undef, undef, undef, undef, undef, undef, undef, undef, undef, undef], defers := [] }) ?assign ?body ?done ?stop
  case hI =>
    rintro pre W W' ⟨xs, v, cs, b0, b1, b2, b3, b4, hrow, hR, hgo, hxl, hB⟩ hT
    exact ⟨xs, v, cs, hT.box b0 (by omega), hT.box b1 (by omega), hT.box b2 (by omega), hT.box b3 (by omega), hT.box b4 (by omega), own_kept hrow (hT.cells (by omega)), hR.kept (hT.cells (by omega)), hgo, hxl, hT.below hB (by omega) (by omega) (Nat.le_refl _)⟩
  case hIx =>
    rintro W W' ⟨n, b0, b1, b2, hp, hB⟩ hT
    exact ⟨n, hT.box b0 (by omega), hT.box b1 (by omega), hT.box b2 (by omega), hp, hT.below hB (by omega) (by omega) (Nat.le_refl _)⟩
  case h0 =>
    exact ⟨[], _, [], a0, a1, a2, a3, a4, World.ownsRow_nil _ _ _ _, ⟨rfl, fun j x h => by simp at h⟩, fun rest => rfl, Nat.le_refl _, B6⟩
  case assign =>
    intro l x W K hK
    gi_wp2
    exact hK
  case body =>
    rintro l pre x rest W hpre ⟨xs, v, cs, b0, b1, b2, b3, b4, hrow, hR, hgo, hxl, hB⟩ hz
    have hxlen : x.length ≤ 1000000 := by
      have := lines_le _ x (by rw [← hpre]; simp)
      rw [← size_is] at this; omega
    have hpl : pre.length + 1 ≤ 1000000 := by
      have h1 := lines_count s.data.toList
      have h2 := congrArg List.length hpre
      simp only [List.length_append, List.length_cons] at h2
      rw [← size_is] at h1; omega
    have hpi : (pre.length : Int) + 1 ≤ 1000000 := by omega
    have c4 := b4.cell; have f4 := b4.frozen
    have p0 : Boxed _ w.heap.size 29 _ := b0.kept (grownBy_setCell' W (w.heap.size + 1 + 1 + 1 + 1) (.int .i64 (pre.length + 1))) (by simp; omega)
    have p1 : Boxed _ (w.heap.size + 1) 3 _ := b1.kept (grownBy_setCell' W (w.heap.size + 1 + 1 + 1 + 1) (.int .i64 (pre.length + 1))) (by simp)
    have p2 : Boxed _ (w.heap.size + 1 + 1) 31 _ := b2.kept (grownBy_setCell' W (w.heap.size + 1 + 1 + 1 + 1) (.int .i64 (pre.length + 1))) (by simp)
    have p3 : Boxed _ (w.heap.size + 1 + 1 + 1) 29 v := b3.kept (grownBy_setCell' W (w.heap.size + 1 + 1 + 1 + 1) (.int .i64 (pre.length + 1))) (by simp)
    have p4 := b4.set (.int .i64 (pre.length + 1))
    have pB := hB.setCell (p := ⟨w.heap.size + 1 + 1 + 1 + 1, 0, none⟩) (Nat.le_add_right _ 4) (.int .i64 (pre.length + 1))
    have pr : (W.setCell ⟨w.heap.size + 1 + 1 + 1 + 1, 0, none⟩ (.int .i64 (pre.length + 1))).ownsRow (w.heap.size + 6) 39 4 v xs.length cs := own_kept hrow (fun k cur hk _ => Below.heap_setCell _ _ _ _ (by show k ≠ w.heap.size + 1 + 1 + 1 + 1; omega))
    have pR : RowSts (W.setCell ⟨w.heap.size + 1 + 1 + 1 + 1, 0, none⟩ (.int .i64 (pre.length + 1))) (w.heap.size + 6) xs cs := hR.kept (fun k cur hk _ => Below.heap_setCell _ _ _ _ (by show k ≠ w.heap.size + 1 + 1 + 1 + 1; omega))
    have pO := KeepsOthers.setCell W ⟨w.heap.size + 1 + 1 + 1 + 1, 0, none⟩ (.int .i64 (pre.length + 1))
    have pS : (W.setCell ⟨w.heap.size + 1 + 1 + 1 + 1, 0, none⟩ (.int .i64 (pre.length + 1))).heap[w.heap.size + 1 + 1 + 1 + 1 + 1]? = W.heap[w.heap.size + 1 + 1 + 1 + 1 + 1]? := Below.heap_setCell _ _ _ _ (by simp)
    have CC := Lib.hid (cutSuffix_any ⟨x.toArray⟩ ⟨#[10]⟩ (by rw [size_is]; simp; omega) (W.setCell ⟨w.heap.size + 1 + 1 + 1 + 1, 0, none⟩ (.int .i64 (pre.length + 1))))
    have hdx : (ByteArray.mk x.toArray).data.toList = x := rfl
    have hd10 : (ByteArray.mk #[10]).data.toList = [10] := rfl
    rw [hdx, hd10] at CC
    obtain ⟨t, ht⟩ : ∃ t, Lib.trimSuffix x [10] = t := ⟨_, rfl⟩
    have htl : t.length ≤ 1000000 := by have := trim_le' x [10]; rw [ht] at this; omega
    have CO := one_any ⟨t.toArray⟩ (by rw [size_is]; simpa using htl) (W.setCell ⟨w.heap.size + 1 + 1 + 1 + 1, 0, none⟩ (.int .i64 (pre.length + 1))) (EN.out.below pB EN.out.gl)
    have hdt : (ByteArray.mk t.toArray).data.toList = t := rfl
    unfold OnePost at CO
    rw [hdt] at CO
    rw [ht] at CC
    have hstep : stepOf x = if Lib.hasSuffix x [10] = true then oneL t else none := by unfold stepOf; rw [ht]
    obtain ⟨Wn, hWn⟩ : ∃ Wn, W.setCell ⟨w.heap.size + 1 + 1 + 1 + 1, 0, none⟩ (.int .i64 (pre.length + 1)) = Wn := ⟨_, rfl⟩
    rw [hWn] at p0 p1 p2 p3 p4 pB pr pR pO pS CC CO
    have P0 := Lib.hid p0; have P1 := Lib.hid p1; have P2 := Lib.hid p2; have P3 := Lib.hid p3; have P4 := Lib.hid p4
    have PB := Lib.hid pB; have PR := Lib.hid pr; have PS := Lib.hid pR; have PO := Lib.hid pO; have PQ := Lib.hid pS
    have HST := Lib.hid hstep
    have HGO := Lib.hid hgo
    have HPRE := Lib.hid hpre
    clear p0 p1 p2 p3 p4 pB pr pR pO pS hstep hdx hd10 hdt ht hgo hpre b0 b1 b2 b3 b4 hrow hR hB
    cases ho : oneL t with
    | none =>
      rw [ho] at CO
      have HCO := Lib.hid CO
      have HO := Lib.hid ho
      clear ho CO
      gi_wp2_with (first | (refine ⟨trivial, ?_⟩; gi_at_call 23; refine (CallsIn.inRound l (callsIn_wide.2 CC.out)).mono ?_; rintro e w2 ⟨rfl, rfl⟩) | (refine ⟨trivial, ?_⟩; gi_at_call 31; refine (CallsIn.inRound l (callsIn_wide.2 HCO.out)).mono ?_; rintro e W2 ⟨hB2, rfl⟩; have q0 := boxed_below P0.out hB2; have q1 := boxed_below P1.out hB2; have q2 := boxed_below P2.out hB2; have q4 := boxed_below P4.out hB2; have d0 := q0.cell; have g0 := q0.frozen; have d1 := q1.cell; have g1 := q1.frozen; have d2 := q2.cell; have g2 := q2.frozen; have d4 := q4.cell; have l0 := q0.lt; have l1 := q1.lt; have l2 := q2.lt; have l4 := q4.lt; have Q0 := Lib.hid q0; have Q1 := Lib.hid q1; have Q2 := Lib.hid q2; have HB2 := Lib.hid hB2; clear q0 q1 q2 q4 hB2))
      gi_region
      all_goals gi_wp2
      all_goals exact parse_bad PO.out PB.out HB2.out Q0.out Q1.out Q2.out (parse_stops HPRE.out HGO.out (by rw [HST.out, HO.out]; split <;> rfl))
    | some y =>
      rw [ho] at CO
      cases he : Lib.hasSuffix x [10] with
      | false =>
        have HST2 := Lib.hid (show stepOf x = none by rw [HST.out, he]; rfl)
        rw [he] at CC
        have HCO := Lib.hid CO
        clear ho he CO
        gi_wp2_with (first | (refine ⟨trivial, ?_⟩; gi_at_call 23; refine (CallsIn.inRound l (callsIn_wide.2 CC.out)).mono ?_; rintro e w2 ⟨rfl, rfl⟩) | (refine ⟨trivial, ?_⟩; gi_at_call 31; refine (CallsIn.inRound l (callsIn_wide.2 HCO.out)).mono ?_; rintro e W2 ⟨hB2, d, rfl, how, hok⟩; have q0 := boxed_below P0.out hB2; have q1 := boxed_below P1.out hB2; have q2 := boxed_below P2.out hB2; have q4 := boxed_below P4.out hB2; have d0 := q0.cell; have g0 := q0.frozen; have d1 := q1.cell; have g1 := q1.frozen; have d2 := q2.cell; have g2 := q2.frozen; have d4 := q4.cell; have l0 := q0.lt; have l1 := q1.lt; have l2 := q2.lt; have l4 := q4.lt; have Q0 := Lib.hid q0; have Q1 := Lib.hid q1; have Q2 := Lib.hid q2; have HB2 := Lib.hid hB2; clear q0 q1 q2 q4 hB2; obtain ⟨da, dc, rfl⟩ := own_shape1 how; have HOW := Lib.hid how; have HOK := Lib.hid hok; clear how hok))
        gi_region
        all_goals gi_wp2
        all_goals exact parse_bad PO.out PB.out HB2.out Q0.out Q1.out Q2.out (parse_stops HPRE.out HGO.out HST2.out)
      | true =>
        have HST2 := Lib.hid (show stepOf x = some y by rw [HST.out, he]; exact ho)
        rw [he] at CC
        have HCO := Lib.hid CO
        obtain ⟨i0, hi, hz0, hz1, hz2⟩ := info_parts info39
        obtain ⟨va, vc, hv⟩ := own_shape1 PR.out
        subst hv
        have hxs : xs.length + 1 ≤ 1000000 := by omega
        have hz0' : w.heap.size + 6 ≤ Wn.heap.size := by have := PO.out.size; omega
        clear ho he CO
        gi_wp2_with (first | (refine ⟨trivial, ?_⟩; gi_at_call 23; refine (CallsIn.inRound l (callsIn_wide.2 CC.out)).mono ?_; rintro e w2 ⟨rfl, rfl⟩) | (refine ⟨trivial, ?_⟩; gi_at_call 31; refine (CallsIn.inRound l (callsIn_wide.2 HCO.out)).mono ?_; rintro e W2 ⟨hB2, d, rfl, how, hok⟩; have q3 := boxed_below P3.out hB2; have d3 := q3.cell; have l3 := q3.lt; have hl2 := hB2.size; have Q3 := Lib.hid q3; have HB2 := Lib.hid hB2; have HR2 := Lib.hid (ownsRow_below PR.out hB2); clear q3 hB2; obtain ⟨da, dc, rfl⟩ := own_shape1 how; have HOW := Lib.hid how; have HOK := Lib.hid hok; clear how hok) | (gi_at_builtin; refine wpListIn_append_own _ rfl _ _ 29 rfl (w.heap.size + 6) 39 i0 (.agg #[.int .i64 0, .int .i64 0, .int .i64 0, .slice none 0 0]) 4 48 Tryd.underlying29 hi hz0 hz1 hz2 rfl (by decide) _ _ _ rfl ((HR2.out.alloc _).alloc _) ⟨W2.heap.size + 1, 0, none⟩ 1 1 [.int .i64 y.k, .int .i64 y.a, .int .i64 y.b, .slice da y.d.length dc] rfl rfl (cell_new4' (World.size_alloc _ _) _ _ _ _ _) (by simp [Value.oneCell']) (by unfold maxLen; omega) (by omega) (by simp; omega) ?_; intro v' wz hown' hgrow _; obtain ⟨gv, gc, rfl⟩ := ownsRow_succ hown'; have k3 := ((Q3.out.alloc (.cells #[.int .i64 y.k, .int .i64 y.a, .int .i64 y.b, .slice da y.d.length dc] 39)).alloc (.cells #[.int .i64 y.k, .int .i64 y.a, .int .i64 y.b, .slice da y.d.length dc] 39)).kept hgrow (by intro e; have := (HR2.out.lt _ e.symm).1; omega); have z3 := k3.cell; have y3 := k3.frozen; have HO3 := Lib.hid hown'; have HG3 := Lib.hid hgrow; clear hown' hgrow k3))
        exact parse_on (by omega) PO.out PQ.out PB.out HB2.out P0.out P1.out P2.out P3.out P4.out PR.out PS.out HOW.out HOK.out HG3.out HO3.out HGO.out HST2.out hxl
  case done =>
    rintro D W hD ⟨xs, v, cs, b0, b1, b2, b3, b4, hrow, hR, hgo, hxl, hB⟩ hK
    have c0 := b0.cell; have f0 := b0.frozen
    have c1 := b1.cell; have f1 := b1.frozen
    have c2 := b2.cell; have f2 := b2.frozen
    have c3 := b3.cell
    obtain ⟨ad, cc, hv⟩ := own_shape1 hrow
    subst hv
    gi_wp2
    have g0 := (b0.set (.slice ad xs.length cc))
    have g1 : Boxed _ (w.heap.size + 1) 3 (.int .i64 0) := b1.kept (grownBy_setCell' W w.heap.size (.slice ad xs.length cc)) (by simp)
    have g2 : Boxed _ (w.heap.size + 1 + 1) 31 (.int .i64 0) := b2.kept (grownBy_setCell' W w.heap.size (.slice ad xs.length cc)) (by simp; omega)
    have gB := hB.setCell (p := ⟨w.heap.size, 0, none⟩) (Nat.le_refl _) (.slice ad xs.length cc)
    have gK : (W.setCell ⟨w.heap.size, 0, none⟩ (.slice ad xs.length cc)).heap[D]? = some (.deferred (some [])) := (Below.heap_setCell _ _ _ _ (by show D ≠ w.heap.size; omega)).trans hK
    have gr : (W.setCell ⟨w.heap.size, 0, none⟩ (.slice ad xs.length cc)).ownsRow (w.heap.size + 6) 39 4 (.slice ad xs.length cc) xs.length cs := own_kept hrow (fun k cur hk _ => Below.heap_setCell _ _ _ _ (by show k ≠ w.heap.size; omega))
    have gR : RowSts (W.setCell ⟨w.heap.size, 0, none⟩ (.slice ad xs.length cc)) (w.heap.size + 6) xs cs := hR.kept (fun k cur hk _ => Below.heap_setCell _ _ _ _ (by show k ≠ w.heap.size; omega))
    generalize W.setCell ⟨w.heap.size, 0, none⟩ (.slice ad xs.length cc) = Wa at g0 g1 g2 gB gK gr gR ⊢
    have h0 : Boxed _ w.heap.size 29 _ := g0.kept (grownBy_setCell' Wa (w.heap.size + 1) (.int .i64 0)) (by simp)
    have h1 := g1.set (.int .i64 0)
    have h2 : Boxed _ (w.heap.size + 1 + 1) 31 (.int .i64 0) := g2.kept (grownBy_setCell' Wa (w.heap.size + 1) (.int .i64 0)) (by simp)
    have hB' := gB.setCell (p := ⟨w.heap.size + 1, 0, none⟩) (Nat.le_succ _) (.int .i64 0)
    have hK' : (Wa.setCell ⟨w.heap.size + 1, 0, none⟩ (.int .i64 0)).heap[D]? = some (.deferred (some [])) := (Below.heap_setCell _ _ _ _ (by show D ≠ w.heap.size + 1; omega)).trans gK
    have hr' : (Wa.setCell ⟨w.heap.size + 1, 0, none⟩ (.int .i64 0)).ownsRow (w.heap.size + 6) 39 4 (.slice ad xs.length cc) xs.length cs := own_kept gr (fun k cur hk _ => Below.heap_setCell _ _ _ _ (by show k ≠ w.heap.size + 1; omega))
    have hR' : RowSts (Wa.setCell ⟨w.heap.size + 1, 0, none⟩ (.int .i64 0)) (w.heap.size + 6) xs cs := gR.kept (fun k cur hk _ => Below.heap_setCell _ _ _ _ (by show k ≠ w.heap.size + 1; omega))
    generalize Wa.setCell ⟨w.heap.size + 1, 0, none⟩ (.int .i64 0) = Wb at h0 h1 h2 hB' hK' hr' hR' ⊢
    have i0 : Boxed _ w.heap.size 29 _ := h0.kept (grownBy_setCell' Wb (w.heap.size + 1 + 1) (.int .i64 0)) (by simp; omega)
    have i1 : Boxed _ (w.heap.size + 1) 3 (.int .i64 0) := h1.kept (grownBy_setCell' Wb (w.heap.size + 1 + 1) (.int .i64 0)) (by simp)
    have i2 := h2.set (.int .i64 0)
    have hp := hgo []
    rw [List.append_nil] at hp
    exact parse_end (by omega) ((Below.heap_setCell _ _ _ _ (by show D ≠ w.heap.size + 1 + 1; omega)).trans hK') rfl rfl rfl i0 i1 i2 (hB'.setCell (p := ⟨w.heap.size + 1 + 1, 0, none⟩) (Nat.le_add_right _ 2) (.int .i64 0))
      (own_kept hr' (fun k cur hk _ => Below.heap_setCell _ _ _ _ (by show k ≠ w.heap.size + 1 + 1; omega))) (hR'.kept (fun k cur hk _ => Below.heap_setCell _ _ _ _ (by show k ≠ w.heap.size + 1 + 1; omega))) hp
  case stop =>
    rintro D W hD ⟨n, b0, b1, b2, hp, hB⟩ hK
    gi_wp2
    exact parse_end (xs := []) (cs := []) (by omega) hK rfl rfl rfl b0 b1 b2 hB (World.ownsRow_nil _ _ _ _) ⟨rfl, fun j x h => by simp at h⟩ hp
end Go.Proofs.YtnollfnjidbdcaaDoor.X
