/- Steps that are appended to a row of one's own; a string's bytes as a slice. -/
import Derived.Test.YtnollfnjidbdcaaDoorXParse
import Derived.Lib.ConvBytes
import Derived.Laws.OwnMore
import Derived.Laws.AppendOwn
namespace Go.Proofs.YtnollfnjidbdcaaDoor.X
open Go.RowKit
set_option linter.unusedSimpArgs false
set_option linter.unusedVariables false

/-- A slice that came in: nil, or with an address. -/
def Slic (v : Value) : Prop := v = .slice none 0 0 ∨ ∃ a n c, v = .slice (some a) n c
/-- Steps in the cells of a row, their bytes anywhere. -/
def CellSts (W : World) (xs : List St) (cs : List Value) : Prop :=
  cs.length = 4 * xs.length ∧ ∀ j x, xs[j]? = some x → cs[4 * j]? = some (.int .i64 x.k) ∧ cs[4 * j + 1]? = some (.int .i64 x.a) ∧ cs[4 * j + 2]? = some (.int .i64 x.b) ∧
    (∃ d, cs[4 * j + 3]? = some d ∧ BytesAt W d x.d) ∧ i64ok x.k ∧ i64ok x.a ∧ i64ok x.b
theorem CellSts.nil (W : World) : CellSts W [] [] := ⟨rfl, fun j x h => by simp at h⟩
theorem CellSts.below {W W' : World} {xs : List St} {cs : List Value} (h : CellSts W xs cs) (hb : Below W.heap.size W W') : CellSts W' xs cs := by
  refine ⟨h.1, fun j x hj => ?_⟩
  obtain ⟨h1, h2, h3, ⟨d, h4, h5⟩, h6⟩ := h.2 j x hj
  exact ⟨h1, h2, h3, ⟨d, h4, h5.below (B := 0) hb⟩, h6⟩
theorem CellSts.append {W : World} {xs ys : List St} {cs ds : List Value} (h : CellSts W xs cs) (g : CellSts W ys ds) : CellSts W (xs ++ ys) (cs ++ ds) := by
  have hl := h.1
  refine ⟨by simp [hl, g.1]; omega, fun j x hj => ?_⟩
  by_cases hlt : j < xs.length
  · rw [List.getElem?_append_left hlt] at hj
    rw [List.getElem?_append_left (by omega), List.getElem?_append_left (by omega), List.getElem?_append_left (by omega), List.getElem?_append_left (by omega)]
    exact h.2 j x hj
  · rw [List.getElem?_append_right (by omega)] at hj
    rw [List.getElem?_append_right (by omega), List.getElem?_append_right (by omega), List.getElem?_append_right (by omega), List.getElem?_append_right (by omega)]
    rw [show 4 * j - cs.length = 4 * (j - xs.length) by omega, show 4 * j + 1 - cs.length = 4 * (j - xs.length) + 1 by omega, show 4 * j + 2 - cs.length = 4 * (j - xs.length) + 2 by omega, show 4 * j + 3 - cs.length = 4 * (j - xs.length) + 3 by omega]
    exact g.2 _ x hj
theorem stepsAt_cells {W : World} {lo : Nat} {v : Value} {xs : List St} {cs : List Value} (h : W.ownsRow lo 39 4 v xs.length cs) (hR : CellSts W xs cs) : StepsAt W v xs := by
  rcases h.2 with ⟨h1, h0⟩ | ⟨g, cap, cur, h1, h2, h3, h4, h5, _⟩
  · exact ⟨none, 0, by rw [h1, h0], by omega, by unfold maxLen; omega, fun h => by omega⟩
  · subst h1
    refine ⟨_, cap, rfl, h4, h5, fun _ => ⟨g, 0, rfl, fun j x hj => ?_⟩⟩
    obtain ⟨e0, e1, e2, ⟨d, e3, e4⟩, e5, e6, e7⟩ := hR.2 j x hj
    have hl : j < xs.length := (List.getElem?_eq_some_iff.1 hj).1
    refine ⟨?_, ?_, ?_, ⟨d, ?_, e4⟩, e5, e6, e7⟩
    · rw [Nat.zero_add, Nat.mul_comm j 4, h.cellAt _ (by omega), e0]
    · rw [Nat.zero_add, Nat.mul_comm j 4, h.cellAt _ (by omega), e1]
    · rw [Nat.zero_add, Nat.mul_comm j 4, h.cellAt _ (by omega), e2]
    · rw [Nat.zero_add, Nat.mul_comm j 4, h.cellAt _ (by omega), e3]
/-- The cells of steps that came in. -/
theorem cells_of {W : World} {v : Value} {xs : List St} {a : Addr} {n c : Nat} (h : StepsAt W v xs) (hv : v = .slice (some a) n c) :
    n = xs.length ∧ ∃ cs, CellSts W xs cs ∧ cs.length = xs.length * 4 ∧ (∀ j u, cs[j]? = some u → W.cell? (a.add j) = some u) ∧ ∀ u ∈ cs, u.oneCell' = true := by
  obtain ⟨p, c', hv', h1, h2, h3⟩ := h
  rw [hv] at hv'
  have e1 := Value.slice.inj hv'
  refine ⟨e1.2.1, ?_⟩
  by_cases h0 : 0 < xs.length
  · obtain ⟨b, off, hp, hx⟩ := h3 h0
    have ha : a = ⟨b, off, none⟩ := Option.some.inj (e1.1.trans hp)
    subst ha
    have hcell : ∀ i, i < 4 * xs.length → ∃ u, W.cell? ((⟨b, off, none⟩ : Addr).add i) = some u ∧ u.oneCell' = true := by
      intro i hi
      have hq : i / 4 < xs.length := by omega
      have hs := hx (i / 4) xs[i / 4] (List.getElem?_eq_getElem hq)
      obtain ⟨d, hd, ⟨pd, cd, rfl, _⟩⟩ := hs.cd
      rw [Lib.add_plain]
      rcases (show i % 4 = 0 ∨ i % 4 = 1 ∨ i % 4 = 2 ∨ i % 4 = 3 by omega) with hr | hr | hr | hr
      · exact ⟨_, by rw [show off + i = off + i / 4 * 4 by omega]; exact hs.ck, rfl⟩
      · exact ⟨_, by rw [show off + i = off + i / 4 * 4 + 1 by omega]; exact hs.ca, rfl⟩
      · exact ⟨_, by rw [show off + i = off + i / 4 * 4 + 2 by omega]; exact hs.cb, rfl⟩
      · exact ⟨_, by rw [show off + i = off + i / 4 * 4 + 3 by omega]; exact hd, rfl⟩
    have hget : ∀ i u, W.cell? ⟨b, off + i, none⟩ = some u → i < 4 * xs.length → ((List.range (4 * xs.length)).map fun i => (W.cell? ((⟨b, off, none⟩ : Addr).add i)).getD undef)[i]? = some u := by
      intro i u hu hi
      rw [List.getElem?_map, List.getElem?_range hi]
      simp only [Option.map_some]
      rw [Lib.add_plain, hu]
      rfl
    refine ⟨(List.range (4 * xs.length)).map fun i => (W.cell? ((⟨b, off, none⟩ : Addr).add i)).getD undef, ⟨by simp, fun j x hj => ?_⟩, by simp; omega, fun j u hj => ?_, fun u hu => ?_⟩
    · have hl : j < xs.length := (List.getElem?_eq_some_iff.1 hj).1
      have hs := hx j x hj
      obtain ⟨d, hd, hb⟩ := hs.cd
      exact ⟨hget _ _ (by rw [Nat.mul_comm 4 j]; exact hs.ck) (by omega), hget _ _ (by rw [Nat.mul_comm 4 j]; exact hs.ca) (by omega), hget _ _ (by rw [Nat.mul_comm 4 j]; exact hs.cb) (by omega),
        ⟨d, hget _ _ (by rw [Nat.mul_comm 4 j]; exact hd) (by omega), hb⟩, hs.ok⟩
    · have hl := (List.getElem?_eq_some_iff.1 hj).1
      simp only [List.length_map, List.length_range] at hl
      obtain ⟨u', hu', _⟩ := hcell j hl
      rw [List.getElem?_map, List.getElem?_range hl] at hj
      simp only [Option.map_some, Option.some.injEq] at hj
      rw [hu'] at hj ⊢
      exact congrArg some hj
    · obtain ⟨i, hi, rfl⟩ := List.mem_map.1 hu
      obtain ⟨u', hu', ho⟩ := hcell i (List.mem_range.1 hi)
      rw [hu']
      exact ho
  · have hn : xs = [] := List.length_eq_zero_iff.1 (by omega)
    subst hn
    exact ⟨[], CellSts.nil W, rfl, fun j u h => by simp at h, fun u h => by simp at h⟩
/-- 'append(row of one's own, steps that came in ..)', guarded. -/
theorem wpList_append_stepsW {ops : Array Oper} {rest : List Oper} {o : Oper} {a : Act} {w : World} {Q : Exit → Act → World → Prop} (hw : Region.wanted o (yielded ops a.tmps) = true) (s x : Operand)
    (ho : o.op = .call { callee := .builtin .append, args := #[s, x], argTypes := #[29, 29] }) (w0 : World) (lo : Nat) (h0 : w0.heap.size ≤ lo) (hlo : lo ≤ w.heap.size) (hB : Below w0.heap.size w0 w)
    (v : Value) (xs : List St) (cs : List Value) (hs : a.eval s = v) (hown : w.ownsRow lo 39 4 v xs.length cs) (hR : CellSts w0 xs cs)
    (u : Value) (ys : List St) (hx : a.eval x = u) (hst : StepsAt w0 u ys) (hsl : Slic u) (hn : xs.length + ys.length ≤ 1000)
    (h : ∀ v' w' cs', w'.ownsRow lo 39 4 v' (xs ++ ys).length cs' → CellSts w0 (xs ++ ys) cs' → Below w0.heap.size w0 w' → lo ≤ w'.heap.size → wpList Tryd.prog ops Q rest (a.put o.dst v') w') : wpList Tryd.prog ops Q (o :: rest) a w := by
  obtain ⟨i0, hi, hz0, hz1, hz2⟩ := info_parts info39
  rcases hsl with rfl | ⟨ad, n, c, rfl⟩
  · obtain ⟨p, c, hv, _⟩ := hst
    have hys : ys = [] := List.length_eq_zero_iff.1 (Value.slice.inj hv).2.1.symm
    subst hys
    refine BigFrame.wpList_want hw fun K hK => ?_
    have hrun := run_append_owned_none (P := Tryd.prog) (w := w) lo 29 o.type 39 i0 4 Tryd.underlying29 hi v xs.length cs hown
    unfold Oper.wp
    simp [execOp, ho, resolve, invoke, builtin, hs, hx, hrun, Result.andThen]
    exact hK _ _ (h v w cs (by simpa using hown) (by simpa using hR) hB hlo)
  · obtain ⟨rfl, ds, hD, hdl, hcell, hone⟩ := cells_of hst rfl
    refine BigFrame.wpList_want hw fun K hK => wp_append_own w s x 29 ho lo 39 i0 (.agg #[.int .i64 0, .int .i64 0, .int .i64 0, .slice none 0 0]) 4 48 Tryd.underlying29 hi hz0 hz1 hz2 rfl (by decide) v xs.length cs hs hown ad ys.length c ds hx hdl
      (fun j u hj => cell_below (hcell j u hj) hB) hone (by unfold maxLen; omega) (by omega) hlo fun v' w' h2 h3 _ => hK _ _ (h v' w' (cs ++ ds) (by rw [List.length_append]; exact h2) (hR.append hD) (hB.grown h3 (Nat.le_trans h0 hlo) fun k e => Nat.le_trans h0 (hown.lt k e).1) (Nat.le_trans hlo h3.size))
/-- '[]byte(s)'. -/
theorem bytesAt_conv (w : World) (s : ByteArray) (hs : s.size ≤ 1000000) : BytesAt (Lib.bytesWorld w 5 s) (.slice (some ⟨w.heap.size, 0, none⟩) s.size (grownCap w s.size 0 5)) s.data.toList := by
  refine ⟨_, _, by rw [← size_is], by rw [← size_is]; exact grownCap_ge _ _ _ _, grownCap_le_maxLen _ _ _ _ (by unfold maxLen; omega), fun _ => ⟨_, _, rfl, fun j x hj => ?_⟩⟩
  have hl : j < s.data.toList.length := (List.getElem?_eq_some_iff.1 hj).1
  rw [Nat.zero_add, Lib.bytesWorld_cell w 5 s j (by rw [size_is]; exact hl)]
  rw [List.getD_eq_getElem?_getD, hj]
  rfl
end Go.Proofs.YtnollfnjidbdcaaDoor.X
