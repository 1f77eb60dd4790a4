/- Plain laws for the reference's Read and for texts that are joined. No program in it. -/
import Derived.Test.YtnollfnjidbdcaaDoorXLaws
namespace Go.Proofs.YtnollfnjidbdcaaDoor.X
open Go

theorem lines_rest : ∀ (l : List UInt8), l ≠ [] → (∀ c ∈ l, c ≠ 10) → linesL l = [l]
  | [], h, _ => absurd rfl h
  | c :: r, _, h => by
    unfold linesL
    rw [if_neg (h c (by simp))]
    cases r with
    | nil => simp [linesL]
    | cons d t => rw [lines_rest (d :: t) (by simp) (fun x hx => h x (by simp [hx]))]
theorem step_rest (l : List UInt8) (h : ∀ c ∈ l, c ≠ 10) : stepOf l = none := by
  unfold stepOf
  rw [if_neg]
  intro hs
  obtain ⟨t, ht⟩ := List.isSuffixOf_iff_suffix.1 (show ([10] : List UInt8).isSuffixOf l = true from hs)
  exact h 10 (by rw [← ht]; simp) rfl
theorem step_of (l : List UInt8) : stepOf (l ++ [10]) = oneL l := by
  unfold stepOf
  rw [suffix_end, if_pos rfl, trim_end]
theorem seg_no10 (l : List UInt8) (a i : Nat) (h : ∀ j, a ≤ j → j < i → l[j]? ≠ some 10) : ∀ c ∈ (l.drop a).take (i - a), c ≠ 10 := by
  intro c hc e
  subst e
  obtain ⟨j, hj⟩ := List.mem_iff_getElem?.1 hc
  have hlt : j < i - a := by
    have := (List.getElem?_eq_some_iff.1 hj).1
    rw [List.length_take] at this; omega
  rw [List.getElem?_take_of_lt hlt, List.getElem?_drop] at hj
  exact h (a + j) (by omega) (by omega) hj
theorem seg_eq (l : List UInt8) (a i : Nat) (hai : a ≤ i) (hi : l[i]? = some 10) : l.drop a = (l.drop a).take (i - a) ++ 10 :: l.drop (i + 1) := by
  have hlt := (List.getElem?_eq_some_iff.1 hi).1
  conv => lhs; rw [← List.take_append_drop (i - a) (l.drop a)]
  congr 1
  rw [List.drop_drop, show a + (i - a) = i by omega, List.drop_eq_getElem_cons hlt]
  congr 1
  exact (List.getElem?_eq_some_iff.1 hi).2

/-- Where reading stands; a: where the line begins; i: the next byte; xs: the steps so far. -/
def ReadAt (l : List UInt8) (a i : Nat) (xs : List St) : Prop :=
  a ≤ i ∧ i ≤ l.length ∧ xs.length ≤ a ∧ (∀ j, a ≤ j → j < i → l[j]? ≠ some 10) ∧ parseL l = parseGo xs.length xs (linesL (l.drop a))
theorem ReadAt.start (l : List UInt8) : ReadAt l 0 0 [] := ⟨Nat.le_refl _, Nat.zero_le _, Nat.le_refl _, fun j _ h => by omega, rfl⟩
theorem ReadAt.next {l : List UInt8} {a i : Nat} {xs : List St} (h : ReadAt l a i xs) (hlt : i < l.length) (hi : l[i]? ≠ some 10) : ReadAt l a (i + 1) xs := by
  obtain ⟨h1, h2, h3, h4, h5⟩ := h
  refine ⟨by omega, by omega, h3, fun j hj hj' => ?_, h5⟩
  by_cases e : j = i
  · subst e; exact hi
  · exact h4 j hj (by omega)
theorem ReadAt.line {l : List UInt8} {a i : Nat} {xs : List St} {x : St} (h : ReadAt l a i xs) (hi : l[i]? = some 10) (hx : oneL ((l.drop a).take (i - a)) = some x) : ReadAt l (i + 1) (i + 1) (xs ++ [x]) := by
  have hlt := (List.getElem?_eq_some_iff.1 hi).1
  obtain ⟨h1, h2, h3, h4, h5⟩ := h
  refine ⟨Nat.le_refl _, by omega, by simp; omega, fun j hj hj' => by omega, ?_⟩
  rw [h5, seg_eq l a i h1 hi, linesL_cut _ _ (seg_no10 l a i h4), parseGo, step_of, hx]
  simp
theorem ReadAt.bad {l : List UInt8} {a i : Nat} {xs : List St} (h : ReadAt l a i xs) (hi : l[i]? = some 10) (hx : oneL ((l.drop a).take (i - a)) = none) : parseL l = ([], (xs.length : Int) + 1, 8) := by
  obtain ⟨h1, h2, h3, h4, h5⟩ := h
  rw [h5, seg_eq l a i h1 hi, linesL_cut _ _ (seg_no10 l a i h4), parseGo, step_of, hx]
theorem ReadAt.rest {l : List UInt8} {a : Nat} {xs : List St} (h : ReadAt l a l.length xs) (hlt : a < l.length) : parseL l = ([], (xs.length : Int) + 1, 8) := by
  obtain ⟨h1, h2, h3, h4, h5⟩ := h
  have e : (l.drop a).take (l.length - a) = l.drop a := List.take_of_length_le (by simp)
  have hn := seg_no10 l a l.length h4
  rw [e] at hn
  rw [h5, lines_rest _ (by intro h0; have := congrArg List.length h0; simp at this; omega) hn, parseGo, step_rest _ hn]
theorem ReadAt.done {l : List UInt8} {a : Nat} {xs : List St} (h : ReadAt l a l.length xs) (hlt : ¬ a < l.length) : parseL l = (xs, 0, 0) := by
  obtain ⟨h1, h2, h3, h4, h5⟩ := h
  rw [h5, List.drop_of_length_le (by omega)]
  rfl

/-- Two texts of steps, one behind the other. -/
theorem parse_joined (a b : List St) (ha : ∀ x ∈ a, x.ok) (hb : ∀ x ∈ b, x.ok) : parseL (printL a ++ printL b) = (a ++ b, 0, 0) := by
  have e : printL a ++ printL b = printL (a ++ b) := by simp [printL]
  rw [e]
  exact parseL_print _ fun x hx => (List.mem_append.1 hx).elim (ha x) (hb x)
/-- A line that is none between them. -/
theorem parse_between (a b : List St) (s : List UInt8) (ha : ∀ x ∈ a, x.ok) (hs : ∀ c ∈ s, c ≠ 10) (h : oneL s = none) : parseL (printL a ++ (s ++ 10 :: printL b)) = ([], (a.length : Int) + 1, 8) := by
  unfold parseL
  rw [lines_print, linesL_cut _ _ hs, parse_print a 0 [] _ ha, parseGo, step_of, h]
  simp
end Go.Proofs.YtnollfnjidbdcaaDoor.X
