/- The loop 'for s := range strings.Lines(text)': the law of the caller. The iterator writes a captured variable of its own: block B. -/
import Derived.Test.YtnollfnjidbdcaaDoorXLines
namespace Go.Proofs.YtnollfnjidbdcaaDoor.X
open Go.RowKit Go.Shelf
set_option linter.unusedSimpArgs false
set_option linter.unusedVariables false
attribute [local go_sem] Oper.semAt_some

/-- What the statement itself and the iterator may turn: block B; what is no cells and was laid since the loop began. -/
structure Turns (n₀ B : Nat) (W W' : World) : Prop where
  os : W'.os = W.os
  tape : W'.tape = W.tape
  output : W'.output = W.output
  size : W.heap.size ≤ W'.heap.size
  same : ∀ k, k < W.heap.size → k ≠ B → (k < n₀ ∨ ∃ o : Obj, W.heap[k]? = some o ∧ o.isCells = true) → W'.heap[k]? = W.heap[k]?
theorem Keeps.turns {n₀ B : Nat} {W W' : World} (h : Keeps B W W') : Turns n₀ B W W' := ⟨h.os, h.tape, h.output, h.size, fun k hk hB _ => h.block k hk hB⟩
theorem Turns.alloc (n₀ B : Nat) (W : World) (o : Obj) : Turns n₀ B W (W.alloc o) := ⟨rfl, rfl, rfl, by simp, fun k hk _ _ => Below.heap_alloc W o k hk⟩
theorem Turns.put {n₀ B l : Nat} {W : World} {o : Obj} (o' : Obj) (h : W.heap[l]? = some o) (hc : o.isCells = false) (hl : n₀ ≤ l) : Turns n₀ B W (W.putObj l o') :=
  ⟨rfl, rfl, rfl, by simp, fun k hk _ ho => World.putObj_heap_other (by
    rintro rfl
    rcases ho with h1 | ⟨o2, h2, h3⟩
    · omega
    · rw [h] at h2; cases h2; rw [hc] at h3; cases h3)⟩

/-- How the body of a round may be left. -/
def bodyPostL (n₀ B : Nat) (I : List (List UInt8) → World → Prop) (Ix : World → Prop) (xs : List (List UInt8)) (W : World) : Exit → Act → World → Prop
  | .normal, _, W' => KeepsFrom n₀ W W' ∧ W'.heap[B]? = W.heap[B]? ∧ I xs W'
  | .ret, _, W' => KeepsFrom n₀ W W' ∧ Ix W'
  | _, _, _ => False

theorem rangeLines {g : Operand} {ps : Array Tmp} {assign body : Code} {Q : Exit → Act → World → Prop} {a : Act} {w : World} (n : Nat) (s : ByteArray) (hs : s.size ≤ 1000000) (B : Nat) (hn : 3 ≤ n)
    (hg : a.eval g = .func (.func 41) #[] #[.pointer (some ⟨B, 0, none⟩)]) (hps : ps.size = 1) (hB : w.heap[B]? = some (.cells #[.string s] 9 (0, 0)))
    (I : List (List UInt8) → World → Prop) (Ix : World → Prop) (hI : ∀ pre W W', I pre W → Turns w.heap.size B W W' → I pre W') (hIx : ∀ W W', Ix W → Turns w.heap.size B W W' → Ix W')
    (h0 : I [] w) (a₁ : List UInt8 → Act)
    (hassign : ∀ (l : Nat) (x : List UInt8) (W : World) (K : Act → World → Prop), K (a₁ x) W →
      assign.wpIn (Fence.wide.inRound l) (n - 1 - 1) Tryd.prog (Exit.then K (fun _ _ _ => False)) { tmps := (ps.zip #[.string ⟨x.toArray⟩]).foldl (fun t (p, v) => t.setIfInBounds p v) a.tmps, defers := [] } W)
    (hbody : ∀ (l : Nat) (pre : List (List UInt8)) (x : List UInt8) (rest : List (List UInt8)) (W : World), pre ++ x :: rest = linesL s.data.toList → I pre W → w.heap.size ≤ W.heap.size →
      body.wpIn (Fence.wide.inRound l) (n - 1 - 1) Tryd.prog (bodyPostL w.heap.size B I Ix (pre ++ [x]) W) (a₁ x) W)
    (hdone : ∀ (D : Nat) (W : World), w.heap.size ≤ D → I (linesL s.data.toList) W → W.heap[D]? = some (.deferred (some [])) → Q .normal { a with defers := { target := .collected D, args := #[] } :: a.defers } W)
    (hstop : ∀ (D : Nat) (W : World), w.heap.size ≤ D → Ix W → W.heap[D]? = some (.deferred (some [])) → Code.ret.wpIn Fence.wide n Tryd.prog Q { a with defers := { target := .collected D, args := #[] } :: a.defers } W) :
    (Code.rangeFunc g ps assign body).wpIn Fence.wide n Tryd.prog Q a w := by
  refine wpIn_rangeFunc ?_
  intro fn hfn
  have hBl : B < w.heap.size := (Array.getElem?_eq_some_iff.1 hB).1
  obtain ⟨rec, hrec⟩ : ∃ rec : LoopState → Option Code → Loop, rec = fun st pe => { state := st, pending := pe, fn, tmps := a.tmps, params := ps, assign, body, defers := w.heap.size } := ⟨_, rfl⟩
  obtain ⟨W1, hW1⟩ : ∃ W1, (w.alloc (.deferred (some []))).alloc (.loop (rec .ready none)) = W1 := ⟨_, rfl⟩
  have hL1 : W1.heap[w.heap.size + 1]? = some (.loop (rec .ready none)) := by
    rw [← hW1]; have := World.alloc_heap_new (w.alloc (.deferred (some []))) (.loop (rec .ready none)); rwa [World.size_alloc] at this
  have hD1 : W1.heap[w.heap.size]? = some (.deferred (some [])) := by
    rw [← hW1]; exact (Below.heap_alloc _ _ _ (by simp)).trans (World.alloc_heap_new w _)
  have hB1 : W1.heap[B]? = some (.cells #[.string s] 9 (0, 0)) := by
    rw [← hW1]; exact ((Below.heap_alloc _ _ _ (by simp; omega)).trans (Below.heap_alloc _ _ _ hBl)).trans hB
  have hI1 : I [] W1 := by rw [← hW1]; exact hI _ _ _ (hI _ _ _ h0 (Turns.alloc _ _ _ _)) (Turns.alloc _ _ _ _)
  have hs1 : w.heap.size + 1 < W1.heap.size := (Array.getElem?_eq_some_iff.1 hL1).1
  refine ⟨w.heap.size + 1, [{ target := .collected w.heap.size, args := #[] }], W1, { target := .fn (.func 41) #[.pointer (some ⟨B, 0, none⟩)], args := #[.func (.yield (w.heap.size + 1)) #[] #[]] }, W1, 41,
    #[.func (.yield (w.heap.size + 1)) #[] #[]] ++ #[.pointer (some ⟨B, 0, none⟩)], W1, ?_, ?_, ?_, ?_, fun _ => by omega, ?_⟩
  · rw [← hW1, hrec]; exact run_enterLoop_outer _ _ _ _ _
  · simp only [resolve, hg]
    simp [go_sem]
  · intro f' hf'; trivial
  · have eg := enters_of Tryd.func41 (by kernel_rfl) rfl
    simp [invoke, go_sem, eg]
  · refine (lines_it (n - 1) (w.heap.size + 1) B s hs
      (fun pre W => I pre W ∧ W.heap[w.heap.size + 1]? = some (.loop (rec .ready none)) ∧ W.heap[w.heap.size]? = some (.deferred (some [])))
      (fun pre W => Ix W ∧ W.heap[w.heap.size + 1]? = some (.loop (rec .done (some .ret))) ∧ W.heap[w.heap.size]? = some (.deferred (some [])))
      ?_ ?_ (by omega) W1 hB1 ⟨hI1, hL1, hD1⟩).mono ?_
    · rintro pre X Y ⟨hi, hl, hk⟩ hK
      exact ⟨hI _ _ _ hi hK.turns, (hK.block _ (Array.getElem?_eq_some_iff.1 hl).1 (by omega)).trans hl, (hK.block _ (Array.getElem?_eq_some_iff.1 hk).1 (by omega)).trans hk⟩
    · rintro pre x rest W hpre ⟨hi, hl, hk⟩
      have hlt : w.heap.size + 1 < W.heap.size := (Array.getElem?_eq_some_iff.1 hl).1
      have hy := run_yield (P := Tryd.prog) (args := #[.string ⟨x.toArray⟩]) hl (by rw [hrec]; simp [hps])
      rw [hrec] at hy
      refine ⟨fn, _, assign, body, hy, roundIn_of_wpIn hfn (hassign _ x W _ ⟨_, run_beginRound hl (by rw [hrec]), ?_⟩)⟩
      obtain ⟨Wb, hWb⟩ : ∃ Wb, W.putObj (w.heap.size + 1) (.loop { rec .ready none with state := .busy }) = Wb := ⟨_, rfl⟩
      have hl2 : Wb.heap[w.heap.size + 1]? = some (.loop { rec .ready none with state := .busy }) := by rw [← hWb]; exact World.putObj_heap_same hlt
      have hk2 : Wb.heap[w.heap.size]? = some (.deferred (some [])) := by rw [← hWb]; exact (World.putObj_heap_other (by omega)).trans hk
      have hb2 : Wb.heap[B]? = W.heap[B]? := by rw [← hWb]; exact World.putObj_heap_other (by omega)
      have hi2 : I pre Wb := by rw [← hWb]; exact hI _ _ _ hi (Turns.put _ hl rfl (by omega))
      have hz2 : w.heap.size ≤ Wb.heap.size := by have := (Array.getElem?_eq_some_iff.1 hl2).1; omega
      rw [hWb]
      refine wpIn_mono (hbody _ pre x rest Wb hpre hi2 hz2) ?_
      have fin : ∀ (jump : Option Code) (W3 : World), KeepsFrom w.heap.size Wb W3 →
          (Instr.endRound (w.heap.size + 1) jump).run Tryd.prog W3 = .ok (.bool jump.isNone) (W3.putObj (w.heap.size + 1) (.loop (rec (if jump.isNone then .ready else .done) jump))) ∧
          W3.heap[w.heap.size + 1]? = some (.loop { rec .ready none with state := .busy }) ∧
          (W3.putObj (w.heap.size + 1) (.loop (rec (if jump.isNone then .ready else .done) jump))).heap[w.heap.size + 1]? = some (.loop (rec (if jump.isNone then .ready else .done) jump)) ∧
          (W3.putObj (w.heap.size + 1) (.loop (rec (if jump.isNone then .ready else .done) jump))).heap[w.heap.size]? = some (.deferred (some [])) := fun jump W3 hk3 => by
        have hl3 := hk3.same _ _ (by omega) hl2 rfl
        have := run_endRound (P := Tryd.prog) jump hl3
        rw [hrec] at this ⊢
        exact ⟨this, by rw [hrec] at hl3; exact hl3, World.putObj_heap_same (Array.getElem?_eq_some_iff.1 hl3).1, (World.putObj_heap_other (by omega)).trans (hk3.same _ _ (Nat.le_refl _) hk2 rfl)⟩
      rintro e a3 W3 hp
      cases e with
      | normal =>
        obtain ⟨hk3, hB3, hi3⟩ := hp
        obtain ⟨hr, hl3, hl4, hk4⟩ := fin none W3 hk3
        have hB4 : (W3.putObj (w.heap.size + 1) (.loop (rec .ready none))).heap[B]? = W.heap[B]? := ((World.putObj_heap_other (by omega)).trans hB3).trans hb2
        exact ⟨_, _, hr, .inl ⟨rfl, ⟨hI _ _ _ hi3 (Turns.put _ hl3 rfl (by omega)), hl4, hk4⟩, hB4⟩⟩
      | ret =>
        obtain ⟨hk3, hi3⟩ := hp
        obtain ⟨hr, hl3, hl4, hk4⟩ := fin (some .ret) W3 hk3
        exact ⟨_, _, hr, .inr ⟨rfl, hIx _ _ hi3 (Turns.put _ hl3 rfl (by omega)), hl4, hk4⟩⟩
      | exit id => exact hp.elim
      | goto t => exact hp.elim
      | panic ch => exact hp.elim
      | outgrown => exact hp.elim
    · rintro e W2 ⟨⟨v, rfl⟩, (⟨hi, hl, hk⟩ | ⟨pre, hi, hl, hk⟩)⟩
      · exact ⟨none, _, by have := run_endLoop (P := Tryd.prog) hl (by rw [hrec]; simp); rw [hrec] at this; exact this, hdone _ _ (Nat.le_refl _) (hI _ _ _ hi (Turns.put _ hl rfl (by omega))) ((World.putObj_heap_other (by omega)).trans hk)⟩
      · exact ⟨some .ret, _, by have := run_endLoop (P := Tryd.prog) hl (by rw [hrec]; simp); rw [hrec] at this; exact this, hstop _ _ (Nat.le_refl _) (hIx _ _ hi (Turns.put _ hl rfl (by omega))) ((World.putObj_heap_other (by omega)).trans hk)⟩
end Go.Proofs.YtnollfnjidbdcaaDoor.X
