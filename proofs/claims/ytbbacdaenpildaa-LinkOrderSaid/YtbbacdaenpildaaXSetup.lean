/- What the two laws of pairs of links have in common: their configuration, stored; a struct of 18 cells stored or loaded whole. -/
import Derived.Test.YtbbacdaenpildaaXAnswers
import Derived.Deep.DeepCutAuto
import Derived.Deep.RegionHeld3
namespace Go.Proofs.Ytbbacdaenpildaa.X
open Go.RowKit Go.Proofs.Ytbbacdaenpildaa.XTick

/-- The configuration of the laws' links. -/
def cfg2 : List Value := [.int .i64 0, .int .i64 0, .int .i64 0, .int .i64 0, .int .i64 0, .int .i64 0, .int .i64 0, .int .i64 0, .int .i64 0, .int .i64 0, .int .i64 0, .int .i64 0, .int .i64 0,
      .int .i64 2, .int .i64 9, .int .i64 1073741824, .int .i64 1073741824, .int .i64 4]
theorem range_of {w : World} {g : Nat} {cs : List Value} {t : TypeId} {fr : Nat × Nat} (h : w.heap[g]? = some (.cells cs.toArray t fr)) : w.rangeAt g 0 cs := by
  intro j v hj
  rw [Nat.zero_add, cell_of_row w g j _ t fr h]
  simpa using hj

/-- The configuration, stored whole into a row of its kind that was made last. -/
theorem wpList_store24 {ops : Array Oper} {rest : List Oper} {o : Oper} {a : Act} {w : World} {Q : Exit → Act → World → Prop} (hgd : o.guard = none) (x y : Operand) (ho : o.op = .store 24 x y)
    (hx : a.eval x = .pointer (some ⟨w.heap.size, 0, none⟩)) (hy : a.eval y = .agg #[.int .i64 0, .int .i64 0, .int .i64 0, .int .i64 0, .int .i64 0, .int .i64 0, .int .i64 0, .int .i64 0, .int .i64 0, .int .i64 0, .int .i64 0, .int .i64 0, .int .i64 0,
      .int .i64 2, .int .i64 9, .int .i64 3, .int .i64 50, .int .i64 4])
    (c : Array Value) (hs : c.size = 18)
    (h : ∀ w1 : World, w1.heap[w.heap.size]? = some (.cells #[.int .i64 0, .int .i64 0, .int .i64 0, .int .i64 0, .int .i64 0, .int .i64 0, .int .i64 0, .int .i64 0, .int .i64 0, .int .i64 0, .int .i64 0, .int .i64 0, .int .i64 0,
      .int .i64 2, .int .i64 9, .int .i64 3, .int .i64 50, .int .i64 4] 24 (0, 0)) → Below w.heap.size w w1 → wpList Try.prog ops Q rest (a.put o.dst undef) w1) : wpList Try.prog ops Q (o :: rest) a (w.alloc (.cells c 24)) :=
  wpList_store_row hgd 24 x y ho w.heap.size _ hx hy 24 c (heap_alloc_new _ _) (by kernel_rfl) (by rw [hs]; rfl) (by simp [Value.oneCell'])
    (h _ (at_setRow (heap_alloc_new _ _) _) ((Upd.setRow (X := fun k => w.heap.size ≤ k) ((Upd.refl _ w).alloc _) (.inl (Nat.le_refl _)) _).below (Nat.le_refl _) (fun _ h => h)))
end Go.Proofs.Ytbbacdaenpildaa.X
