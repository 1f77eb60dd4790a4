/- fields, Setting and Set of package script: a setting as a line, and a line as a setting. -/
import Derived.Test.YtnollfnjidbdcaaDoorXOne
import Derived.RegionTactic
import Derived.BigRegion
import Derived.ChangeAlike
namespace Go.Proofs.YtnollfnjidbdcaaDoor.X
open Go.RowKit
set_option linter.unusedSimpArgs false
set_option linter.unusedVariables false

/-- Pointers to the first n cells of block X, in a row of their own. -/
def PtrsAt (w : World) (g X n : Nat) : Prop := ∀ k, k < n → w.cell? ⟨g, k, none⟩ = some (.pointer (some ⟨X, k, none⟩))
def ptrs18 (X : Nat) : Array Value := #[.pointer (some ⟨X, 0, none⟩), .pointer (some ⟨X, 1, none⟩), .pointer (some ⟨X, 2, none⟩), .pointer (some ⟨X, 3, none⟩), .pointer (some ⟨X, 4, none⟩), .pointer (some ⟨X, 5, none⟩), .pointer (some ⟨X, 6, none⟩), .pointer (some ⟨X, 7, none⟩), .pointer (some ⟨X, 8, none⟩),
  .pointer (some ⟨X, 9, none⟩), .pointer (some ⟨X, 10, none⟩), .pointer (some ⟨X, 11, none⟩), .pointer (some ⟨X, 12, none⟩), .pointer (some ⟨X, 13, none⟩), .pointer (some ⟨X, 14, none⟩), .pointer (some ⟨X, 15, none⟩), .pointer (some ⟨X, 16, none⟩), .pointer (some ⟨X, 17, none⟩)]
def FieldsPost (X : Nat) (w : World) (e : Ending) (w' : World) : Prop :=
  e = .returned (.slice (some ⟨w.heap.size, 0, none⟩) 18 18) ∧ w'.heap[w.heap.size]? = some (.cells (ptrs18 X) 48 (0, 0)) ∧ Below w.heap.size w w'

set_option maxHeartbeats 2000000 in
set_option maxRecDepth 100000 in
theorem fields_any (X : Nat) (w : World) : Calls Tryd.prog 21 #[.pointer (some ⟨X, 0, none⟩)] w (FieldsPost X w) := by
  go_enter Tryd.func21, Tryd.ntmps21
  go_wp2_with fail
  go_region
  go_wp2_with fail
  go_ret
  refine ⟨rfl, ?_, ?_⟩
  · exact heap_alloc_new w _
  · exact ((Below.refl _ w).alloc (Nat.le_refl _) _).drew

/-- A setting's 18 numbers. -/
def cfgA (f : Nat → Int) : Array Value := #[.int .i64 (f 0), .int .i64 (f 1), .int .i64 (f 2), .int .i64 (f 3), .int .i64 (f 4), .int .i64 (f 5), .int .i64 (f 6), .int .i64 (f 7), .int .i64 (f 8),
  .int .i64 (f 9), .int .i64 (f 10), .int .i64 (f 11), .int .i64 (f 12), .int .i64 (f 13), .int .i64 (f 14), .int .i64 (f 15), .int .i64 (f 16), .int .i64 (f 17)]
def cfgL (f : Nat → Int) : List Int := [f 0, f 1, f 2, f 3, f 4, f 5, f 6, f 7, f 8, f 9, f 10, f 11, f 12, f 13, f 14, f 15, f 16, f 17]
theorem cfgA_is (f : Nat → Int) : cfgA f = ((cfgL f).map (.int .i64)).toArray := rfl

end Go.Proofs.YtnollfnjidbdcaaDoor.X
