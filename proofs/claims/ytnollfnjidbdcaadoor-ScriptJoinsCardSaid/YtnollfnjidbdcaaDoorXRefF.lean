/- The reference's fields. -/
import Derived.Test.YtnollfnjidbdcaaDoorXSet
namespace Go.Proofs.YtnollfnjidbdcaaDoor.X
open Go.RowKit
set_option linter.unusedSimpArgs false
set_option linter.unusedVariables false

set_option maxHeartbeats 2000000 in
set_option maxRecDepth 100000 in
theorem refFields_any (X : Nat) (w : World) : Calls Tryd.prog 27 #[.pointer (some ⟨X, 0, none⟩)] w (FieldsPost X w) := by
  go_enter Tryd.func27, Tryd.ntmps27
  go_wp2_with fail
  go_region
  go_wp2_with fail
  go_ret
  refine ⟨rfl, ?_, ?_⟩
  · exact heap_alloc_new w _
  · exact ((Below.refl _ w).alloc (Nat.le_refl _) _).drew

end Go.Proofs.YtnollfnjidbdcaaDoor.X
