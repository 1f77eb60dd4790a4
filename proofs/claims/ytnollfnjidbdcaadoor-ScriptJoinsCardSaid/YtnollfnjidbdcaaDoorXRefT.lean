/- The reference's Set. -/
import Derived.Test.YtnollfnjidbdcaaDoorXRefS
import Derived.Test.YtnollfnjidbdcaaDoorXRefK
import Derived.Test.YtnollfnjidbdcaaDoorXRefC
import Derived.Test.YtnollfnjidbdcaaDoorXSetEnd
namespace Go.Proofs.YtnollfnjidbdcaaDoor.X
open Go.RowKit
set_option linter.unusedSimpArgs false
set_option linter.unusedVariables false

set_option maxHeartbeats 2000000 in
set_option maxRecDepth 100000 in
theorem refSet_empty (w : World) : Calls Tryd.prog 10 #[.string ByteArray.empty] w (SetPost [] w) := by
  go_enter Tryd.func10, Tryd.ntmps10
  go_wp2_with (refine wpList_store23 rfl (.tmp 2) _ rfl w.heap.size rfl zs18 rfl zs18 (heap_alloc_new _ _) rfl rfl zs18_one ?_)
  exact bodyPost_ret (results_cell_tmp Tryd.results10 _ _ w.heap.size 23 zs18 (0, 0) _ (.bool false) rfl rfl (setRow_heap _ _ _ _ _ _ (heap_alloc_new _ _)) Tryd.underlying23 rfl (by kernel_rfl)) rfl
    (setPost_none rfl (below_setRow ((Below.refl _ w).alloc (Nat.le_refl _) _) (Nat.le_refl _) _))
set_option maxHeartbeats 2000000 in
set_option maxRecDepth 100000 in
theorem refSet_noEnd (s : ByteArray) (hs : s.size ≤ 1000000) (h0 : 0 < s.size) (c : UInt8) (hc : s[s.size - 1] = c) (h10 : ¬ (c.toNat : Int) = 10) (hn : setL s.data.toList = none) (w : World) : Calls Tryd.prog 10 #[.string s] w (SetPost s.data.toList w) := by
  have hse : ¬ s = ByteArray.empty := by rintro rfl; exact absurd h0 (by decide)
  have hsz0 : ((s.size : Int) == 0) = false := by rw [beq_eq_false_iff_ne]; omega
  obtain ⟨q, hq⟩ : ∃ q, s.size = q + 1 := ⟨s.size - 1, by omega⟩
  have hi1 : ((s.size : Int) - 1) < s.size := by omega
  have hi0 : (0 : Int) ≤ (s.size : Int) - 1 := by omega
  have hw : IntKind.i64.wrap ((s.size : Int) - 1) = (s.size : Int) - 1 := IntWalk.i64_in _ (by omega)
  have ht : ((s.size : Int) - 1).toNat = s.size - 1 := by omega
  have hcb : ((c.toNat : Int) != 10) = true := by rw [bne_iff_ne]; exact h10
  have HN := Lib.hid hn
  have HQ := Lib.hid hq
  clear hn hq
  go_enter Tryd.func10, Tryd.ntmps10
  go_wp2_with (refine wpList_store23 rfl (.tmp 2) _ rfl w.heap.size rfl zs18 rfl zs18 (heap_alloc_new _ _) rfl rfl zs18_one ?_)
  exact bodyPost_ret (results_cell_tmp Tryd.results10 _ _ w.heap.size 23 zs18 (0, 0) _ (.bool false) rfl rfl (setRow_heap _ _ _ _ _ _ (heap_alloc_new _ _)) Tryd.underlying23 rfl (by kernel_rfl)) rfl
    (setPost_none HN.out (below_setRow ((Below.refl _ w).alloc (Nat.le_refl _) _) (Nat.le_refl _) _))
end Go.Proofs.YtnollfnjidbdcaaDoor.X
