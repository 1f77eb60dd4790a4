/- Set of package script: a line as a setting. -/
import Derived.Test.YtnollfnjidbdcaaDoorXSet
namespace Go.Proofs.YtnollfnjidbdcaaDoor.X
open Go.RowKit
set_option linter.unusedSimpArgs false
set_option linter.unusedVariables false

def zs18 : Array Value := #[.int .i64 0, .int .i64 0, .int .i64 0, .int .i64 0, .int .i64 0, .int .i64 0, .int .i64 0, .int .i64 0, .int .i64 0, .int .i64 0, .int .i64 0, .int .i64 0, .int .i64 0, .int .i64 0, .int .i64 0, .int .i64 0, .int .i64 0, .int .i64 0]
def SetPost (l : List UInt8) (w : World) (e : Ending) (w' : World) : Prop :=
  Below w.heap.size w w' ∧ match setL l with
    | some ns => ∃ f : Nat → Int, ns = cfgL f ∧ (∀ k, i64ok (f k)) ∧ e = .returned (.tuple #[.agg (cfgA f), .bool true])
    | none => e = .returned (.tuple #[.agg zs18, .bool false])
theorem setPost_none {l : List UInt8} {w w' : World} (h : setL l = none) (hb : Below w.heap.size w w') : SetPost l w (.returned (.tuple #[.agg zs18, .bool false])) w' := by
  refine ⟨hb, ?_⟩
  rw [h]
theorem cutSuffix_any (s p : ByteArray) (hs : s.size ≤ 9223372036854775807) (w : World) : Calls Tryd.prog 23 #[.string s, .string p] w fun e w' =>
    e = .returned (.tuple #[.string ⟨(Lib.trimSuffix s.data.toList p.data.toList).toArray⟩, .bool (Lib.hasSuffix s.data.toList p.data.toList)]) ∧ w = w' :=
  (Tryd.strings_CutSuffix s p w hs).mono fun e w' ⟨h1, h2⟩ => ⟨h1, h2.symm⟩

theorem setL_noEnd {l : List UInt8} (h : Lib.hasSuffix l [10] = false) : setL l = none := by
  unfold setL; rw [h]; rfl
theorem setL_end {l : List UInt8} (h : Lib.hasSuffix l [10] = true) : setL l = if (splitL (Lib.trimSuffix l [10])).length = 18 then numsL (splitL (Lib.trimSuffix l [10])) else none := by
  unfold setL
  rw [h]
  simp only [if_true]
  cases hn : numsL (splitL (Lib.trimSuffix l [10])) with
  | none => simp
  | some ns => simp [nums_length _ _ hn]
theorem trim_le (l p : List UInt8) : (Lib.trimSuffix l p).length ≤ l.length := by
  unfold Lib.trimSuffix
  split
  · simp
  · exact Nat.le_refl _

set_option maxHeartbeats 2000000 in
set_option maxRecDepth 100000 in
theorem set_noEnd (s : ByteArray) (hs : s.size ≤ 1000000) (w : World) (hsuf : Lib.hasSuffix s.data.toList (ByteArray.mk #[10]).data.toList = false) : Calls Tryd.prog 9 #[.string s] w (SetPost s.data.toList w) := by
  have HS := Lib.hid hsuf
  clear hsuf
  go_enter Tryd.func9, Tryd.ntmps9
  go_wp2_with (go_at_call 23; refine (cutSuffix_any _ _ (by omega) _).mono ?_; rw [HS.out]; rintro e w' ⟨rfl, rfl⟩)
  have h1 : ((w.alloc (.cells zs18 23)).alloc (.cells zs18 23)).heap[w.heap.size]? = some (.cells zs18 23 (0, 0)) := by
    rw [Below.heap_alloc _ _ _ (by simp)]
    exact heap_alloc_new w _
  exact bodyPost_ret (results_cell_tmp Tryd.results9 _ _ w.heap.size 23 zs18 (0, 0) _ (.bool false) rfl rfl h1 Tryd.underlying23 rfl (by kernel_rfl)) rfl
    (setPost_none (setL_noEnd HS.out) (((Below.refl _ w).alloc (Nat.le_refl _) _).alloc (by simp) _))
end Go.Proofs.YtnollfnjidbdcaaDoor.X
