/- What the methods of a link answer when there is no link (a nil pointer): false, nothing, 0; Dead true. New blocks alone come. -/
import Derived.Test.YtbbacdaenpildaaXBase
import Derived.Test.YtbbacdaenpildaaXLink
import Derived.BigQuiet
import Derived.Deep.QuietTactic
import Derived.ChangeAlike
import Derived.RegionTactic
namespace Go.Proofs.Ytbbacdaenpildaa.X
open Go.RowKit

theorem below_dN {B : Nat} {a w : World} (h : Below B a w) (n : Nat) : Below B a (w.drewN n) := ⟨h.os, h.tape, h.output, h.size, h.block⟩

theorem poll_nil (now : Int) (w : World) : Calls Try.prog 9 #[.pointer none, .int .i64 now] w fun e w' => e = .returned (.tuple #[.agg #[.int .i64 0, .int .i64 0, .int .i64 0, .int .i64 0, .bool false, .int .i64 0, .int .i64 0, .int .i64 0, .int .i64 0], .bool false]) ∧ Below w.heap.size w w' := by
  go_enter Try.func9, Try.ntmps9
  go_wp2
  exact bodyPost_ret (v := .tuple #[.agg #[.int .i64 0, .int .i64 0, .int .i64 0, .int .i64 0, .bool false, .int .i64 0, .int .i64 0, .int .i64 0, .int .i64 0], .bool false]) (by simp [results, Try.results9, go_sem]) rfl
    ⟨rfl, (Below.refl _ _).alloc (Nat.le_refl _) _⟩

theorem send_nil (k a b c : Int) (w : World) : Calls Try.prog 8 #[.pointer none, .agg #[.int .i64 k, .int .i64 a, .int .i64 b, .int .i64 c]] w fun e w' => e = .returned (.bool false) ∧ Below w.heap.size w w' := by
  go_enter Try.func8, Try.ntmps8
  go_wp2
  go_quiet (fail)
  go_wp2
  go_ret
  exact ⟨rfl, below_dN ((Below.refl _ _).alloc (Nat.le_refl _) _) _⟩

theorem recv_nil (s e q a : Int) (has : Bool) (k x y z now : Int) (w : World) : Calls Try.prog 10 #[.pointer none, .agg #[.int .i64 s, .int .i64 e, .int .i64 q, .int .i64 a, .bool has, .int .i64 k, .int .i64 x, .int .i64 y, .int .i64 z], .int .i64 now] w fun e w' =>
    e = .returned (.tuple #[.agg #[.int .i64 0, .int .i64 0, .int .i64 0, .int .i64 0], .bool false]) ∧ Below w.heap.size w w' := by
  go_enter Try.func10, Try.ntmps10
  go_wp2
  go_quiet (fail)
  go_wp2
  exact bodyPost_ret (v := .tuple #[.agg #[.int .i64 0, .int .i64 0, .int .i64 0, .int .i64 0], .bool false]) (by simp [results, Try.results10, go_sem]) rfl
    ⟨rfl, ((((below_dN (((Below.refl _ _).alloc (Nat.le_refl _) _).alloc (by simp) _) _).setCell (by simp) _).setCell (by simp) _).setCell (by simp) _).setCell (by simp) _⟩

theorem dead_nil (now : Int) (w : World) : Calls Try.prog 13 #[.pointer none, .int .i64 now] w fun e w' => e = .returned (.bool true) ∧ w = w' := by
  go_enter Try.func13, Try.ntmps13
  go_wp2
  go_ret
  exact ⟨rfl, rfl⟩
theorem epoch_nil (w : World) : Calls Try.prog 14 #[.pointer none] w fun e w' => e = .returned (.int .i64 0) ∧ w = w' := by
  go_enter Try.func14, Try.ntmps14
  go_wp2
  go_ret
  exact ⟨rfl, rfl⟩
theorem waits_nil (w : World) : Calls Try.prog 11 #[.pointer none] w fun e w' => e = .returned (.int .i64 0) ∧ w = w' := by
  go_enter Try.func11, Try.ntmps11
  go_wp2
  go_ret
  exact ⟨rfl, rfl⟩
end Go.Proofs.Ytbbacdaenpildaa.X
