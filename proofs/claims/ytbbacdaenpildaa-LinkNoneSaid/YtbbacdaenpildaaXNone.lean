/- LinkNone answers true at every argument, given that the witness does. -/
import Derived.Test.YtbbacdaenpildaaXNil
namespace Go.Proofs.Ytbbacdaenpildaa.X
open Go.RowKit

theorem linkNone_true (h12 : ∀ w : World, Calls Try.prog 12 #[] w fun e w' => e = .returned (.bool true) ∧ Below w.heap.size w w') (mk ma mb mc s e q a : Int) (has : Bool) (k x y z now : Int) (w : World) :
    Calls Try.prog 5 #[.agg #[.int .i64 mk, .int .i64 ma, .int .i64 mb, .int .i64 mc], .agg #[.int .i64 s, .int .i64 e, .int .i64 q, .int .i64 a, .bool has, .int .i64 k, .int .i64 x, .int .i64 y, .int .i64 z], .int .i64 now] w fun e w' =>
      e = .returned (.bool true) ∧ Below w.heap.size w w' := by
  have H := Lib.hid h12
  clear h12
  go_enter Try.func5, Try.ntmps5
  go_wp2_with fail
  refine (poll_nil now _).mono ?_
  rintro e1 w1 ⟨rfl, hb1⟩
  have hB1 : w1.heap[w.heap.size + 1]? = some (.cells #[.int .i64 s, .int .i64 e, .int .i64 q, .int .i64 a, .bool has, .int .i64 k, .int .i64 x, .int .i64 y, .int .i64 z] 38 (0, 0)) :=
    (hb1.block _ (by simp)).trans (by have := heap_alloc_new (w.alloc (.cells #[.int .i64 mk, .int .i64 ma, .int .i64 mb, .int .i64 mc] 36)) (.cells #[.int .i64 s, .int .i64 e, .int .i64 q, .int .i64 a, .bool has, .int .i64 k, .int .i64 x, .int .i64 y, .int .i64 z] 38); simpa using this)
  have hA1 : w1.heap[w.heap.size]? = some (.cells #[.int .i64 mk, .int .i64 ma, .int .i64 mb, .int .i64 mc] 36 (0, 0)) :=
    (hb1.block _ (by simp; omega)).trans (at_alloc (heap_alloc_new _ _) _)
  have b1 : Below w.heap.size w w1 := (((Below.refl _ _).alloc (Nat.le_refl _) _).alloc (by simp) _).trans (hb1.mono (by simp; omega))
  have z1 : w.heap.size + 1 < w1.heap.size := at_lt hB1
  clear hb1
  have B1 := Lib.hid hB1
  have A1 := Lib.hid hA1
  clear hA1 hB1
  go_wp2_with (with_reducible refine wpList_load_row rfl 38 (.tmp 4) rfl (w.heap.size + 1) rfl 38 _ (0, 0) _ (at_alloc B1.out _) Try.underlying38 rfl (by kernel_rfl) ?_)
  refine (recv_nil s e q a has k x y z now _).mono ?_
  rintro e2 w2 ⟨rfl, hb2⟩
  have hA2 : w2.heap[w.heap.size]? = some (.cells #[.int .i64 mk, .int .i64 ma, .int .i64 mb, .int .i64 mc] 36 (0, 0)) :=
    (hb2.block _ (by simp; omega)).trans (at_alloc A1.out _)
  have b2 : Below w.heap.size w w2 := (b1.alloc (by omega) _).trans (hb2.mono (by simp; omega))
  have z2 : w.heap.size + 1 < w2.heap.size := Nat.lt_of_lt_of_le (by simp; omega) hb2.size
  clear hb2 b1 B1 A1 z1
  have A2 := Lib.hid hA2
  clear hA2
  go_wp2_with (fail)
  refine (H.out _).mono ?_
  rintro e3 w3 ⟨rfl, hb3⟩
  have hA3 : w3.heap[w.heap.size]? = some (.cells #[.int .i64 mk, .int .i64 ma, .int .i64 mb, .int .i64 mc] 36 (0, 0)) :=
    (hb3.block _ (by simp; omega)).trans (at_alloc A2.out _)
  have b3 : Below w.heap.size w w3 := (b2.alloc (by omega) _).trans (hb3.mono (by simp; omega))
  have z3 : w.heap.size + 1 < w3.heap.size := Nat.lt_of_lt_of_le (by simp; omega) hb3.size
  have c0 := at_cell hA3 (o := 0) rfl
  have c1 := at_cell hA3 (o := 1) rfl
  have c2 := at_cell hA3 (o := 2) rfl
  have c3 := at_cell hA3 (o := 3) rfl
  clear hb3 b2 A2 hA3 z2
  go_wp2_with (first
   | (go_at_call 8; refine (send_nil mk ma mb mc _).mono ?_; rintro e4 w4 ⟨rfl, hb4⟩)
   | (go_at_call 13; refine (dead_nil now _).mono ?_; rintro e5 w5 ⟨rfl, rfl⟩)
   | (go_at_call 14; refine (epoch_nil _).mono ?_; rintro e6 w6 ⟨rfl, rfl⟩)
   | (go_at_call 11; refine (waits_nil _).mono ?_; rintro e7 w7 ⟨rfl, rfl⟩))
  go_ret
  exact ⟨rfl, b3.trans (hb4.mono (by omega))⟩
end Go.Proofs.Ytbbacdaenpildaa.X
