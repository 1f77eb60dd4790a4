import Derived.Test.YtbbacdaenpildaaXBase
import Derived.Test.YtbbacdaenpildaaXLink
import Derived.StillTailTactics
import Derived.BigQuiet
import Derived.Deep.QuietTactic
namespace Go.Proofs.Ytbbacdaenpildaa.X
open Go.RowKit Go.Proofs.Ytbbacdaenpildaa.XTick

section
variable {P : Program} {ops : Array Oper}
/-- A whole row of cells, loaded by one operation of the quiet part of a region. -/
theorem still_load_row {o : Oper} {a : Act} {w : World} {K : Act → Prop} {E : Prop} (hgd : o.guard = none) (ty : TypeId) (x : Operand) (ho : o.op = .load ty x)
    (g : Nat) (hx : a.eval x = .pointer (some ⟨g, 0, none⟩)) (t : TypeId) (cs : Array Value) (fr : Nat × Nat) (d : TypeDesc) (hg : w.heap[g]? = some (.cells cs t fr))
    (hu : P.underlying ty = some d) (hd : (match d with | .struct _ | .array _ _ => true | _ => false) = true) (hi : (P.info? ty).map (·.size) = some cs.size)
    (h : K (a.put o.dst (.agg cs))) : if Region.wanted o (yielded ops a.tmps) = true then o.still P a w K else E := by
  have hw : Region.wanted o (yielded ops a.tmps) = true := by simp [Region.wanted, hgd]
  rw [if_pos hw]
  unfold Oper.still execOp
  simp only [ho, hx, Instr.loadAt, Instr.sureAddr, Sem.run_bind, Sem.run_pure, Result.andThen_ok, run_loadVar_row w g t ty cs fr d hg hu hd hi, Oper.stillUpon]
  exact ⟨trivial, h⟩
end

def NewPost (W : World) (tr dd ses ep now : Int) (e : Ending) (w' : World) : Prop :=
  ∃ L, e = .returned (.pointer (some ⟨L, 0, none⟩)) ∧ W.heap.size ≤ L ∧ w'.heap[L]? = some (.cells (linkCells ⟨tr, dd, ses, ep, [], 0, 0, 0, 0, false, cl now⟩ (.slice none 0 0)) 55 (0, 0)) ∧ Below W.heap.size W w'

theorem new_any (W : World) (tr dd ses ep now : Int) (hep : 0 ≤ ep ∧ ep ≤ 65535) :
    Calls Try.prog 7 #[.agg #[.int .i64 0, .int .i64 0, .int .i64 0, .int .i64 0, .int .i64 0, .int .i64 0, .int .i64 0, .int .i64 0, .int .i64 0, .int .i64 0, .int .i64 0, .int .i64 0, .int .i64 0,
      .int .i64 2, .int .i64 9, .int .i64 tr, .int .i64 dd, .int .i64 4], .int .i64 ses, .int .i64 ep, .int .i64 now] W (NewPost W tr dd ses ep now) := by
  have e1 : IntKind.i64.wrap (IntKind.u16.wrap ep) = ep := by
    rw [u16w]; simp [IntKind.wrap, IntKind.bits, IntKind.signed]; omega
  go_enter Try.func7, Try.ntmps7
  go_wp2_with fail
  obtain ⟨W1, hW1⟩ : ∃ W1, (W.alloc (.cells #[.int .i64 0, .int .i64 0, .int .i64 0, .int .i64 0, .int .i64 0, .int .i64 0, .int .i64 0, .int .i64 0, .int .i64 0, .int .i64 0, .int .i64 0, .int .i64 0, .int .i64 0,
      .int .i64 2, .int .i64 9, .int .i64 tr, .int .i64 dd, .int .i64 4] 24 (0, 0))) = W1 := ⟨_, rfl⟩
  have hb : W1.heap[W.heap.size]? = some (.cells #[.int .i64 0, .int .i64 0, .int .i64 0, .int .i64 0, .int .i64 0, .int .i64 0, .int .i64 0, .int .i64 0, .int .i64 0, .int .i64 0, .int .i64 0, .int .i64 0, .int .i64 0,
      .int .i64 2, .int .i64 9, .int .i64 tr, .int .i64 dd, .int .i64 4] 24 (0, 0)) := by rw [← hW1]; exact heap_alloc_new _ _
  have hB : Below W.heap.size W W1 := by rw [← hW1]; exact (Below.refl _ _).alloc (Nat.le_refl _) _
  rw [hW1]
  clear hW1
  have Hb := Lib.hid hb
  clear hb
  refine wp_region_still_tail 8 (by kernel_rfl) (by kernel_rfl) ?_
  simp only [List.take_succ_cons, List.take_zero, List.drop_succ_cons, List.drop_zero]
  change wpStill _ _ W1.drew _ _ _
  refine wpStill_step (fun K hK => ?_)
  refine still_load_row rfl 24 (.tmp 4) rfl W.heap.size rfl 24 _ (0, 0) _ (at_drew Hb.out) Try.underlying24 rfl (by kernel_rfl) ?_
  refine hK _ ?_
  clear hK K
  still_step
  still_step
  still_step
  still_step
  still_step
  refine wpStill_step (fun K hK => ?_)
  go_simp
  refine ⟨_, (clamp_any now _).mono fun _ _ ⟨h1, h2⟩ => ⟨h1, h2.symm⟩, hK _ ?_⟩
  clear hK K
  still_step
  refine wpStill_nil ?_
  go_wp2
  go_ret
  exact ⟨W1.heap.size, rfl, hB.size, heap_alloc_new W1 _, (hB.alloc hB.size _).drew⟩
end Go.Proofs.Ytbbacdaenpildaa.X
