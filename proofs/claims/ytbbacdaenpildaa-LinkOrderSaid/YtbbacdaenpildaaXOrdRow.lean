/- LinkOrder answers true for every list of moves: the row. No condition. -/
import Derived.Test.YtbbacdaenpildaaRows
import Derived.Test.YtbbacdaenpildaaXAnswers
import Derived.Test.YtbbacdaenpildaaXOrd
import Derived.WalkKit
import Derived.Deep.Slices
import Derived.Deep.Fields
import Derived.ProofKit
import Derived.OpenShut
import Derived.ShutString
import Derived.ChangeOld
import Derived.Below
import Derived.Carry
import Derived.SizedLaws
import Derived.Lib.SmallJoins
namespace Go.Proofs.Ytbbacdaenpildaa.linkOrder
open Go.ChangeShapes Go.WideShapes Go.ChangeAt Go.RowKit Go.Proofs.Ytbbacdaenpildaa.X
set_option linter.unusedVariables false
theorem own : ownKnob Try.prog.godebug = none := by kernel_rfl
theorem laidOut : laidOutB Try.prog = true := by kernel_rfl

set_option maxRecDepth 100000 in
theorem lifted (os : Os) (started : os.Started) (H : Type) (enc : TypeId × Value → H) :
    ReturnsInHanded {} Try.checked os 3 .any (Rows.linkOrderSpec.pre6 enc Try.prog Try.f3 Rows.linkOrderRow.domain false) (Rows.linkOrderSpec.post enc Try.prog Try.f3 false true false false) := by
  refine returnsInHanded_of_change_sized (C := Try.checked) own started (by kernel_rfl) Try.func3
    (ChangeSpec.witness6 (enc := enc) (C := Try.checked) false ⟨#[], #[.slice none 0 0], []⟩ 8 (by kernel_rfl) (by kernel_rfl) (by kernel_rfl) (by kernel_rfl)) ?_
  intro W base args ds gs before hval0 hW hcnd hsz0 _
  have hval : ∀ (j : Nat) t v, Try.f3.params[j]? = some t → args[j]? = some v → Value.okWide Try.prog W .any base t v := hval0
  have hW' := hW
  obtain ⟨p, q, hA0, hV, rfl, hfz, hnd⟩ := hW
  have hA : DataW.TrodAll enc Try.prog W 0 (fun _ => true) true Try.f3.params.toList args.toList ds p := hA0
  rw [Try.params3] at hA hval
  obtain ⟨v0, vs0, d0, ds0, p0, q0, hargs, rfl, rfl, h0, r0⟩ := trodAll_cons hA
  obtain ⟨rfl, rfl, rfl⟩ := trodAll_nil r0
  obtain rfl : args = #[v0] := by cases args; simp_all
  obtain ⟨rfl, rfl⟩ := trodVars_none hV
  have k0 := h0
  have hlt0 : ∀ x ∈ p0, x.block < W.heap.size := fun x hx => hW'.lt x (by simp [hx])
  obtain ⟨fuel, hf⟩ := h0
  obtain ⟨xa0, xl0, xc0, rfl⟩ := okWide_slice Try.underlying22 (hval 0 22 v0 rfl rfl)
  clear hA0 hval0
  have run : ∃ (xa : Option Addr) (xb xo T xl : Nat) (f : Nat → Int × Int × Int), Value.slice xa0 xl0 xc0 = .slice xa T xl ∧ T ≤ 140737488355328 ∧ (0 < T → xa = some ⟨xb, xo, none⟩) ∧
      (∀ j, j < T → W.cell? ⟨xb, xo + j * 3, none⟩ = some (.int .i64 (f j).1) ∧ W.cell? ⟨xb, xo + j * 3 + 1, none⟩ = some (.int .i64 (f j).2.1) ∧ W.cell? ⟨xb, xo + j * 3 + 2, none⟩ = some (.int .i64 (f j).2.2)) := by
    rcases Go.Deep.open_slice Try.underlying22 hf with ⟨e, _⟩ | ⟨a, len, cap, m, n, D, Pl, e, _, hl, hm, hmm, hx, hi⟩
    · exact ⟨none, 0, 0, 0, 0, fun _ => (0, 0, 0), by simpa [Value.cells] using e, by omega, by omega, by omega⟩
    · obtain ⟨xb, xo, spot⟩ := a
      simp only [Prod.mk.injEq] at hx
      have hsz := sized_slice hsz0 (j := 0) (t := 22) (e := 33) (elems := (List.range len).map D) (spare := (List.range (m - len)).map fun j => D (len + j)) rfl (by rw [hx.1]; rfl) Try.underlying22
      have hb : Try.checked.prog.bytesOf 33 = 24 := by kernel_rfl
      rw [hb] at hsz
      simp only [List.length_map, List.length_range] at hsz
      have hrb := reachBytes_lt
      have hlm : len ≤ m := by rw [hmm]; split <;> omega
      have hc : Try.prog.cellsOf 33 = 3 := by kernel_rfl
      have each : ∀ j, j < m → ∃ z : Int × Int × Int, W.cell? (Addr.add ⟨xb, xo, spot⟩ (j * 3)) = some (.int .i64 z.1) ∧ W.cell? ((Addr.add ⟨xb, xo, spot⟩ (j * 3)).add 1) = some (.int .i64 z.2.1) ∧ W.cell? ((Addr.add ⟨xb, xo, spot⟩ (j * 3)).add 2) = some (.int .i64 z.2.2) := by
        intro j hj
        obtain ⟨cs, hcs, ht⟩ := hi j hj
        rw [hc] at hcs
        obtain ⟨_, hcl, hat⟩ := World.cells?_some hcs
        obtain ⟨ys, n', _, _, _, hyl, hg⟩ := DataW.trod_struct Try.underlying33 ht
        match cs, hcl, ys, hyl with
        | [u0, u1, u2], _, [y0, y1, y2], _ =>
          have hc3 : Try.prog.cellsOf 3 = 1 := by kernel_rfl
          have g0 : DataW.trod _ _ _ _ _ _ n' 3 (List.take (Try.prog.cellsOf 3) (List.drop 0 [u0, u1, u2])) = some y0 := hg 0 _ rfl
          have g1 : DataW.trod _ _ _ _ _ _ n' 3 (List.take (Try.prog.cellsOf 3) (List.drop 1 [u0, u1, u2])) = some y1 := hg 1 _ rfl
          have g2 : DataW.trod _ _ _ _ _ _ n' 3 (List.take (Try.prog.cellsOf 3) (List.drop 2 [u0, u1, u2])) = some y2 := hg 2 _ rfl
          rw [hc3] at g0 g1 g2
          obtain ⟨z0, e0, _⟩ := DataW.trod_int Try.underlying3 g0
          obtain ⟨z1, e1, _⟩ := DataW.trod_int Try.underlying3 g1
          obtain ⟨z2, e2, _⟩ := DataW.trod_int Try.underlying3 g2
          have a0 := hat 0 (by omega)
          have a1 := hat 1 (by omega)
          have a2 := hat 2 (by omega)
          simp at e0 e1 e2 a0 a1 a2
          subst e0 e1 e2
          refine ⟨(z0, z1, z2), ?_, a1, a2⟩
          have hz : (Addr.add ⟨xb, xo, spot⟩ (j * 3)).add 0 = Addr.add ⟨xb, xo, spot⟩ (j * 3) := by simp [Addr.add]
          first | exact a0 | (rw [← hz]; exact a0)
      have hall : ∃ f : Nat → Int × Int × Int, ∀ j, j < m → W.cell? (Addr.add ⟨xb, xo, spot⟩ (j * 3)) = some (.int .i64 (f j).1) ∧ W.cell? ((Addr.add ⟨xb, xo, spot⟩ (j * 3)).add 1) = some (.int .i64 (f j).2.1) ∧ W.cell? ((Addr.add ⟨xb, xo, spot⟩ (j * 3)).add 2) = some (.int .i64 (f j).2.2) := by
        refine ⟨fun j => if h : j < m then (each j h).choose else (0, 0, 0), fun j hj => ?_⟩
        simp only [dif_pos hj]
        exact (each j hj).choose_spec
      obtain ⟨f, hfa⟩ := hall
      have hspot : 0 < len → spot = none := fun h => by
        have := World.cell?_spot (hfa 0 (by omega)).1
        simpa [Addr.add] using this
      refine ⟨some ⟨xb, xo, spot⟩, xb, xo, len, cap, f, by simpa [Value.cells] using e, by omega, fun h => by rw [hspot h], fun j hj => ?_⟩
      have hs := hspot (by omega)
      subst hs
      have := hfa j (by omega)
      by_cases h0 : j = 0
      · subst h0; simpa [Addr.add] using this
      · have h3 : ¬ j * 3 = 0 := by omega
        simpa [Addr.add, h3, Nat.add_assoc] using this
  obtain ⟨xa, xb, xo, T, xl, f, hv, hT, hxa, hy⟩ := run
  rw [hv] at k0 hW' ⊢
  refine (linkOrder_true W xa xb xo T xl f hT hxa hy).mono fun e W' ⟨he, bel⟩ => ?_
  subst he
  exact ⟨_, rfl, _, _, _, [], _, [], hW', trodAll_mk1 (shut_bool Try.underlying4 _), (trodAll_cons_mk (Below.trod laidOut (by kernel_rfl) (of_decide_eq_true (by kernel_rfl)) k0 bel hlt0) trodAll_mk0), rfl, bel.frame _, fun h => by cases h⟩
theorem over : Rows.linkOrderRow.holds Try.pinned (OpenSpec.ofChange Rows.linkOrderSpec) :=
  OpenClaim.holds_of_wide 3 Try.f3 rfl rfl rfl rfl rfl rfl rfl ⟨rfl, rfl, rfl, rfl, rfl⟩ rfl rfl rfl rfl rfl (by kernel_rfl) Try.func3 (by kernel_rfl)
    (of_decide_eq_true (by kernel_rfl)) (by unfold Func.isWrapper; first | (rw [if_pos (by decide +kernel)]; kernel_rfl) | (rw [if_neg (by decide +kernel)]; exact ⟨rfl, rfl⟩))
    (fun os started H enc _ => lifted os started H enc)
end Go.Proofs.Ytbbacdaenpildaa.linkOrder
namespace Go.Proofs.Ytbbacdaenpildaa
theorem linkOrder_holds : Rows.LinkOrderSaid := linkOrder.over
#print axioms linkOrder_holds
end Go.Proofs.Ytbbacdaenpildaa
