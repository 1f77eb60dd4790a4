/- LinkAll answers true for every input: the row. No condition. -/
import Derived.Test.YtbbacdaenpildaaRows
import Derived.Test.YtbbacdaenpildaaXAnswers
import Derived.Test.YtbbacdaenpildaaXAll
import Derived.WalkKit
import Derived.Deep.Grids
import Derived.ProofKit
import Derived.OpenShut
import Derived.ShutString
import Derived.ChangeOld
import Derived.Below
import Derived.Carry
import Derived.SizedLaws
import Derived.Lib.SmallJoins
namespace Go.Proofs.Ytbbacdaenpildaa.linkAll
open Go.ChangeShapes Go.WideShapes Go.ChangeAt Go.RowKit Go.Proofs.Ytbbacdaenpildaa.X
set_option linter.unusedVariables false
theorem own : ownKnob Try.prog.godebug = none := by kernel_rfl
theorem laidOut : laidOutB Try.prog = true := by kernel_rfl

set_option maxRecDepth 100000 in
theorem lifted (os : Os) (started : os.Started) (H : Type) (enc : TypeId × Value → H) :
    ReturnsInHanded {} Try.checked os 4 .any (Rows.linkAllSpec.pre6 enc Try.prog Try.f4 Rows.linkAllRow.domain false) (Rows.linkAllSpec.post enc Try.prog Try.f4 false true false false) := by
  refine returnsInHanded_of_change_sized (C := Try.checked) own started (by kernel_rfl) Try.func4
    (ChangeSpec.witness6 (enc := enc) (C := Try.checked) false ⟨#[], #[.slice none 0 0, .int .u8 0], []⟩ 8 (by kernel_rfl) (by kernel_rfl) (by kernel_rfl) (by kernel_rfl)) ?_
  intro W base args ds gs before hval0 hW hcnd hsz0 _
  have hval : ∀ (j : Nat) t v, Try.f4.params[j]? = some t → args[j]? = some v → Value.okWide Try.prog W .any base t v := hval0
  have hW' := hW
  obtain ⟨p, q, hA0, hV, rfl, hfz, hnd⟩ := hW
  have hA : DataW.TrodAll enc Try.prog W 0 (fun _ => true) true Try.f4.params.toList args.toList ds p := hA0
  rw [Try.params4] at hA hval
  obtain ⟨v0, vs0, d0, ds0, p0, q0, hargs, rfl, rfl, h0, r0⟩ := trodAll_cons hA
  obtain ⟨v1, vs1, d1, ds1, p1, q1, rfl, rfl, rfl, h1, r1⟩ := trodAll_cons r0
  obtain ⟨rfl, rfl, rfl⟩ := trodAll_nil r1
  obtain rfl : args = #[v0, v1] := by cases args; simp_all
  obtain ⟨rfl, rfl⟩ := trodVars_none hV
  have k0 := h0
  have hlt0 : ∀ x ∈ p0, x.block < W.heap.size := fun x hx => hW'.lt x (by simp [hx])
  obtain ⟨fuel, hf⟩ := h0
  obtain ⟨xa0, xl0, xc0, rfl⟩ := okWide_slice Try.underlying47 (hval 0 47 v0 rfl rfl)
  obtain ⟨a1, rfl, rfl, rfl, w1⟩ := open_int Try.underlying5 (hval 1 5 v1 rfl rfl) h1
  clear hA0 hval0
  have w1' := w1
  obtain ⟨n, rfl, hn⟩ : ∃ n : Nat, a1 = n ∧ n < 256 := by
    simp [Lit.wf, IntKind.min, IntKind.max, IntKind.signed, IntKind.bits] at w1
    exact ⟨a1.toNat, by omega, by omega⟩
  have run : ∃ (xa : Option Addr) (xb xo T xl : Nat) (f : Nat → Bool), Value.slice xa0 xl0 xc0 = .slice xa T xl ∧ T ≤ 140737488355328 ∧ (0 < T → xa = some ⟨xb, xo, none⟩) ∧ (∀ j, j < T → W.cell? ⟨xb, xo + j, none⟩ = some (.bool (f j))) := by
    rcases Go.Deep.open_bools Try.underlying47 Try.underlying4 (by kernel_rfl) hf with ⟨e, _⟩ | ⟨a, len, cap, B, e, _, hl, hm, hx, hB⟩
    · exact ⟨none, 0, 0, 0, 0, fun _ => false, by simpa [Value.cells] using e, by omega, by omega, by omega⟩
    · obtain ⟨xb, xo, spot⟩ := a
      simp only [Prod.mk.injEq] at hx
      have hsz := sized_slice hsz0 (j := 0) (t := 47) (e := 4) (elems := (List.range len).map fun i => .lit (.bool (B i))) (spare := (List.range (cap - len)).map fun j => .lit (.bool (B (len + j)))) rfl (by rw [hx.1]; rfl) Try.underlying47
      have hb : Try.checked.prog.bytesOf 4 = 1 := by kernel_rfl
      rw [hb] at hsz
      simp only [List.length_map, List.length_range] at hsz
      have hrb := reachBytes_lt
      refine ⟨some ⟨xb, xo, spot⟩, xb, xo, len, cap, B, by simpa [Value.cells] using e, by omega, fun h => ?_, fun j hj => ?_⟩
      · have hspot : spot = none := by simpa [Addr.add] using World.cell?_spot (hB 0 (by omega))
        rw [hspot]
      · have hspot : spot = none := by simpa [Addr.add] using World.cell?_spot (hB 0 (by omega))
        subst hspot
        have h := hB j (by omega)
        by_cases h0 : j = 0
        · subst h0; simpa [Addr.add] using h
        · simpa [Addr.add, h0] using h
  obtain ⟨xa, xb, xo, T, xl, f, hv, hT, hxa, hy⟩ := run
  rw [hv] at k0 hW' ⊢
  refine (linkAll_true W xa xb xo T xl f hT hxa hy n hn).mono fun e W' ⟨he, bel⟩ => ?_
  subst he
  exact ⟨_, rfl, _, _, _, [], _, [], hW', trodAll_mk1 (shut_bool Try.underlying4 _), (trodAll_cons_mk (Below.trod laidOut (by kernel_rfl) (of_decide_eq_true (by kernel_rfl)) k0 bel hlt0) (trodAll_cons_mk (shut_int Try.underlying5 w1') trodAll_mk0)), rfl, bel.frame _, fun h => by cases h⟩
theorem over : Rows.linkAllRow.holds Try.pinned (OpenSpec.ofChange Rows.linkAllSpec) :=
  OpenClaim.holds_of_wide 4 Try.f4 rfl rfl rfl rfl rfl rfl rfl ⟨rfl, rfl, rfl, rfl, rfl⟩ rfl rfl rfl rfl rfl (by kernel_rfl) Try.func4 (by kernel_rfl)
    (of_decide_eq_true (by kernel_rfl)) (by unfold Func.isWrapper; first | (rw [if_pos (by decide +kernel)]; kernel_rfl) | (rw [if_neg (by decide +kernel)]; exact ⟨rfl, rfl⟩))
    (fun os started H enc _ => lifted os started H enc)
end Go.Proofs.Ytbbacdaenpildaa.linkAll
namespace Go.Proofs.Ytbbacdaenpildaa
theorem linkAll_holds : Rows.LinkAllSaid := linkAll.over
#print axioms linkAll_holds
end Go.Proofs.Ytbbacdaenpildaa
