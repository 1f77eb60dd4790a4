/- LinkNone answers true for every input: the row. No condition. -/
import Derived.Test.YtbbacdaenpildaaRows
import Derived.Test.YtbbacdaenpildaaXAnswers
import Derived.Test.YtbbacdaenpildaaXNone
import Derived.WalkKit
import Derived.ProofKit
import Derived.OpenShut
import Derived.ShutString
import Derived.ChangeOld
import Derived.Below
import Derived.Carry
import Derived.SizedLaws
import Derived.Lib.SmallJoins
namespace Go.Proofs.Ytbbacdaenpildaa.linkNone
open Go.ChangeShapes Go.WideShapes Go.ChangeAt Go.RowKit Go.Proofs.Ytbbacdaenpildaa.X
set_option linter.unusedVariables false
theorem own : ownKnob Try.prog.godebug = none := by kernel_rfl
theorem laidOut : laidOutB Try.prog = true := by kernel_rfl

section
variable {H : Type} {enc : TypeId × Value → H} {w : World} {base : Nat} {spare : Nat → Bool} {held : Bool}
/-- The cells of a message, out of its reading. -/
theorem open_msg_cells {fuel : Nat} {cs : List Value} {x : DataW H × List MemPlace} (h : DataW.trod enc Try.prog w base spare held fuel 36 cs = some x) :
    ∃ k a b c : Int, cs = [.int .i64 k, .int .i64 a, .int .i64 b, .int .i64 c] := by
  obtain ⟨xs, n, _, _, hl, hxl, hf⟩ := DataW.trod_struct Try.underlying36 h
  have hc : Try.prog.cellsOf 36 = 4 := by kernel_rfl
  have h1 : Try.prog.cellsOf 3 = 1 := by kernel_rfl
  rw [hc] at hl
  match cs, hl with
  | [c0, c1, c2, c3], _ =>
    match xs, hxl with
    | [y0, y1, y2, y3], _ =>
      have f0 : DataW.trod enc Try.prog w base spare held n 3 (List.take (Try.prog.cellsOf 3) (List.drop 0 [c0, c1, c2, c3])) = some y0 := hf 0 _ rfl
      have f1 : DataW.trod enc Try.prog w base spare held n 3 (List.take (Try.prog.cellsOf 3) (List.drop 1 [c0, c1, c2, c3])) = some y1 := hf 1 _ rfl
      have f2 : DataW.trod enc Try.prog w base spare held n 3 (List.take (Try.prog.cellsOf 3) (List.drop 2 [c0, c1, c2, c3])) = some y2 := hf 2 _ rfl
      have f3 : DataW.trod enc Try.prog w base spare held n 3 (List.take (Try.prog.cellsOf 3) (List.drop 3 [c0, c1, c2, c3])) = some y3 := hf 3 _ rfl
      rw [h1] at f0 f1 f2 f3
      obtain ⟨k, e0, _, _⟩ := DataW.trod_int Try.underlying3 f0
      obtain ⟨a, e1, _, _⟩ := DataW.trod_int Try.underlying3 f1
      obtain ⟨b, e2, _, _⟩ := DataW.trod_int Try.underlying3 f2
      obtain ⟨c, e3, _, _⟩ := DataW.trod_int Try.underlying3 f3
      simp at e0 e1 e2 e3
      exact ⟨k, a, b, c, by rw [e0, e1, e2, e3]⟩
theorem open_msg {r : Reach} {b0 : Nat} {v : Value} {d : DataW H} {p : List MemPlace} (hv : Value.okWide Try.prog w r b0 36 v) (h : DataW.Trod enc Try.prog w base spare held 36 v d p) :
    ∃ k a b c : Int, v = .agg #[.int .i64 k, .int .i64 a, .int .i64 b, .int .i64 c] := by
  obtain ⟨cs, rfl, _⟩ := okWide_struct Try.underlying36 hv
  obtain ⟨fuel, hf⟩ := h
  obtain ⟨k, a, b, c, e⟩ := open_msg_cells hf
  exact ⟨k, a, b, c, by simp [Value.cells] at e; rw [show cs = cs.toList.toArray by simp, e]⟩
theorem open_packet {r : Reach} {b0 : Nat} {v : Value} {d : DataW H} {p : List MemPlace} (hv : Value.okWide Try.prog w r b0 38 v) (h : DataW.Trod enc Try.prog w base spare held 38 v d p) :
    ∃ (s e q a k x y z : Int) (has : Bool), v = .agg #[.int .i64 s, .int .i64 e, .int .i64 q, .int .i64 a, .bool has, .int .i64 k, .int .i64 x, .int .i64 y, .int .i64 z] := by
  obtain ⟨cs, rfl, _⟩ := okWide_struct Try.underlying38 hv
  obtain ⟨fuel, hfu⟩ := h
  obtain ⟨xs, n, _, _, hl, hxl, hf⟩ := DataW.trod_struct Try.underlying38 hfu
  have hc : Try.prog.cellsOf 38 = 9 := by kernel_rfl
  have h1 : Try.prog.cellsOf 3 = 1 := by kernel_rfl
  have h2 : Try.prog.cellsOf 4 = 1 := by kernel_rfl
  have h3 : Try.prog.cellsOf 36 = 4 := by kernel_rfl
  rw [hc] at hl
  simp only [Value.cells] at hl hf
  obtain ⟨l⟩ := cs
  match l, hl with
  | [c0, c1, c2, c3, c4, c5, c6, c7, c8], _ =>
    match xs, hxl with
    | [y0, y1, y2, y3, y4, y5], _ =>
      have f0 : DataW.trod enc Try.prog w base spare held n 3 (List.take (Try.prog.cellsOf 3) (List.drop 0 [c0, c1, c2, c3, c4, c5, c6, c7, c8])) = some y0 := hf 0 _ rfl
      have f1 : DataW.trod enc Try.prog w base spare held n 3 (List.take (Try.prog.cellsOf 3) (List.drop 1 [c0, c1, c2, c3, c4, c5, c6, c7, c8])) = some y1 := hf 1 _ rfl
      have f2 : DataW.trod enc Try.prog w base spare held n 3 (List.take (Try.prog.cellsOf 3) (List.drop 2 [c0, c1, c2, c3, c4, c5, c6, c7, c8])) = some y2 := hf 2 _ rfl
      have f3 : DataW.trod enc Try.prog w base spare held n 3 (List.take (Try.prog.cellsOf 3) (List.drop 3 [c0, c1, c2, c3, c4, c5, c6, c7, c8])) = some y3 := hf 3 _ rfl
      have f4 : DataW.trod enc Try.prog w base spare held n 4 (List.take (Try.prog.cellsOf 4) (List.drop 4 [c0, c1, c2, c3, c4, c5, c6, c7, c8])) = some y4 := hf 4 _ rfl
      have f5 : DataW.trod enc Try.prog w base spare held n 36 (List.take (Try.prog.cellsOf 36) (List.drop 5 [c0, c1, c2, c3, c4, c5, c6, c7, c8])) = some y5 := hf 5 _ rfl
      rw [h1] at f0 f1 f2 f3
      rw [h2] at f4
      rw [h3] at f5
      obtain ⟨s, e0, _, _⟩ := DataW.trod_int Try.underlying3 f0
      obtain ⟨e, e1, _, _⟩ := DataW.trod_int Try.underlying3 f1
      obtain ⟨q, e2, _, _⟩ := DataW.trod_int Try.underlying3 f2
      obtain ⟨a, e3, _, _⟩ := DataW.trod_int Try.underlying3 f3
      obtain ⟨has, e4, _⟩ := DataW.trod_bool Try.underlying4 f4
      obtain ⟨k, x, y, z, e5⟩ := open_msg_cells f5
      simp at e0 e1 e2 e3 e4 e5
      obtain ⟨e5, e6, e7, e8⟩ := e5
      exact ⟨s, e, q, a, k, x, y, z, has, by rw [e0, e1, e2, e3, e4, e5, e6, e7, e8]⟩
end

set_option maxRecDepth 100000 in
theorem lifted (os : Os) (started : os.Started) (H : Type) (enc : TypeId × Value → H) :
    ReturnsInHanded {} Try.checked os 5 .any (Rows.linkNoneSpec.pre6 enc Try.prog Try.f5 Rows.linkNoneRow.domain false) (Rows.linkNoneSpec.post enc Try.prog Try.f5 false true false false) := by
  refine returnsInHanded_of_change_sized (C := Try.checked) own started (by kernel_rfl) Try.func5
    (ChangeSpec.witness6 (enc := enc) (C := Try.checked) false ⟨#[], #[.agg #[.int .i64 0, .int .i64 0, .int .i64 0, .int .i64 0], .agg #[.int .i64 0, .int .i64 0, .int .i64 0, .int .i64 0, .bool false, .int .i64 0, .int .i64 0, .int .i64 0, .int .i64 0], .int .i64 0], []⟩ 8 (by kernel_rfl) (by kernel_rfl) (by kernel_rfl) (by kernel_rfl)) ?_
  intro W base args ds gs before hval0 hW hcnd hsz0 _
  have hval : ∀ (j : Nat) t v, Try.f5.params[j]? = some t → args[j]? = some v → Value.okWide Try.prog W .any base t v := hval0
  have hW' := hW
  obtain ⟨p, q, hA0, hV, rfl, hfz, hnd⟩ := hW
  have hA : DataW.TrodAll enc Try.prog W 0 (fun _ => true) true Try.f5.params.toList args.toList ds p := hA0
  rw [Try.params5] at hA hval
  obtain ⟨v0, vs0, d0, ds0, p0, q0, hargs, rfl, rfl, h0, r0⟩ := trodAll_cons hA
  obtain ⟨v1, vs1, d1, ds1, p1, q1, rfl, rfl, rfl, h1, r1⟩ := trodAll_cons r0
  obtain ⟨v2, vs2, d2, ds2, p2, q2, rfl, rfl, rfl, h2, r2⟩ := trodAll_cons r1
  obtain ⟨rfl, rfl, rfl⟩ := trodAll_nil r2
  obtain rfl : args = #[v0, v1, v2] := by cases args; simp_all
  obtain ⟨rfl, rfl⟩ := trodVars_none hV
  have k0 := h0
  have k1 := h1
  have hlt0 : ∀ x ∈ p0, x.block < W.heap.size := fun x hx => hW'.lt x (by simp [hx])
  have hlt1 : ∀ x ∈ p1, x.block < W.heap.size := fun x hx => hW'.lt x (by simp [hx])
  obtain ⟨mk, ma, mb, mc, rfl⟩ := open_msg (hval 0 36 v0 rfl rfl) h0
  obtain ⟨s, e, sq, a, k, x, y, z, has, rfl⟩ := open_packet (hval 1 38 v1 rfl rfl) h1
  obtain ⟨a2, rfl, rfl, rfl, w2⟩ := open_int Try.underlying3 (hval 2 3 v2 rfl rfl) h2
  clear hA0 hval0 hsz0
  refine (linkNone_true answers_any mk ma mb mc s e sq a has k x y z a2 W).mono fun e W' ⟨he, bel⟩ => ?_
  subst he
  exact ⟨_, rfl, _, _, _, [], _, [], hW', trodAll_mk1 (shut_bool Try.underlying4 _), (trodAll_cons_mk (Below.trod laidOut (by kernel_rfl) (of_decide_eq_true (by kernel_rfl)) k0 bel hlt0) (trodAll_cons_mk (Below.trod laidOut (by kernel_rfl) (of_decide_eq_true (by kernel_rfl)) k1 bel hlt1) (trodAll_cons_mk (shut_int Try.underlying3 w2) trodAll_mk0))), rfl, bel.frame _, fun h => by cases h⟩
theorem over : Rows.linkNoneRow.holds Try.pinned (OpenSpec.ofChange Rows.linkNoneSpec) :=
  OpenClaim.holds_of_wide 5 Try.f5 rfl rfl rfl rfl rfl rfl rfl ⟨rfl, rfl, rfl, rfl, rfl⟩ rfl rfl rfl rfl rfl (by kernel_rfl) Try.func5 (by kernel_rfl)
    (of_decide_eq_true (by kernel_rfl)) (by unfold Func.isWrapper; first | (rw [if_pos (by decide +kernel)]; kernel_rfl) | (rw [if_neg (by decide +kernel)]; exact ⟨rfl, rfl⟩))
    (fun os started H enc _ => lifted os started H enc)
end Go.Proofs.Ytbbacdaenpildaa.linkNone
namespace Go.Proofs.Ytbbacdaenpildaa
theorem linkNone_holds : Rows.LinkNoneSaid := linkNone.over
#print axioms linkNone_holds
end Go.Proofs.Ytbbacdaenpildaa
