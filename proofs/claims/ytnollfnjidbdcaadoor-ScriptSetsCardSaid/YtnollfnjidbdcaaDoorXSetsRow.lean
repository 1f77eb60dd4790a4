/- ScriptSets answers true for every setting and every string: the row and the tied card. No condition: the variables of the library that it lists are tied to the program's text. -/
import Derived.Test.YtnollfnjidbdcaaDoorCards
import Derived.Test.YtnollfnjidbdcaaDoorTie
import Derived.Test.YtnollfnjidbdcaaDoorXSets
import Derived.ChangeMaps5
import Derived.SizedLaws
import Derived.Test.YtnollfnjidbdcaaDoorXRowKit
import Derived.SevenTiedAt
namespace Go.Proofs.YtnollfnjidbdcaaDoor.scriptSets
open Go Go.ChangeShapes Go.WideShapes Go.ChangeAt Go.RowKit Go.Proofs.YtnollfnjidbdcaaDoor.X
set_option linter.unusedVariables false

section
variable {H : Type} {enc : TypeId × Value → H}
set_option maxRecDepth 100000 in
theorem fields_cfg : ((List.range 18).all fun i => match (Tryd.prog.fieldsOf 23)[i]? with | some f => f.type == 3 && f.offset == i | none => false) = true := by kernel_rfl
set_option maxRecDepth 100000 in
theorem open_cfg {W : World} {r : Reach} {b0 : Nat} {sp : Nat → Bool} {held : Bool} {v : Value} {d : DataW H} {p : List MemPlace} (hv : Value.okWide Tryd.prog W r b0 23 v) (h : DataW.Trod enc Tryd.prog W 0 sp held 23 v d p) :
    ∃ f : Nat → Int, v = .agg (cfgA f) ∧ ∀ k, i64ok (f k) := by
  obtain ⟨cs, rfl, hsz⟩ := okWide_struct fields23 hv
  have hc23 : Tryd.prog.cellsOf 23 = 18 := by kernel_rfl
  have hc3 : Tryd.prog.cellsOf 3 = 1 := by kernel_rfl
  rw [hc23] at hsz
  obtain ⟨fuel, hf⟩ := h
  obtain ⟨ys, n, _, _, hl, hyl, hg⟩ := DataW.trod_struct fields23 hf
  have hys : (Tryd.prog.fieldsOf 23).size = 18 := by kernel_rfl
  have each : ∀ i, i < 18 → ∃ z : Int, cs[i]? = some (.int .i64 z) ∧ i64ok z := by
    intro i hi
    have h1 := List.all_eq_true.1 fields_cfg i (List.mem_range.2 hi)
    cases hfi : (Tryd.prog.fieldsOf 23)[i]? with
    | none => rw [hfi] at h1; cases h1
    | some f =>
      rw [hfi] at h1
      simp only [Bool.and_eq_true, beq_iff_eq] at h1
      have h2 := hg i f hfi
      rw [h1.1, h1.2, hc3, List.getElem?_eq_getElem (by rw [hyl, hys]; exact hi)] at h2
      obtain ⟨z, e, _, wf⟩ := DataW.trod_int Tryd.underlying3 h2
      refine ⟨z, ?_, ?_⟩
      · have h3 := congrArg (fun l : List Value => l[0]?) e
        simp only [List.getElem?_take, List.getElem?_drop] at h3
        simpa [Value.cells] using h3
      · have e3 : IntKind.i64.min = -9223372036854775808 := rfl
        have e4 : IntKind.i64.max = 9223372036854775807 := rfl
        simpa [Lit.wf, e3, e4, i64ok] using wf
  obtain ⟨f, hf'⟩ := choose_all each
  refine ⟨fun k => if k < 18 then f k else 0, ?_, fun k => ?_⟩
  · congr 1
    apply Array.ext_getElem?
    intro i
    by_cases hi : i < 18
    · rw [(hf' i hi).1, cfgA_get _ i hi, if_pos hi]
    · rw [Array.getElem?_eq_none (by omega), Array.getElem?_eq_none (by show 18 ≤ i; omega)]
  · show i64ok (if k < 18 then f k else 0)
    split
    · rename_i hk; exact (hf' k hk).2
    · simp [i64ok]
end

set_option maxRecDepth 100000 in
theorem lifted (os : Os) (started : os.Started) (H : Type) (enc : TypeId × Value → H) :
    ReturnsInHanded {} Tryd.checked os 3 .any (fun w args => (Rows.scriptSetsSpec.pre enc Tryd.prog Tryd.f3 [] false w args ∧ laidMetH Tryd.prog laidL w) ∧ sizedMet enc Tryd.prog Tryd.f3 (OpenSpec.ofChange Rows.scriptSetsSpec) false w args)
      (Rows.scriptSetsSpec.post enc Tryd.prog Tryd.f3 false true false false) := by
  refine returns_laid started (by kernel_rfl) Tryd.func3
    (ChangeSpec.witness_shaped (enc := enc) (C := Tryd.checked) (os := os) (X := fun w _ => laidMetH Tryd.prog laidL w) false (World.laidAll Tryd.prog os laidL) #[.agg zs18, .string ⟨#[]⟩] 8 (World.laidAll_os _ _ _)
      (world_shaped os _) (by kernel_rfl) (by kernel_rfl) (by kernel_rfl) (by rw [plainL]; exact world_met os _)) ?_
  intro W args ds gs before base hval0 hW hsz0 hE
  have hval : ∀ (j : Nat) t v, Tryd.f3.params[j]? = some t → args[j]? = some v → Value.okWide Tryd.prog W .any base t v := hval0
  have hW' := hW
  obtain ⟨p, q, hA0, hV, rfl, hfz, hnd⟩ := hW
  have hA : DataW.TrodAll enc Tryd.prog W 0 (fun _ => true) true Tryd.f3.params.toList args.toList ds p := hA0
  rw [Tryd.params3] at hA hval
  obtain ⟨v0, vs0, d0, ds0, p0, q0, hargs, rfl, rfl, h0, r0⟩ := trodAll_cons hA
  obtain ⟨v1, vs1, d1, ds1, p1, q1, rfl, rfl, rfl, h1, r1⟩ := trodAll_cons r0
  obtain ⟨rfl, rfl, rfl⟩ := trodAll_nil r1
  obtain rfl : args = #[v0, v1] := by cases args; simp_all
  obtain ⟨rfl, rfl⟩ := trodVars_none hV
  have k0 := h0
  have k1 := h1
  have hlt0 : ∀ x ∈ p0, x.block < W.heap.size := fun x hx => hW'.lt x (by simp [hx])
  have hlt1 : ∀ x ∈ p1, x.block < W.heap.size := fun x hx => hW'.lt x (by simp [hx])
  obtain ⟨f, rfl, hf⟩ := open_cfg (hval 0 23 v0 rfl rfl) h0
  obtain ⟨s, rfl, rfl, rfl, ws⟩ := Go.ChangeMaps.open_string Tryd.underlying9 (hval 1 9 v1 rfl rfl) h1
  clear hA0 hval0
  refine (sets_any f hf s (by unfold maxLen at ws; omega) W hE).mono fun e W' ⟨he, bel⟩ => ?_
  subst he
  exact ⟨_, rfl, _, _, _, [], _, [], hW', trodAll_mk1 (shut_bool Tryd.underlying4 _), (trodAll_cons_mk (Below.trod laidOut (by kernel_rfl) (of_decide_eq_true (by kernel_rfl)) k0 bel hlt0) (trodAll_cons_mk (Below.trod laidOut (by kernel_rfl) (of_decide_eq_true (by kernel_rfl)) k1 bel hlt1) trodAll_mk0)), rfl, bel.frame _, fun h => by cases h⟩
theorem over : Rows.scriptSetsRow.holds Tryd.pinned (OpenSpec.ofChange Rows.scriptSetsSpec) :=
  OpenClaim.holds_of_wide 3 Tryd.f3 rfl rfl rfl rfl rfl rfl rfl ⟨rfl, rfl, rfl, rfl, rfl⟩ rfl rfl rfl rfl rfl (by kernel_rfl) Tryd.func3 (by kernel_rfl)
    (of_decide_eq_true (by kernel_rfl)) (by unfold Func.isWrapper; first | (rw [if_pos (by decide +kernel)]; kernel_rfl) | (rw [if_neg (by decide +kernel)]; exact ⟨rfl, rfl⟩))
    (fun os started H enc _ => lifted os started H enc)
end Go.Proofs.YtnollfnjidbdcaaDoor.scriptSets
namespace Go.Proofs.YtnollfnjidbdcaaDoor
theorem scriptSets_holds : Rows.ScriptSetsCardSaid :=
  Claim7.holds_tied_plain_at .later [] [.data, .data, .data, .data, .sentinel, .sentinel, .pinned] true (true, "137a4aefc27b197dfd04400808ea40496e2439bafc124ea3ea6f431a6a9ee0af") true
    scriptSets.over (fun _ h => by cases h) (by kernel_rfl) (fun _ h => by cases h) scriptSets_row_tie rfl ⟨rfl, rfl⟩ (by kernel_rfl) rfl
    (fun f fn hf hfn => by
      obtain rfl : f = 3 := Option.some.inj ((show Tryd.prog.funcNamed "liftwell/liftwelllaw24.ScriptSets" = some 3 by kernel_rfl).symm.trans hf) |>.symm
      obtain rfl : fn = Tryd.f3 := (Option.some.inj (Tryd.func3.symm.trans hfn)).symm
      exact ⟨by kernel_rfl, fun j t ht => by
        rw [Tryd.params3] at ht
        have hm : t ∈ [23, 9] := by simpa using Array.mem_of_getElem? ht
        have hall : ([23, 9].all fun u => !Tryd.prog.wantsStandIn u) = true := by kernel_rfl
        exact (show Tryd.prog.wantsStandIn t = false by simpa using List.all_eq_true.1 hall t hm)⟩)
    (by kernel_rfl)
#print axioms scriptSets_holds
end Go.Proofs.YtnollfnjidbdcaaDoor
