/- ScriptJoins answers true for any two slices of steps and every string: the row and the tied card. No condition: the variables of the library that it lists are tied to the program's text. -/
import Derived.Test.YtnollfnjidbdcaaDoorCards
import Derived.Test.YtnollfnjidbdcaaDoorTie
import Derived.Test.YtnollfnjidbdcaaDoorXJoins
import Derived.ChangeMaps5
import Derived.SizedLaws
import Derived.Test.YtnollfnjidbdcaaDoorXRowKit
import Derived.SevenTiedAt
namespace Go.Proofs.YtnollfnjidbdcaaDoor.scriptJoins
open Go Go.ChangeShapes Go.WideShapes Go.ChangeAt Go.RowKit Go.Proofs.YtnollfnjidbdcaaDoor.X
set_option linter.unusedVariables false

section
variable {H : Type} {enc : TypeId × Value → H}
theorem open_slic {W : World} {sp : Nat → Bool} {fuel : Nat} {u : Value} {d : DataW H} {pl : List MemPlace} (h : DataW.trod enc Tryd.prog W 0 sp true fuel 29 [u] = some (d, pl)) : Slic u := by
  rcases Go.Deep.open_slice Tryd.underlying29 h with ⟨e, _⟩ | ⟨a, len, cap, m, n, D, Pl, e, _⟩
  · exact .inl (by simpa using e)
  · exact .inr ⟨a, len, cap, by simpa using e⟩
end

set_option maxRecDepth 100000 in
theorem lifted (os : Os) (started : os.Started) (H : Type) (enc : TypeId × Value → H) :
    ReturnsInHanded {} Tryd.checked os 4 .any (fun w args => (Rows.scriptJoinsSpec.pre enc Tryd.prog Tryd.f4 [] false w args ∧ laidMetH Tryd.prog laidL w) ∧ sizedMet enc Tryd.prog Tryd.f4 (OpenSpec.ofChange Rows.scriptJoinsSpec) false w args)
      (Rows.scriptJoinsSpec.post enc Tryd.prog Tryd.f4 false true false false) := by
  refine returns_laid started (by kernel_rfl) Tryd.func4
    (ChangeSpec.witness_shaped (enc := enc) (C := Tryd.checked) (os := os) (X := fun w _ => laidMetH Tryd.prog laidL w) false (World.laidAll Tryd.prog os laidL) #[.slice none 0 0, .slice none 0 0, .string ⟨#[]⟩] 8 (World.laidAll_os _ _ _)
      (world_shaped os _) (by kernel_rfl) (by kernel_rfl) (by kernel_rfl) (by rw [plainL]; exact world_met os _)) ?_
  intro W args ds gs before base hval0 hW hsz0 hE
  have hval : ∀ (j : Nat) t v, Tryd.f4.params[j]? = some t → args[j]? = some v → Value.okWide Tryd.prog W .any base t v := hval0
  have hW' := hW
  obtain ⟨p, q, hA0, hV, rfl, hfz, hnd⟩ := hW
  have hA : DataW.TrodAll enc Tryd.prog W 0 (fun _ => true) true Tryd.f4.params.toList args.toList ds p := hA0
  rw [Tryd.params4] at hA hval
  obtain ⟨v0, vs0, d0, ds0, p0, q0, hargs, rfl, rfl, h0, r0⟩ := trodAll_cons hA
  obtain ⟨v1, vs1, d1, ds1, p1, q1, rfl, rfl, rfl, h1, r1⟩ := trodAll_cons r0
  obtain ⟨v2, vs2, d2, ds2, p2, q2, rfl, rfl, rfl, h2, r2⟩ := trodAll_cons r1
  obtain ⟨rfl, rfl, rfl⟩ := trodAll_nil r2
  obtain rfl : args = #[v0, v1, v2] := by cases args; simp_all
  obtain ⟨rfl, rfl⟩ := trodVars_none hV
  have k0 := h0
  have k1 := h1
  have k2 := h2
  have hlt0 : ∀ x ∈ p0, x.block < W.heap.size := fun x hx => hW'.lt x (by simp [hx])
  have hlt1 : ∀ x ∈ p1, x.block < W.heap.size := fun x hx => hW'.lt x (by simp [hx])
  have hlt2 : ∀ x ∈ p2, x.block < W.heap.size := fun x hx => hW'.lt x (by simp [hx])
  obtain ⟨fuel0, hf0⟩ := h0
  obtain ⟨fuel1, hf1⟩ := h1
  obtain ⟨xa0, xl0, xc0, rfl⟩ := okWide_slice Tryd.underlying29 (hval 0 29 v0 rfl rfl)
  obtain ⟨xa1, xl1, xc1, rfl⟩ := okWide_slice Tryd.underlying29 (hval 1 29 v1 rfl rfl)
  obtain ⟨s, rfl, rfl, rfl, ws⟩ := Go.ChangeMaps.open_string Tryd.underlying9 (hval 2 9 v2 rfl rfl) h2
  clear hA0 hval0
  obtain ⟨xs, hst, hd, hok⟩ := open_steps (u := .slice xa0 xl0 xc0) (by simpa [Value.cells] using hf0) (fun n hn => by
    have := List.all_eq_true.1 hsz0 n (DataW.weights_mem_each (j := 0) (t := 29) rfl rfl n hn)
    simpa using this)
  obtain ⟨ys, hst1, hd1, hok1⟩ := open_steps (u := .slice xa1 xl1 xc1) (by simpa [Value.cells] using hf1) (fun n hn => by
    have := List.all_eq_true.1 hsz0 n (DataW.weights_mem_each (j := 1) (t := 29) rfl rfl n hn)
    simpa using this)
  have s0 := open_slic (u := .slice xa0 xl0 xc0) (by simpa [Value.cells] using hf0)
  have s1 := open_slic (u := .slice xa1 xl1 xc1) (by simpa [Value.cells] using hf1)
  refine (joins_any _ _ xs ys hd hd1 hok hok1 s0 s1 s (by unfold maxLen at ws; omega) W hE hst hst1).mono fun e W' ⟨he, bel⟩ => ?_
  subst he
  exact ⟨_, rfl, _, _, _, [], _, [], hW', trodAll_mk1 (shut_bool Tryd.underlying4 _), (trodAll_cons_mk (Below.trod laidOut (by kernel_rfl) (of_decide_eq_true (by kernel_rfl)) k0 bel hlt0) (trodAll_cons_mk (Below.trod laidOut (by kernel_rfl) (of_decide_eq_true (by kernel_rfl)) k1 bel hlt1) (trodAll_cons_mk (Below.trod laidOut (by kernel_rfl) (of_decide_eq_true (by kernel_rfl)) k2 bel hlt2) trodAll_mk0))), rfl, bel.frame _, fun h => by cases h⟩
theorem over : Rows.scriptJoinsRow.holds Tryd.pinned (OpenSpec.ofChange Rows.scriptJoinsSpec) :=
  OpenClaim.holds_of_wide 4 Tryd.f4 rfl rfl rfl rfl rfl rfl rfl ⟨rfl, rfl, rfl, rfl, rfl⟩ rfl rfl rfl rfl rfl (by kernel_rfl) Tryd.func4 (by kernel_rfl)
    (of_decide_eq_true (by kernel_rfl)) (by unfold Func.isWrapper; first | (rw [if_pos (by decide +kernel)]; kernel_rfl) | (rw [if_neg (by decide +kernel)]; exact ⟨rfl, rfl⟩))
    (fun os started H enc _ => lifted os started H enc)
end Go.Proofs.YtnollfnjidbdcaaDoor.scriptJoins
namespace Go.Proofs.YtnollfnjidbdcaaDoor
theorem scriptJoins_holds : Rows.ScriptJoinsCardSaid :=
  Claim7.holds_tied_plain_at .later [] [.data, .data, .data, .data, .sentinel, .sentinel, .pinned] true (true, "137a4aefc27b197dfd04400808ea40496e2439bafc124ea3ea6f431a6a9ee0af") true
    scriptJoins.over (fun _ h => by cases h) (by kernel_rfl) (fun _ h => by cases h) scriptJoins_row_tie rfl ⟨rfl, rfl⟩ (by kernel_rfl) rfl
    (fun f fn hf hfn => by
      obtain rfl : f = 4 := Option.some.inj ((show Tryd.prog.funcNamed "liftwell/liftwelllaw24.ScriptJoins" = some 4 by kernel_rfl).symm.trans hf) |>.symm
      obtain rfl : fn = Tryd.f4 := (Option.some.inj (Tryd.func4.symm.trans hfn)).symm
      exact ⟨by kernel_rfl, fun j t ht => by
        rw [Tryd.params4] at ht
        have hm : t ∈ [29, 29, 9] := by simpa using Array.mem_of_getElem? ht
        have hall : ([29, 29, 9].all fun u => !Tryd.prog.wantsStandIn u) = true := by kernel_rfl
        exact (show Tryd.prog.wantsStandIn t = false by simpa using List.all_eq_true.1 hall t hm)⟩)
    (by kernel_rfl)
#print axioms scriptJoins_holds
end Go.Proofs.YtnollfnjidbdcaaDoor
