/- The rows' wrap: what is listed, and the world's shape. -/
import Derived.Test.YtnollfnjidbdcaaDoorXOpen
import Derived.Handed
namespace Go.Proofs.YtnollfnjidbdcaaDoor.X
open Go Go.ChangeShapes Go.WideShapes Go.ChangeAt Go.RowKit
set_option linter.unusedSimpArgs false
set_option linter.unusedVariables false
variable {H : Type} {enc : TypeId × Value → H}

theorem laid_heap {w w' : World} (hh : w.heap = w'.heap) (h : laidMetH Tryd.prog laidL w) : laidMetH Tryd.prog laidL w' := h.of_heap hh
theorem memory_heap (w : World) : w.memory.heap = w.heap := rfl
set_option maxRecDepth 100000 in
theorem returns_laid {os : Os} {f : FuncId} {fn : Func} {s : ChangeSpec} {conds : List PathCond} {apart fresh handsOn again : Bool}
    (started : os.Started) (noInit : Tryd.checked.prog.inits.idxOf? f = none) (hfn : Tryd.checked.prog.funcs[f]? = some fn)
    (witness : ∃ (w : World) (tape : Tape) (i : Input), w.os = os ∧ (w.forCall tape i).Shaped Tryd.checked.prog ∧ i.vars = [] ∧ Input.okWide Tryd.checked.prog (w.forCall tape i) .any w.heap.size f i ∧
      ((s.pre enc Tryd.checked.prog fn conds apart (w.forCall tape i).memory i.args ∧ laidMetH Tryd.prog laidL (w.forCall tape i).memory) ∧ sizedMet enc Tryd.checked.prog fn (OpenSpec.ofChange s) apart (w.forCall tape i).memory i.args) ∧ ({} : Assume).holds Tryd.checked.prog (lone (Frame.enter Tryd.checked.prog f i.args .normal) [] (w.forCall tape i)))
    (contract : ∀ (W : World) (args : Array Value) (ds gs : List (DataW H)) (before : List MemPlace) (base : Nat),
      (∀ (j : Nat) t v, fn.params[j]? = some t → args[j]? = some v → Value.okWide Tryd.checked.prog W .any base t v) →
      DataW.Whole enc Tryd.checked.prog fn.params.toList s.vars apart W args.toList ds gs before →
      (DataW.weightsEach Tryd.checked.prog (fn.params.toList ++ s.plain.varTypes Tryd.checked.prog) (ds ++ gs)).all (· ≤ reachBytes) = true → Env W →
      Calls Tryd.checked.prog f args W fun e W' => ∃ v, e = .returned v ∧ s.post enc Tryd.checked.prog fn apart fresh handsOn again W args v W') :
    ReturnsInHanded {} Tryd.checked os f .any (fun w args => (s.pre enc Tryd.checked.prog fn conds apart w args ∧ laidMetH Tryd.prog laidL w) ∧ sizedMet enc Tryd.checked.prog fn (OpenSpec.ofChange s) apart w args) (s.post enc Tryd.checked.prog fn apart fresh handsOn again) := by
  refine returnsInHanded_of_calls own started noInit witness ?_
  intro w tape i _ hsh _ hok hpre hholds
  obtain ⟨_, _, _, fn', hfn', _, _, _, _, hval⟩ := hok
  have e : fn' = fn := Option.some.inj (hfn'.symm.trans hfn)
  subst e
  obtain ⟨⟨⟨ds, gs, before, hw, hc⟩, hx⟩, hz⟩ := hpre
  have hw' := DataW.Whole.of_heap (w' := w.forCall tape i) (by rfl) hw
  have hx' : laidMetH Tryd.prog laidL (w.forCall tape i) := laid_heap (memory_heap _) hx
  refine (contract (w.forCall tape i) i.args ds gs before w.heap.size hval hw' (hz.weights hw) (env_of hx' hsh)).mono fun e W' ⟨v, he, hp⟩ => ?_
  subst he
  exact ChangeSpec.post_blind hp
end Go.Proofs.YtnollfnjidbdcaaDoor.X
