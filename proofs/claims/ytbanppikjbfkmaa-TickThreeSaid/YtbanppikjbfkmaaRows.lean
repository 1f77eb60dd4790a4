/-
  No cell of these rows narrows 'for every input' (looked for: loops, veiled, ifaces, maps, wideKeys, modest, calm, conditions, laid).
  DERIVED. THE GIVEN ROWS OF THIS SEAT. 6 by the template 'for every input the law returns true; each argument reads behind the call as it read before'; 0 by the template 'total and deterministic' (their statements: YtbanppikjbfkmaaTotals.lean).
  GIVEN WITH THE SEED: the statements are not yours to turn. If you find one false, say at which input.
  Laid BY PROGRAM, IN A SANDBOX (cutbox-rows.mjs): the forced cells as the released guide's own fill.sh prints them over the translation d954fcbb43f9ca25… (all of the seat's roots in one cut). By AI agents, Wed Nov 11 2026. No macro, syntax, notation, axiom, sorry.
-/
import Derived.Test.YtbanppikjbfkmaaChecked
import GoSem.Claim
import GoSem.ClaimJoined
import GoSem.ClaimMapViews
import Derived.JoinedTies
import Derived.KernelRfl
namespace Go.Proofs.Ytbanppikjbfkmaa
/- THE CELL 'sum', in the pinned program and in every row, IS THE sha256 OF THE DUMP (.gsa) THAT YtbanppikjbfkmaaProg.lean LOADS. Nothing in Lean hashes anything: it is a label: what it is worth is what the hold of that sum in a sandbox is worth. -/
noncomputable def Try.pinned : Pinned := { name := "ytbanppikjbfkmaa", sum := "d954fcbb43f9ca2521b97d729c13c7eb76dbe9a4935cbbacbd2217c5456933b6", checked := Try.checked }
namespace Rows
def none {H : Type} : Left H := { results := [], args := [] }

/-- 'liftwelllaw05.SerialNear': WHATEVER THE INPUT: true; the input reads as it did. -/
def serialNearSpec : ChangeSpec := { name := "serialNear", fn := fun _ => fun
  | [d1, d2] => { results := [.lit (.bool true)], args := [d1, d2] }
  | _ => none }
def serialNearRow : OpenClaim := { program := "ytbanppikjbfkmaa", sum := "d954fcbb43f9ca2521b97d729c13c7eb76dbe9a4935cbbacbd2217c5456933b6", func := "liftwell/liftwelllaw05.SerialNear", spec := "serialNear", apart := false }
def SerialNearSaid : Prop := serialNearRow.holds Try.pinned (OpenSpec.ofChange serialNearSpec)

/-- ITS FALSE NEIGHBOUR: 'it returns false'. Refute it at one input. -/
def serialNearWrong : ChangeSpec := { name := "serialNear", fn := fun _ => fun
  | [d1, d2] => { results := [.lit (.bool false)], args := [d1, d2] }
  | _ => none }
def SerialNearWrongFalsely : Prop := serialNearRow.holds Try.pinned (OpenSpec.ofChange serialNearWrong)

/-- 'liftwelllaw05.SerialSteps': WHATEVER THE INPUT: true; the input reads as it did. -/
def serialStepsSpec : ChangeSpec := { name := "serialSteps", fn := fun _ => fun
  | [d1, d2] => { results := [.lit (.bool true)], args := [d1, d2] }
  | _ => none }
def serialStepsRow : OpenClaim := { program := "ytbanppikjbfkmaa", sum := "d954fcbb43f9ca2521b97d729c13c7eb76dbe9a4935cbbacbd2217c5456933b6", func := "liftwell/liftwelllaw05.SerialSteps", spec := "serialSteps", apart := false }
def SerialStepsSaid : Prop := serialStepsRow.holds Try.pinned (OpenSpec.ofChange serialStepsSpec)

/-- ITS FALSE NEIGHBOUR: 'it returns false'. Refute it at one input. -/
def serialStepsWrong : ChangeSpec := { name := "serialSteps", fn := fun _ => fun
  | [d1, d2] => { results := [.lit (.bool false)], args := [d1, d2] }
  | _ => none }
def SerialStepsWrongFalsely : Prop := serialStepsRow.holds Try.pinned (OpenSpec.ofChange serialStepsWrong)

/-- 'liftwelllaw01.TickCounts': WHATEVER THE INPUT: true; the input reads as it did. -/
def tickCountsSpec : ChangeSpec := { name := "tickCounts", fn := fun _ => fun
  | [d1, d2] => { results := [.lit (.bool true)], args := [d1, d2] }
  | _ => none }
def tickCountsRow : OpenClaim := { program := "ytbanppikjbfkmaa", sum := "d954fcbb43f9ca2521b97d729c13c7eb76dbe9a4935cbbacbd2217c5456933b6", func := "liftwell/liftwelllaw01.TickCounts", spec := "tickCounts", apart := false }
def TickCountsSaid : Prop := tickCountsRow.holds Try.pinned (OpenSpec.ofChange tickCountsSpec)

/-- ITS FALSE NEIGHBOUR: 'it returns false'. Refute it at one input. -/
def tickCountsWrong : ChangeSpec := { name := "tickCounts", fn := fun _ => fun
  | [d1, d2] => { results := [.lit (.bool false)], args := [d1, d2] }
  | _ => none }
def TickCountsWrongFalsely : Prop := tickCountsRow.holds Try.pinned (OpenSpec.ofChange tickCountsWrong)

/-- 'liftwelllaw01.TickOrders': WHATEVER THE INPUT: true; the input reads as it did. -/
def tickOrdersSpec : ChangeSpec := { name := "tickOrders", fn := fun _ => fun
  | [d1, d2, d3] => { results := [.lit (.bool true)], args := [d1, d2, d3] }
  | _ => none }
def tickOrdersRow : OpenClaim := { program := "ytbanppikjbfkmaa", sum := "d954fcbb43f9ca2521b97d729c13c7eb76dbe9a4935cbbacbd2217c5456933b6", func := "liftwell/liftwelllaw01.TickOrders", spec := "tickOrders", apart := false }
def TickOrdersSaid : Prop := tickOrdersRow.holds Try.pinned (OpenSpec.ofChange tickOrdersSpec)

/-- ITS FALSE NEIGHBOUR: 'it returns false'. Refute it at one input. -/
def tickOrdersWrong : ChangeSpec := { name := "tickOrders", fn := fun _ => fun
  | [d1, d2, d3] => { results := [.lit (.bool false)], args := [d1, d2, d3] }
  | _ => none }
def TickOrdersWrongFalsely : Prop := tickOrdersRow.holds Try.pinned (OpenSpec.ofChange tickOrdersWrong)

/-- 'liftwelllaw01.TickPauses': WHATEVER THE INPUT: true; the input reads as it did. -/
def tickPausesSpec : ChangeSpec := { name := "tickPauses", fn := fun _ => fun
  | [d1, d2, d3] => { results := [.lit (.bool true)], args := [d1, d2, d3] }
  | _ => none }
def tickPausesRow : OpenClaim := { program := "ytbanppikjbfkmaa", sum := "d954fcbb43f9ca2521b97d729c13c7eb76dbe9a4935cbbacbd2217c5456933b6", func := "liftwell/liftwelllaw01.TickPauses", spec := "tickPauses", apart := false }
def TickPausesSaid : Prop := tickPausesRow.holds Try.pinned (OpenSpec.ofChange tickPausesSpec)

/-- ITS FALSE NEIGHBOUR: 'it returns false'. Refute it at one input. -/
def tickPausesWrong : ChangeSpec := { name := "tickPauses", fn := fun _ => fun
  | [d1, d2, d3] => { results := [.lit (.bool false)], args := [d1, d2, d3] }
  | _ => none }
def TickPausesWrongFalsely : Prop := tickPausesRow.holds Try.pinned (OpenSpec.ofChange tickPausesWrong)

/-- 'liftwelllaw01.TickThree': WHATEVER THE INPUT: true; the input reads as it did. -/
def tickThreeSpec : ChangeSpec := { name := "tickThree", fn := fun _ => fun
  | [d1, d2, d3] => { results := [.lit (.bool true)], args := [d1, d2, d3] }
  | _ => none }
def tickThreeRow : OpenClaim := { program := "ytbanppikjbfkmaa", sum := "d954fcbb43f9ca2521b97d729c13c7eb76dbe9a4935cbbacbd2217c5456933b6", func := "liftwell/liftwelllaw01.TickThree", spec := "tickThree", apart := false }
def TickThreeSaid : Prop := tickThreeRow.holds Try.pinned (OpenSpec.ofChange tickThreeSpec)

/-- ITS FALSE NEIGHBOUR: 'it returns false'. Refute it at one input. -/
def tickThreeWrong : ChangeSpec := { name := "tickThree", fn := fun _ => fun
  | [d1, d2, d3] => { results := [.lit (.bool false)], args := [d1, d2, d3] }
  | _ => none }
def TickThreeWrongFalsely : Prop := tickThreeRow.holds Try.pinned (OpenSpec.ofChange tickThreeWrong)

/- THE SECOND FORM. 'bulk': how many values and letters a reading holds, each counted each time it is reached (what is shared counts as often as it is met; a slice's spare places count too). A statement '..UptoSaid' is the law's where the arguments, and the package variables that the reading takes, are together of bulk at most 1048576: NARROWER than '..Said'. Prove '..Said' where nothing that the law and all that it calls make is longer than what came in: it says more and counts as full. Else prove '..UptoSaid'. A law counts once. -/
mutual
def uptoBulk {H : Type} : DataW H → Nat
  | .lit (.string bytes) => bytes.length + 1
  | .lit _ => 1
  | .nil => 1
  | .ptr d => uptoBulk d + 1
  | .slice elems spare => uptoBulkAll elems + uptoBulkAll spare + 1
  | .agg parts => uptoBulkAll parts + 1
  | .iface _ d => uptoBulk d + 1
  | .map entries => uptoBulkEntries entries + 1
  | .held _ => 1
def uptoBulkAll {H : Type} : List (DataW H) → Nat
  | [] => 0
  | d :: r => uptoBulk d + uptoBulkAll r
def uptoBulkEntries {H : Type} : List (Lit × DataW H) → Nat
  | [] => 0
  | x :: r => uptoBulkEntry x + uptoBulkEntries r
def uptoBulkEntry {H : Type} : Lit × DataW H → Nat
  | (.string bytes, d) => bytes.length + uptoBulk d + 1
  | (_, d) => uptoBulk d + 1
 end
def uptoSmall : (H : Type) → List (DataW H) → Bool := fun _ ds => decide (uptoBulkAll ds ≤ 1048576)
def OpenSpec.upto (s : _root_.Go.ChangeSpec) : _root_.Go.OpenSpec := { _root_.Go.OpenSpec.ofChange s with cond := some uptoSmall }

/-- 'liftwelllaw05.SerialNear', WHERE WHAT IT READS IS OF BULK AT MOST 1048576: true; the input reads as it did. -/
def serialNearUptoRow : OpenClaim := { program := "ytbanppikjbfkmaa", sum := "d954fcbb43f9ca2521b97d729c13c7eb76dbe9a4935cbbacbd2217c5456933b6", func := "liftwell/liftwelllaw05.SerialNear", spec := "serialNear", apart := false, narrowed := true }
def SerialNearUptoSaid : Prop := serialNearUptoRow.holds Try.pinned (OpenSpec.upto serialNearSpec)

/-- 'liftwelllaw05.SerialSteps', WHERE WHAT IT READS IS OF BULK AT MOST 1048576: true; the input reads as it did. -/
def serialStepsUptoRow : OpenClaim := { program := "ytbanppikjbfkmaa", sum := "d954fcbb43f9ca2521b97d729c13c7eb76dbe9a4935cbbacbd2217c5456933b6", func := "liftwell/liftwelllaw05.SerialSteps", spec := "serialSteps", apart := false, narrowed := true }
def SerialStepsUptoSaid : Prop := serialStepsUptoRow.holds Try.pinned (OpenSpec.upto serialStepsSpec)

/-- 'liftwelllaw01.TickCounts', WHERE WHAT IT READS IS OF BULK AT MOST 1048576: true; the input reads as it did. -/
def tickCountsUptoRow : OpenClaim := { program := "ytbanppikjbfkmaa", sum := "d954fcbb43f9ca2521b97d729c13c7eb76dbe9a4935cbbacbd2217c5456933b6", func := "liftwell/liftwelllaw01.TickCounts", spec := "tickCounts", apart := false, narrowed := true }
def TickCountsUptoSaid : Prop := tickCountsUptoRow.holds Try.pinned (OpenSpec.upto tickCountsSpec)

/-- 'liftwelllaw01.TickOrders', WHERE WHAT IT READS IS OF BULK AT MOST 1048576: true; the input reads as it did. -/
def tickOrdersUptoRow : OpenClaim := { program := "ytbanppikjbfkmaa", sum := "d954fcbb43f9ca2521b97d729c13c7eb76dbe9a4935cbbacbd2217c5456933b6", func := "liftwell/liftwelllaw01.TickOrders", spec := "tickOrders", apart := false, narrowed := true }
def TickOrdersUptoSaid : Prop := tickOrdersUptoRow.holds Try.pinned (OpenSpec.upto tickOrdersSpec)

/-- 'liftwelllaw01.TickPauses', WHERE WHAT IT READS IS OF BULK AT MOST 1048576: true; the input reads as it did. -/
def tickPausesUptoRow : OpenClaim := { program := "ytbanppikjbfkmaa", sum := "d954fcbb43f9ca2521b97d729c13c7eb76dbe9a4935cbbacbd2217c5456933b6", func := "liftwell/liftwelllaw01.TickPauses", spec := "tickPauses", apart := false, narrowed := true }
def TickPausesUptoSaid : Prop := tickPausesUptoRow.holds Try.pinned (OpenSpec.upto tickPausesSpec)

/-- 'liftwelllaw01.TickThree', WHERE WHAT IT READS IS OF BULK AT MOST 1048576: true; the input reads as it did. -/
def tickThreeUptoRow : OpenClaim := { program := "ytbanppikjbfkmaa", sum := "d954fcbb43f9ca2521b97d729c13c7eb76dbe9a4935cbbacbd2217c5456933b6", func := "liftwell/liftwelllaw01.TickThree", spec := "tickThree", apart := false, narrowed := true }
def TickThreeUptoSaid : Prop := tickThreeUptoRow.holds Try.pinned (OpenSpec.upto tickThreeSpec)

end Rows
end Go.Proofs.Ytbanppikjbfkmaa
