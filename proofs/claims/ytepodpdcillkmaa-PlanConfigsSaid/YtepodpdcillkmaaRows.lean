/-
  No cell of these rows narrows 'for every input' (looked for: loops, veiled, ifaces, maps, wideKeys, modest, calm, conditions, laid).
  DERIVED. THE GIVEN ROWS OF THIS SEAT. 10 by the template 'for every input the law returns true; each argument reads behind the call as it read before'; 0 by the template 'total and deterministic' (their statements: YtepodpdcillkmaaTotals.lean).
  GIVEN WITH THE SEED: the statements are not yours to turn. If you find one false, say at which input.
  Laid BY PROGRAM, IN A SANDBOX (cutbox-rows.mjs): the forced cells as the released guide's own fill.sh prints them over the translation 446238dc6c3bd1c7… (all of the seat's roots in one cut). By AI agents, Wed Nov 11 2026. No macro, syntax, notation, axiom, sorry.
-/
import Derived.Test.YtepodpdcillkmaaChecked
import GoSem.Claim
import GoSem.ClaimJoined
import GoSem.ClaimMapViews
import Derived.JoinedTies
import Derived.KernelRfl
namespace Go.Proofs.Ytepodpdcillkmaa
/- THE CELL 'sum', in the pinned program and in every row, IS THE sha256 OF THE DUMP (.gsa) THAT YtepodpdcillkmaaProg.lean LOADS. Nothing in Lean hashes anything: it is a label: what it is worth is what the hold of that sum in a sandbox is worth. -/
noncomputable def Try.pinned : Pinned := { name := "ytepodpdcillkmaa", sum := "446238dc6c3bd1c721f13862f13fe4a692183a19483272651a216c882a8d67e9", checked := Try.checked }
namespace Rows
def none {H : Type} : Left H := { results := [], args := [] }

/-- 'signalbrokerlaw10.MonitorOrder': WHATEVER THE INPUT: true; the input reads as it did. -/
def monitorOrderSpec : ChangeSpec := { name := "monitorOrder", fn := fun _ => fun
  | [d1, d2, d3] => { results := [.lit (.bool true)], args := [d1, d2, d3] }
  | _ => none }
def monitorOrderRow : OpenClaim := { program := "ytepodpdcillkmaa", sum := "446238dc6c3bd1c721f13862f13fe4a692183a19483272651a216c882a8d67e9", func := "signalbroker/signalbrokerlaw10.MonitorOrder", spec := "monitorOrder", apart := false }
def MonitorOrderSaid : Prop := monitorOrderRow.holds Try.pinned (OpenSpec.ofChange monitorOrderSpec)

/-- ITS FALSE NEIGHBOUR: 'it returns false'. Refute it at one input. -/
def monitorOrderWrong : ChangeSpec := { name := "monitorOrder", fn := fun _ => fun
  | [d1, d2, d3] => { results := [.lit (.bool false)], args := [d1, d2, d3] }
  | _ => none }
def MonitorOrderWrongFalsely : Prop := monitorOrderRow.holds Try.pinned (OpenSpec.ofChange monitorOrderWrong)

/-- 'signalbrokerlaw10.MonitorQuiet': WHATEVER THE INPUT: true; the input reads as it did. -/
def monitorQuietSpec : ChangeSpec := { name := "monitorQuiet", fn := fun _ => fun
  | [d1, d2, d3] => { results := [.lit (.bool true)], args := [d1, d2, d3] }
  | _ => none }
def monitorQuietRow : OpenClaim := { program := "ytepodpdcillkmaa", sum := "446238dc6c3bd1c721f13862f13fe4a692183a19483272651a216c882a8d67e9", func := "signalbroker/signalbrokerlaw10.MonitorQuiet", spec := "monitorQuiet", apart := false }
def MonitorQuietSaid : Prop := monitorQuietRow.holds Try.pinned (OpenSpec.ofChange monitorQuietSpec)

/-- ITS FALSE NEIGHBOUR: 'it returns false'. Refute it at one input. -/
def monitorQuietWrong : ChangeSpec := { name := "monitorQuiet", fn := fun _ => fun
  | [d1, d2, d3] => { results := [.lit (.bool false)], args := [d1, d2, d3] }
  | _ => none }
def MonitorQuietWrongFalsely : Prop := monitorQuietRow.holds Try.pinned (OpenSpec.ofChange monitorQuietWrong)

/-- 'signalbrokerlaw06.MatrixValid': WHATEVER THE INPUT: true; the input reads as it did. -/
def matrixValidSpec : ChangeSpec := { name := "matrixValid", fn := fun _ => fun
  | [d1, d2, d3, d4] => { results := [.lit (.bool true)], args := [d1, d2, d3, d4] }
  | _ => none }
def matrixValidRow : OpenClaim := { program := "ytepodpdcillkmaa", sum := "446238dc6c3bd1c721f13862f13fe4a692183a19483272651a216c882a8d67e9", func := "signalbroker/signalbrokerlaw06.MatrixValid", spec := "matrixValid", apart := false }
def MatrixValidSaid : Prop := matrixValidRow.holds Try.pinned (OpenSpec.ofChange matrixValidSpec)

/-- ITS FALSE NEIGHBOUR: 'it returns false'. Refute it at one input. -/
def matrixValidWrong : ChangeSpec := { name := "matrixValid", fn := fun _ => fun
  | [d1, d2, d3, d4] => { results := [.lit (.bool false)], args := [d1, d2, d3, d4] }
  | _ => none }
def MatrixValidWrongFalsely : Prop := matrixValidRow.holds Try.pinned (OpenSpec.ofChange matrixValidWrong)

/-- 'signalbrokerlaw06.MatrixSets': WHATEVER THE INPUT: true; the input reads as it did. -/
def matrixSetsSpec : ChangeSpec := { name := "matrixSets", fn := fun _ => fun
  | [d1, d2] => { results := [.lit (.bool true)], args := [d1, d2] }
  | _ => none }
def matrixSetsRow : OpenClaim := { program := "ytepodpdcillkmaa", sum := "446238dc6c3bd1c721f13862f13fe4a692183a19483272651a216c882a8d67e9", func := "signalbroker/signalbrokerlaw06.MatrixSets", spec := "matrixSets", apart := false }
def MatrixSetsSaid : Prop := matrixSetsRow.holds Try.pinned (OpenSpec.ofChange matrixSetsSpec)

/-- ITS FALSE NEIGHBOUR: 'it returns false'. Refute it at one input. -/
def matrixSetsWrong : ChangeSpec := { name := "matrixSets", fn := fun _ => fun
  | [d1, d2] => { results := [.lit (.bool false)], args := [d1, d2] }
  | _ => none }
def MatrixSetsWrongFalsely : Prop := matrixSetsRow.holds Try.pinned (OpenSpec.ofChange matrixSetsWrong)

/-- 'signalbrokerlaw06.MatrixAdds': WHATEVER THE INPUT: true; the input reads as it did. -/
def matrixAddsSpec : ChangeSpec := { name := "matrixAdds", fn := fun _ => fun
  | [d1, d2] => { results := [.lit (.bool true)], args := [d1, d2] }
  | _ => none }
def matrixAddsRow : OpenClaim := { program := "ytepodpdcillkmaa", sum := "446238dc6c3bd1c721f13862f13fe4a692183a19483272651a216c882a8d67e9", func := "signalbroker/signalbrokerlaw06.MatrixAdds", spec := "matrixAdds", apart := false }
def MatrixAddsSaid : Prop := matrixAddsRow.holds Try.pinned (OpenSpec.ofChange matrixAddsSpec)

/-- ITS FALSE NEIGHBOUR: 'it returns false'. Refute it at one input. -/
def matrixAddsWrong : ChangeSpec := { name := "matrixAdds", fn := fun _ => fun
  | [d1, d2] => { results := [.lit (.bool false)], args := [d1, d2] }
  | _ => none }
def MatrixAddsWrongFalsely : Prop := matrixAddsRow.holds Try.pinned (OpenSpec.ofChange matrixAddsWrong)

/-- 'signalbrokerlaw06.MatrixSubsets': WHATEVER THE INPUT: true; the input reads as it did. -/
def matrixSubsetsSpec : ChangeSpec := { name := "matrixSubsets", fn := fun _ => fun
  | [d1, d2, d3] => { results := [.lit (.bool true)], args := [d1, d2, d3] }
  | _ => none }
def matrixSubsetsRow : OpenClaim := { program := "ytepodpdcillkmaa", sum := "446238dc6c3bd1c721f13862f13fe4a692183a19483272651a216c882a8d67e9", func := "signalbroker/signalbrokerlaw06.MatrixSubsets", spec := "matrixSubsets", apart := false }
def MatrixSubsetsSaid : Prop := matrixSubsetsRow.holds Try.pinned (OpenSpec.ofChange matrixSubsetsSpec)

/-- ITS FALSE NEIGHBOUR: 'it returns false'. Refute it at one input. -/
def matrixSubsetsWrong : ChangeSpec := { name := "matrixSubsets", fn := fun _ => fun
  | [d1, d2, d3] => { results := [.lit (.bool false)], args := [d1, d2, d3] }
  | _ => none }
def MatrixSubsetsWrongFalsely : Prop := matrixSubsetsRow.holds Try.pinned (OpenSpec.ofChange matrixSubsetsWrong)

/-- 'signalbrokerlaw07.PlanNeeds': WHATEVER THE INPUT: true; the input reads as it did. -/
def planNeedsSpec : ChangeSpec := { name := "planNeeds", fn := fun _ => fun
  | [d1, d2, d3] => { results := [.lit (.bool true)], args := [d1, d2, d3] }
  | _ => none }
def planNeedsRow : OpenClaim := { program := "ytepodpdcillkmaa", sum := "446238dc6c3bd1c721f13862f13fe4a692183a19483272651a216c882a8d67e9", func := "signalbroker/signalbrokerlaw07.PlanNeeds", spec := "planNeeds", apart := false }
def PlanNeedsSaid : Prop := planNeedsRow.holds Try.pinned (OpenSpec.ofChange planNeedsSpec)

/-- ITS FALSE NEIGHBOUR: 'it returns false'. Refute it at one input. -/
def planNeedsWrong : ChangeSpec := { name := "planNeeds", fn := fun _ => fun
  | [d1, d2, d3] => { results := [.lit (.bool false)], args := [d1, d2, d3] }
  | _ => none }
def PlanNeedsWrongFalsely : Prop := planNeedsRow.holds Try.pinned (OpenSpec.ofChange planNeedsWrong)

/-- 'signalbrokerlaw07.PlanJunctions': WHATEVER THE INPUT: true; the input reads as it did. -/
def planJunctionsSpec : ChangeSpec := { name := "planJunctions", fn := fun _ => fun
  | [d1, d2, d3, d4] => { results := [.lit (.bool true)], args := [d1, d2, d3, d4] }
  | _ => none }
def planJunctionsRow : OpenClaim := { program := "ytepodpdcillkmaa", sum := "446238dc6c3bd1c721f13862f13fe4a692183a19483272651a216c882a8d67e9", func := "signalbroker/signalbrokerlaw07.PlanJunctions", spec := "planJunctions", apart := false }
def PlanJunctionsSaid : Prop := planJunctionsRow.holds Try.pinned (OpenSpec.ofChange planJunctionsSpec)

/-- ITS FALSE NEIGHBOUR: 'it returns false'. Refute it at one input. -/
def planJunctionsWrong : ChangeSpec := { name := "planJunctions", fn := fun _ => fun
  | [d1, d2, d3, d4] => { results := [.lit (.bool false)], args := [d1, d2, d3, d4] }
  | _ => none }
def PlanJunctionsWrongFalsely : Prop := planJunctionsRow.holds Try.pinned (OpenSpec.ofChange planJunctionsWrong)

/-- 'signalbrokerlaw07.PlanRings': WHATEVER THE INPUT: true; the input reads as it did. -/
def planRingsSpec : ChangeSpec := { name := "planRings", fn := fun _ => fun
  | [d1, d2] => { results := [.lit (.bool true)], args := [d1, d2] }
  | _ => none }
def planRingsRow : OpenClaim := { program := "ytepodpdcillkmaa", sum := "446238dc6c3bd1c721f13862f13fe4a692183a19483272651a216c882a8d67e9", func := "signalbroker/signalbrokerlaw07.PlanRings", spec := "planRings", apart := false }
def PlanRingsSaid : Prop := planRingsRow.holds Try.pinned (OpenSpec.ofChange planRingsSpec)

/-- ITS FALSE NEIGHBOUR: 'it returns false'. Refute it at one input. -/
def planRingsWrong : ChangeSpec := { name := "planRings", fn := fun _ => fun
  | [d1, d2] => { results := [.lit (.bool false)], args := [d1, d2] }
  | _ => none }
def PlanRingsWrongFalsely : Prop := planRingsRow.holds Try.pinned (OpenSpec.ofChange planRingsWrong)

/-- 'signalbrokerlaw07.PlanConfigs': WHATEVER THE INPUT: true; the input reads as it did. -/
def planConfigsSpec : ChangeSpec := { name := "planConfigs", fn := fun _ => fun
  | [d1, d2, d3, d4, d5] => { results := [.lit (.bool true)], args := [d1, d2, d3, d4, d5] }
  | _ => none }
def planConfigsRow : OpenClaim := { program := "ytepodpdcillkmaa", sum := "446238dc6c3bd1c721f13862f13fe4a692183a19483272651a216c882a8d67e9", func := "signalbroker/signalbrokerlaw07.PlanConfigs", spec := "planConfigs", apart := false }
def PlanConfigsSaid : Prop := planConfigsRow.holds Try.pinned (OpenSpec.ofChange planConfigsSpec)

/-- ITS FALSE NEIGHBOUR: 'it returns false'. Refute it at one input. -/
def planConfigsWrong : ChangeSpec := { name := "planConfigs", fn := fun _ => fun
  | [d1, d2, d3, d4, d5] => { results := [.lit (.bool false)], args := [d1, d2, d3, d4, d5] }
  | _ => none }
def PlanConfigsWrongFalsely : Prop := planConfigsRow.holds Try.pinned (OpenSpec.ofChange planConfigsWrong)

/- THE SECOND FORM. 'bulk': how many values and letters a reading holds, each counted each time it is reached (what is shared counts as often as it is met; a slice's spare places count too). A statement '..UptoSaid' is the law's where the arguments, and the package variables that the reading takes, are together of bulk at most 1048576: NARROWER than '..Said'. Prove '..Said' where nothing that the law and all that it calls make is longer than what came in: it says more and counts as full. Else prove '..UptoSaid'. A law counts once. -/
mutual
def uptoBulk {H : Type} : DataW H → Nat
  | .lit (.string bytes) => bytes.length + 1
  | .lit _ => 1
  | .nil => 1
  | .ptr d => uptoBulk d + 1
  | .slice elems spare => uptoBulkAll elems + uptoBulkAll spare + 1
  | .agg parts => uptoBulkAll parts + 1
  | .iface _ d => uptoBulk d + 1
  | .map entries => uptoBulkEntries entries + 1
  | .held _ => 1
def uptoBulkAll {H : Type} : List (DataW H) → Nat
  | [] => 0
  | d :: r => uptoBulk d + uptoBulkAll r
def uptoBulkEntries {H : Type} : List (Lit × DataW H) → Nat
  | [] => 0
  | x :: r => uptoBulkEntry x + uptoBulkEntries r
def uptoBulkEntry {H : Type} : Lit × DataW H → Nat
  | (.string bytes, d) => bytes.length + uptoBulk d + 1
  | (_, d) => uptoBulk d + 1
 end
def uptoSmall : (H : Type) → List (DataW H) → Bool := fun _ ds => decide (uptoBulkAll ds ≤ 1048576)
def OpenSpec.upto (s : _root_.Go.ChangeSpec) : _root_.Go.OpenSpec := { _root_.Go.OpenSpec.ofChange s with cond := some uptoSmall }

/-- 'signalbrokerlaw10.MonitorOrder', WHERE WHAT IT READS IS OF BULK AT MOST 1048576: true; the input reads as it did. -/
def monitorOrderUptoRow : OpenClaim := { program := "ytepodpdcillkmaa", sum := "446238dc6c3bd1c721f13862f13fe4a692183a19483272651a216c882a8d67e9", func := "signalbroker/signalbrokerlaw10.MonitorOrder", spec := "monitorOrder", apart := false, narrowed := true }
def MonitorOrderUptoSaid : Prop := monitorOrderUptoRow.holds Try.pinned (OpenSpec.upto monitorOrderSpec)

/-- 'signalbrokerlaw10.MonitorQuiet', WHERE WHAT IT READS IS OF BULK AT MOST 1048576: true; the input reads as it did. -/
def monitorQuietUptoRow : OpenClaim := { program := "ytepodpdcillkmaa", sum := "446238dc6c3bd1c721f13862f13fe4a692183a19483272651a216c882a8d67e9", func := "signalbroker/signalbrokerlaw10.MonitorQuiet", spec := "monitorQuiet", apart := false, narrowed := true }
def MonitorQuietUptoSaid : Prop := monitorQuietUptoRow.holds Try.pinned (OpenSpec.upto monitorQuietSpec)

/-- 'signalbrokerlaw06.MatrixValid', WHERE WHAT IT READS IS OF BULK AT MOST 1048576: true; the input reads as it did. -/
def matrixValidUptoRow : OpenClaim := { program := "ytepodpdcillkmaa", sum := "446238dc6c3bd1c721f13862f13fe4a692183a19483272651a216c882a8d67e9", func := "signalbroker/signalbrokerlaw06.MatrixValid", spec := "matrixValid", apart := false, narrowed := true }
def MatrixValidUptoSaid : Prop := matrixValidUptoRow.holds Try.pinned (OpenSpec.upto matrixValidSpec)

/-- 'signalbrokerlaw06.MatrixSets', WHERE WHAT IT READS IS OF BULK AT MOST 1048576: true; the input reads as it did. -/
def matrixSetsUptoRow : OpenClaim := { program := "ytepodpdcillkmaa", sum := "446238dc6c3bd1c721f13862f13fe4a692183a19483272651a216c882a8d67e9", func := "signalbroker/signalbrokerlaw06.MatrixSets", spec := "matrixSets", apart := false, narrowed := true }
def MatrixSetsUptoSaid : Prop := matrixSetsUptoRow.holds Try.pinned (OpenSpec.upto matrixSetsSpec)

/-- 'signalbrokerlaw06.MatrixAdds', WHERE WHAT IT READS IS OF BULK AT MOST 1048576: true; the input reads as it did. -/
def matrixAddsUptoRow : OpenClaim := { program := "ytepodpdcillkmaa", sum := "446238dc6c3bd1c721f13862f13fe4a692183a19483272651a216c882a8d67e9", func := "signalbroker/signalbrokerlaw06.MatrixAdds", spec := "matrixAdds", apart := false, narrowed := true }
def MatrixAddsUptoSaid : Prop := matrixAddsUptoRow.holds Try.pinned (OpenSpec.upto matrixAddsSpec)

/-- 'signalbrokerlaw06.MatrixSubsets', WHERE WHAT IT READS IS OF BULK AT MOST 1048576: true; the input reads as it did. -/
def matrixSubsetsUptoRow : OpenClaim := { program := "ytepodpdcillkmaa", sum := "446238dc6c3bd1c721f13862f13fe4a692183a19483272651a216c882a8d67e9", func := "signalbroker/signalbrokerlaw06.MatrixSubsets", spec := "matrixSubsets", apart := false, narrowed := true }
def MatrixSubsetsUptoSaid : Prop := matrixSubsetsUptoRow.holds Try.pinned (OpenSpec.upto matrixSubsetsSpec)

/-- 'signalbrokerlaw07.PlanNeeds', WHERE WHAT IT READS IS OF BULK AT MOST 1048576: true; the input reads as it did. -/
def planNeedsUptoRow : OpenClaim := { program := "ytepodpdcillkmaa", sum := "446238dc6c3bd1c721f13862f13fe4a692183a19483272651a216c882a8d67e9", func := "signalbroker/signalbrokerlaw07.PlanNeeds", spec := "planNeeds", apart := false, narrowed := true }
def PlanNeedsUptoSaid : Prop := planNeedsUptoRow.holds Try.pinned (OpenSpec.upto planNeedsSpec)

/-- 'signalbrokerlaw07.PlanJunctions', WHERE WHAT IT READS IS OF BULK AT MOST 1048576: true; the input reads as it did. -/
def planJunctionsUptoRow : OpenClaim := { program := "ytepodpdcillkmaa", sum := "446238dc6c3bd1c721f13862f13fe4a692183a19483272651a216c882a8d67e9", func := "signalbroker/signalbrokerlaw07.PlanJunctions", spec := "planJunctions", apart := false, narrowed := true }
def PlanJunctionsUptoSaid : Prop := planJunctionsUptoRow.holds Try.pinned (OpenSpec.upto planJunctionsSpec)

/-- 'signalbrokerlaw07.PlanRings', WHERE WHAT IT READS IS OF BULK AT MOST 1048576: true; the input reads as it did. -/
def planRingsUptoRow : OpenClaim := { program := "ytepodpdcillkmaa", sum := "446238dc6c3bd1c721f13862f13fe4a692183a19483272651a216c882a8d67e9", func := "signalbroker/signalbrokerlaw07.PlanRings", spec := "planRings", apart := false, narrowed := true }
def PlanRingsUptoSaid : Prop := planRingsUptoRow.holds Try.pinned (OpenSpec.upto planRingsSpec)

/-- 'signalbrokerlaw07.PlanConfigs', WHERE WHAT IT READS IS OF BULK AT MOST 1048576: true; the input reads as it did. -/
def planConfigsUptoRow : OpenClaim := { program := "ytepodpdcillkmaa", sum := "446238dc6c3bd1c721f13862f13fe4a692183a19483272651a216c882a8d67e9", func := "signalbroker/signalbrokerlaw07.PlanConfigs", spec := "planConfigs", apart := false, narrowed := true }
def PlanConfigsUptoSaid : Prop := planConfigsUptoRow.holds Try.pinned (OpenSpec.upto planConfigsSpec)

end Rows
end Go.Proofs.Ytepodpdcillkmaa
