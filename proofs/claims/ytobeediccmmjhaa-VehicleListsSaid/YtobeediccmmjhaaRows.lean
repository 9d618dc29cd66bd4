/-
  No cell of these rows narrows 'for every input' (looked for: loops, veiled, ifaces, maps, wideKeys, modest, calm, conditions, laid).
  DERIVED. THE GIVEN ROWS OF THIS SEAT. 3 by the template 'for every input the law returns true; each argument reads behind the call as it read before'; 0 by the template 'total and deterministic' (their statements: YtobeediccmmjhaaTotals.lean).
  GIVEN WITH THE SEED: the statements are not yours to turn. If you find one false, say at which input.
  Laid BY PROGRAM, IN A SANDBOX (cutbox-rows.mjs): the forced cells as the released guide's own fill.sh prints them over the translation 8aaeef06d6917ceb… (all of the seat's roots in one cut). By AI agents, Wed Nov 11 2026. No macro, syntax, notation, axiom, sorry.
-/
import Derived.Test.YtobeediccmmjhaaChecked
import GoSem.Claim
import GoSem.ClaimJoined
import GoSem.ClaimMapViews
import Derived.JoinedTies
import Derived.KernelRfl
namespace Go.Proofs.Ytobeediccmmjhaa
/- THE CELL 'sum', in the pinned program and in every row, IS THE sha256 OF THE DUMP (.gsa) THAT YtobeediccmmjhaaProg.lean LOADS. Nothing in Lean hashes anything: it is a label: what it is worth is what the hold of that sum in a sandbox is worth. -/
noncomputable def Try.pinned : Pinned := { name := "ytobeediccmmjhaa", sum := "8aaeef06d6917ceb2f2be1bf63609427b0505aebed0ce3333669564eb38f512e", checked := Try.checked }
namespace Rows
def none {H : Type} : Left H := { results := [], args := [] }

/-- 'signalbrokerlaw15.VehicleLimits': WHATEVER THE INPUT: true; the input reads as it did. -/
def vehicleLimitsSpec : ChangeSpec := { name := "vehicleLimits", fn := fun _ => fun
  | [d1, d2] => { results := [.lit (.bool true)], args := [d1, d2] }
  | _ => none }
def vehicleLimitsRow : OpenClaim := { program := "ytobeediccmmjhaa", sum := "8aaeef06d6917ceb2f2be1bf63609427b0505aebed0ce3333669564eb38f512e", func := "signalbroker/signalbrokerlaw15.VehicleLimits", spec := "vehicleLimits", apart := false }
def VehicleLimitsSaid : Prop := vehicleLimitsRow.holds Try.pinned (OpenSpec.ofChange vehicleLimitsSpec)

/-- ITS FALSE NEIGHBOUR: 'it returns false'. Refute it at one input. -/
def vehicleLimitsWrong : ChangeSpec := { name := "vehicleLimits", fn := fun _ => fun
  | [d1, d2] => { results := [.lit (.bool false)], args := [d1, d2] }
  | _ => none }
def VehicleLimitsWrongFalsely : Prop := vehicleLimitsRow.holds Try.pinned (OpenSpec.ofChange vehicleLimitsWrong)

/-- 'signalbrokerlaw15.VehicleLists': WHATEVER THE INPUT: true; the input reads as it did. -/
def vehicleListsSpec : ChangeSpec := { name := "vehicleLists", fn := fun _ => fun
  | [d1, d2, d3, d4, d5] => { results := [.lit (.bool true)], args := [d1, d2, d3, d4, d5] }
  | _ => none }
def vehicleListsRow : OpenClaim := { program := "ytobeediccmmjhaa", sum := "8aaeef06d6917ceb2f2be1bf63609427b0505aebed0ce3333669564eb38f512e", func := "signalbroker/signalbrokerlaw15.VehicleLists", spec := "vehicleLists", apart := false }
def VehicleListsSaid : Prop := vehicleListsRow.holds Try.pinned (OpenSpec.ofChange vehicleListsSpec)

/-- ITS FALSE NEIGHBOUR: 'it returns false'. Refute it at one input. -/
def vehicleListsWrong : ChangeSpec := { name := "vehicleLists", fn := fun _ => fun
  | [d1, d2, d3, d4, d5] => { results := [.lit (.bool false)], args := [d1, d2, d3, d4, d5] }
  | _ => none }
def VehicleListsWrongFalsely : Prop := vehicleListsRow.holds Try.pinned (OpenSpec.ofChange vehicleListsWrong)

/-- 'signalbrokerlaw15.VehicleOrder': WHATEVER THE INPUT: true; the input reads as it did. -/
def vehicleOrderSpec : ChangeSpec := { name := "vehicleOrder", fn := fun _ => fun
  | [d1, d2, d3] => { results := [.lit (.bool true)], args := [d1, d2, d3] }
  | _ => none }
def vehicleOrderRow : OpenClaim := { program := "ytobeediccmmjhaa", sum := "8aaeef06d6917ceb2f2be1bf63609427b0505aebed0ce3333669564eb38f512e", func := "signalbroker/signalbrokerlaw15.VehicleOrder", spec := "vehicleOrder", apart := false }
def VehicleOrderSaid : Prop := vehicleOrderRow.holds Try.pinned (OpenSpec.ofChange vehicleOrderSpec)

/-- ITS FALSE NEIGHBOUR: 'it returns false'. Refute it at one input. -/
def vehicleOrderWrong : ChangeSpec := { name := "vehicleOrder", fn := fun _ => fun
  | [d1, d2, d3] => { results := [.lit (.bool false)], args := [d1, d2, d3] }
  | _ => none }
def VehicleOrderWrongFalsely : Prop := vehicleOrderRow.holds Try.pinned (OpenSpec.ofChange vehicleOrderWrong)

/- THE SECOND FORM. 'bulk': how many values and letters a reading holds, each counted each time it is reached (what is shared counts as often as it is met; a slice's spare places count too). A statement '..UptoSaid' is the law's where the arguments, and the package variables that the reading takes, are together of bulk at most 1048576: NARROWER than '..Said'. Prove '..Said' where nothing that the law and all that it calls make is longer than what came in: it says more and counts as full. Else prove '..UptoSaid'. A law counts once. -/
mutual
def uptoBulk {H : Type} : DataW H → Nat
  | .lit (.string bytes) => bytes.length + 1
  | .lit _ => 1
  | .nil => 1
  | .ptr d => uptoBulk d + 1
  | .slice elems spare => uptoBulkAll elems + uptoBulkAll spare + 1
  | .agg parts => uptoBulkAll parts + 1
  | .iface _ d => uptoBulk d + 1
  | .map entries => uptoBulkEntries entries + 1
  | .held _ => 1
def uptoBulkAll {H : Type} : List (DataW H) → Nat
  | [] => 0
  | d :: r => uptoBulk d + uptoBulkAll r
def uptoBulkEntries {H : Type} : List (Lit × DataW H) → Nat
  | [] => 0
  | x :: r => uptoBulkEntry x + uptoBulkEntries r
def uptoBulkEntry {H : Type} : Lit × DataW H → Nat
  | (.string bytes, d) => bytes.length + uptoBulk d + 1
  | (_, d) => uptoBulk d + 1
 end
def uptoSmall : (H : Type) → List (DataW H) → Bool := fun _ ds => decide (uptoBulkAll ds ≤ 1048576)
def OpenSpec.upto (s : _root_.Go.ChangeSpec) : _root_.Go.OpenSpec := { _root_.Go.OpenSpec.ofChange s with cond := some uptoSmall }

/-- 'signalbrokerlaw15.VehicleLimits', WHERE WHAT IT READS IS OF BULK AT MOST 1048576: true; the input reads as it did. -/
def vehicleLimitsUptoRow : OpenClaim := { program := "ytobeediccmmjhaa", sum := "8aaeef06d6917ceb2f2be1bf63609427b0505aebed0ce3333669564eb38f512e", func := "signalbroker/signalbrokerlaw15.VehicleLimits", spec := "vehicleLimits", apart := false, narrowed := true }
def VehicleLimitsUptoSaid : Prop := vehicleLimitsUptoRow.holds Try.pinned (OpenSpec.upto vehicleLimitsSpec)

/-- 'signalbrokerlaw15.VehicleLists', WHERE WHAT IT READS IS OF BULK AT MOST 1048576: true; the input reads as it did. -/
def vehicleListsUptoRow : OpenClaim := { program := "ytobeediccmmjhaa", sum := "8aaeef06d6917ceb2f2be1bf63609427b0505aebed0ce3333669564eb38f512e", func := "signalbroker/signalbrokerlaw15.VehicleLists", spec := "vehicleLists", apart := false, narrowed := true }
def VehicleListsUptoSaid : Prop := vehicleListsUptoRow.holds Try.pinned (OpenSpec.upto vehicleListsSpec)

/-- 'signalbrokerlaw15.VehicleOrder', WHERE WHAT IT READS IS OF BULK AT MOST 1048576: true; the input reads as it did. -/
def vehicleOrderUptoRow : OpenClaim := { program := "ytobeediccmmjhaa", sum := "8aaeef06d6917ceb2f2be1bf63609427b0505aebed0ce3333669564eb38f512e", func := "signalbroker/signalbrokerlaw15.VehicleOrder", spec := "vehicleOrder", apart := false, narrowed := true }
def VehicleOrderUptoSaid : Prop := vehicleOrderUptoRow.holds Try.pinned (OpenSpec.upto vehicleOrderSpec)

end Rows
end Go.Proofs.Ytobeediccmmjhaa
