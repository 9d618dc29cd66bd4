/-
  No cell of these rows narrows 'for every input' (looked for: loops, veiled, ifaces, maps, wideKeys, modest, calm, conditions, laid).
  DERIVED. THE GIVEN ROWS OF THIS SEAT. 5 by the template 'for every input the law returns true; each argument reads behind the call as it read before'; 0 by the template 'total and deterministic' (their statements: YtkkimgjinbaemaaGreatTotals.lean).
  GIVEN WITH THE SEED: the statements are not yours to turn. If you find one false, say at which input.
  Laid BY PROGRAM, IN A SANDBOX (cutbox-rows.mjs): the forced cells as the released guide's own fill.sh prints them over the translation 92b844e25d1eb272… (all of the seat's roots in one cut). By AI agents, Wed Nov 11 2026. No macro, syntax, notation, axiom, sorry.
-/
import Derived.Test.YtkkimgjinbaemaaGreatChecked
import GoSem.Claim
import GoSem.ClaimJoined
import GoSem.ClaimMapViews
import Derived.JoinedTies
import Derived.KernelRfl
namespace Go.Proofs.YtkkimgjinbaemaaGreat
/- THE CELL 'sum', in the pinned program and in every row, IS THE sha256 OF THE DUMP (.gsa) THAT YtkkimgjinbaemaaGreatProg.lean LOADS. Nothing in Lean hashes anything: it is a label: what it is worth is what the hold of that sum in a sandbox is worth. -/
noncomputable def Tryz.pinned : Pinned := { name := "ytkkimgjinbaemaagreat", sum := "92b844e25d1eb2720cf7507a8b7104044d83e90b0dbd67c3b7fc674446425bb8", checked := Tryz.checked }
namespace Rows
def none {H : Type} : Left H := { results := [], args := [] }

/-- 'signalbrokertop.TopAuthority': WHATEVER THE INPUT: true; the input reads as it did. -/
def topAuthoritySpec : ChangeSpec := { name := "topAuthority", fn := fun _ => fun
  | [d1, d2] => { results := [.lit (.bool true)], args := [d1, d2] }
  | _ => none }
def topAuthorityRow : OpenClaim := { program := "ytkkimgjinbaemaagreat", sum := "92b844e25d1eb2720cf7507a8b7104044d83e90b0dbd67c3b7fc674446425bb8", func := "signalbroker/signalbrokertop.TopAuthority", spec := "topAuthority", inPlace := ["slices.overlaps[signalbroker/api.Request]"], unfollowed := true, recurses := true, apart := false }
def TopAuthoritySaid : Prop := topAuthorityRow.holds Tryz.pinned (OpenSpec.ofChange topAuthoritySpec)

/-- ITS FALSE NEIGHBOUR: 'it returns false'. Refute it at one input. -/
def topAuthorityWrong : ChangeSpec := { name := "topAuthority", fn := fun _ => fun
  | [d1, d2] => { results := [.lit (.bool false)], args := [d1, d2] }
  | _ => none }
def TopAuthorityWrongFalsely : Prop := topAuthorityRow.holds Tryz.pinned (OpenSpec.ofChange topAuthorityWrong)

/-- 'signalbrokertop.TopCommutes': WHATEVER THE INPUT: true; the input reads as it did. -/
def topCommutesSpec : ChangeSpec := { name := "topCommutes", fn := fun _ => fun
  | [d1, d2] => { results := [.lit (.bool true)], args := [d1, d2] }
  | _ => none }
def topCommutesRow : OpenClaim := { program := "ytkkimgjinbaemaagreat", sum := "92b844e25d1eb2720cf7507a8b7104044d83e90b0dbd67c3b7fc674446425bb8", func := "signalbroker/signalbrokertop.TopCommutes", spec := "topCommutes", inPlace := ["slices.overlaps[signalbroker/api.Request]"], unfollowed := true, recurses := true, apart := false }
def TopCommutesSaid : Prop := topCommutesRow.holds Tryz.pinned (OpenSpec.ofChange topCommutesSpec)

/-- ITS FALSE NEIGHBOUR: 'it returns false'. Refute it at one input. -/
def topCommutesWrong : ChangeSpec := { name := "topCommutes", fn := fun _ => fun
  | [d1, d2] => { results := [.lit (.bool false)], args := [d1, d2] }
  | _ => none }
def TopCommutesWrongFalsely : Prop := topCommutesRow.holds Tryz.pinned (OpenSpec.ofChange topCommutesWrong)

/-- 'signalbrokertop.TopSlots': WHATEVER THE INPUT: true; the input reads as it did. -/
def topSlotsSpec : ChangeSpec := { name := "topSlots", fn := fun _ => fun
  | [d1, d2] => { results := [.lit (.bool true)], args := [d1, d2] }
  | _ => none }
def topSlotsRow : OpenClaim := { program := "ytkkimgjinbaemaagreat", sum := "92b844e25d1eb2720cf7507a8b7104044d83e90b0dbd67c3b7fc674446425bb8", func := "signalbroker/signalbrokertop.TopSlots", spec := "topSlots", inPlace := ["slices.overlaps[signalbroker/api.Request]"], unfollowed := true, recurses := true, apart := false }
def TopSlotsSaid : Prop := topSlotsRow.holds Tryz.pinned (OpenSpec.ofChange topSlotsSpec)

/-- ITS FALSE NEIGHBOUR: 'it returns false'. Refute it at one input. -/
def topSlotsWrong : ChangeSpec := { name := "topSlots", fn := fun _ => fun
  | [d1, d2] => { results := [.lit (.bool false)], args := [d1, d2] }
  | _ => none }
def TopSlotsWrongFalsely : Prop := topSlotsRow.holds Tryz.pinned (OpenSpec.ofChange topSlotsWrong)

/-- 'signalbrokertop.TopBudget': WHATEVER THE INPUT: true; the input reads as it did. -/
def topBudgetSpec : ChangeSpec := { name := "topBudget", fn := fun _ => fun
  | [d] => { results := [.lit (.bool true)], args := [d] }
  | _ => none }
def topBudgetRow : OpenClaim := { program := "ytkkimgjinbaemaagreat", sum := "92b844e25d1eb2720cf7507a8b7104044d83e90b0dbd67c3b7fc674446425bb8", func := "signalbroker/signalbrokertop.TopBudget", spec := "topBudget", inPlace := ["slices.overlaps[signalbroker/api.Request]"], unfollowed := true, recurses := true, apart := false }
def TopBudgetSaid : Prop := topBudgetRow.holds Tryz.pinned (OpenSpec.ofChange topBudgetSpec)

/-- ITS FALSE NEIGHBOUR: 'it returns false'. Refute it at one input. -/
def topBudgetWrong : ChangeSpec := { name := "topBudget", fn := fun _ => fun
  | [d] => { results := [.lit (.bool false)], args := [d] }
  | _ => none }
def TopBudgetWrongFalsely : Prop := topBudgetRow.holds Tryz.pinned (OpenSpec.ofChange topBudgetWrong)

/-- 'signalbrokertop.TopAudit': WHATEVER THE INPUT: true; the input reads as it did. -/
def topAuditSpec : ChangeSpec := { name := "topAudit", fn := fun _ => fun
  | [d] => { results := [.lit (.bool true)], args := [d] }
  | _ => none }
def topAuditRow : OpenClaim := { program := "ytkkimgjinbaemaagreat", sum := "92b844e25d1eb2720cf7507a8b7104044d83e90b0dbd67c3b7fc674446425bb8", func := "signalbroker/signalbrokertop.TopAudit", spec := "topAudit", inPlace := ["slices.overlaps[signalbroker/api.Request]"], unfollowed := true, recurses := true, apart := false }
def TopAuditSaid : Prop := topAuditRow.holds Tryz.pinned (OpenSpec.ofChange topAuditSpec)

/-- ITS FALSE NEIGHBOUR: 'it returns false'. Refute it at one input. -/
def topAuditWrong : ChangeSpec := { name := "topAudit", fn := fun _ => fun
  | [d] => { results := [.lit (.bool false)], args := [d] }
  | _ => none }
def TopAuditWrongFalsely : Prop := topAuditRow.holds Tryz.pinned (OpenSpec.ofChange topAuditWrong)

/- THE SECOND FORM. 'bulk': how many values and letters a reading holds, each counted each time it is reached (what is shared counts as often as it is met; a slice's spare places count too). A statement '..UptoSaid' is the law's where the arguments, and the package variables that the reading takes, are together of bulk at most 1048576: NARROWER than '..Said'. Prove '..Said' where nothing that the law and all that it calls make is longer than what came in: it says more and counts as full. Else prove '..UptoSaid'. A law counts once. -/
mutual
def uptoBulk {H : Type} : DataW H → Nat
  | .lit (.string bytes) => bytes.length + 1
  | .lit _ => 1
  | .nil => 1
  | .ptr d => uptoBulk d + 1
  | .slice elems spare => uptoBulkAll elems + uptoBulkAll spare + 1
  | .agg parts => uptoBulkAll parts + 1
  | .iface _ d => uptoBulk d + 1
  | .map entries => uptoBulkEntries entries + 1
  | .held _ => 1
def uptoBulkAll {H : Type} : List (DataW H) → Nat
  | [] => 0
  | d :: r => uptoBulk d + uptoBulkAll r
def uptoBulkEntries {H : Type} : List (Lit × DataW H) → Nat
  | [] => 0
  | x :: r => uptoBulkEntry x + uptoBulkEntries r
def uptoBulkEntry {H : Type} : Lit × DataW H → Nat
  | (.string bytes, d) => bytes.length + uptoBulk d + 1
  | (_, d) => uptoBulk d + 1
 end
def uptoSmall : (H : Type) → List (DataW H) → Bool := fun _ ds => decide (uptoBulkAll ds ≤ 1048576)
def OpenSpec.upto (s : _root_.Go.ChangeSpec) : _root_.Go.OpenSpec := { _root_.Go.OpenSpec.ofChange s with cond := some uptoSmall }

/-- 'signalbrokertop.TopAuthority', WHERE WHAT IT READS IS OF BULK AT MOST 1048576: true; the input reads as it did. -/
def topAuthorityUptoRow : OpenClaim := { program := "ytkkimgjinbaemaagreat", sum := "92b844e25d1eb2720cf7507a8b7104044d83e90b0dbd67c3b7fc674446425bb8", func := "signalbroker/signalbrokertop.TopAuthority", spec := "topAuthority", inPlace := ["slices.overlaps[signalbroker/api.Request]"], unfollowed := true, recurses := true, apart := false, narrowed := true }
def TopAuthorityUptoSaid : Prop := topAuthorityUptoRow.holds Tryz.pinned (OpenSpec.upto topAuthoritySpec)

/-- 'signalbrokertop.TopCommutes', WHERE WHAT IT READS IS OF BULK AT MOST 1048576: true; the input reads as it did. -/
def topCommutesUptoRow : OpenClaim := { program := "ytkkimgjinbaemaagreat", sum := "92b844e25d1eb2720cf7507a8b7104044d83e90b0dbd67c3b7fc674446425bb8", func := "signalbroker/signalbrokertop.TopCommutes", spec := "topCommutes", inPlace := ["slices.overlaps[signalbroker/api.Request]"], unfollowed := true, recurses := true, apart := false, narrowed := true }
def TopCommutesUptoSaid : Prop := topCommutesUptoRow.holds Tryz.pinned (OpenSpec.upto topCommutesSpec)

/-- 'signalbrokertop.TopSlots', WHERE WHAT IT READS IS OF BULK AT MOST 1048576: true; the input reads as it did. -/
def topSlotsUptoRow : OpenClaim := { program := "ytkkimgjinbaemaagreat", sum := "92b844e25d1eb2720cf7507a8b7104044d83e90b0dbd67c3b7fc674446425bb8", func := "signalbroker/signalbrokertop.TopSlots", spec := "topSlots", inPlace := ["slices.overlaps[signalbroker/api.Request]"], unfollowed := true, recurses := true, apart := false, narrowed := true }
def TopSlotsUptoSaid : Prop := topSlotsUptoRow.holds Tryz.pinned (OpenSpec.upto topSlotsSpec)

/-- 'signalbrokertop.TopBudget', WHERE WHAT IT READS IS OF BULK AT MOST 1048576: true; the input reads as it did. -/
def topBudgetUptoRow : OpenClaim := { program := "ytkkimgjinbaemaagreat", sum := "92b844e25d1eb2720cf7507a8b7104044d83e90b0dbd67c3b7fc674446425bb8", func := "signalbroker/signalbrokertop.TopBudget", spec := "topBudget", inPlace := ["slices.overlaps[signalbroker/api.Request]"], unfollowed := true, recurses := true, apart := false, narrowed := true }
def TopBudgetUptoSaid : Prop := topBudgetUptoRow.holds Tryz.pinned (OpenSpec.upto topBudgetSpec)

/-- 'signalbrokertop.TopAudit', WHERE WHAT IT READS IS OF BULK AT MOST 1048576: true; the input reads as it did. -/
def topAuditUptoRow : OpenClaim := { program := "ytkkimgjinbaemaagreat", sum := "92b844e25d1eb2720cf7507a8b7104044d83e90b0dbd67c3b7fc674446425bb8", func := "signalbroker/signalbrokertop.TopAudit", spec := "topAudit", inPlace := ["slices.overlaps[signalbroker/api.Request]"], unfollowed := true, recurses := true, apart := false, narrowed := true }
def TopAuditUptoSaid : Prop := topAuditUptoRow.holds Tryz.pinned (OpenSpec.upto topAuditSpec)

end Rows
end Go.Proofs.YtkkimgjinbaemaaGreat
