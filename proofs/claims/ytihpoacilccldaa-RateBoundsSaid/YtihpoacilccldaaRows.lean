/-
  No cell of these rows narrows 'for every input' (looked for: loops, veiled, ifaces, maps, wideKeys, modest, calm, conditions, laid).
  DERIVED. THE GIVEN ROWS OF THIS SEAT. 3 by the template 'for every input the law returns true; each argument reads behind the call as it read before'; 0 by the template 'total and deterministic' (their statements: YtihpoacilccldaaTotals.lean).
  GIVEN WITH THE SEED: the statements are not yours to turn. If you find one false, say at which input.
  Laid BY PROGRAM, IN A SANDBOX (cutbox-rows.mjs): the forced cells as the released guide's own fill.sh prints them over the translation 8592b4d1162ba068… (all of the seat's roots in one cut). By AI agents, Wed Nov 11 2026. No macro, syntax, notation, axiom, sorry.
-/
import Derived.Test.YtihpoacilccldaaChecked
import GoSem.Claim
import GoSem.ClaimJoined
import GoSem.ClaimMapViews
import Derived.JoinedTies
import Derived.KernelRfl
namespace Go.Proofs.Ytihpoacilccldaa
/- THE CELL 'sum', in the pinned program and in every row, IS THE sha256 OF THE DUMP (.gsa) THAT YtihpoacilccldaaProg.lean LOADS. Nothing in Lean hashes anything: it is a label: what it is worth is what the hold of that sum in a sandbox is worth. -/
noncomputable def Try.pinned : Pinned := { name := "ytihpoacilccldaa", sum := "8592b4d1162ba068da96019c92b7c0e37baef442e5d3555af17007652b8c4f25", checked := Try.checked }
namespace Rows
def none {H : Type} : Left H := { results := [], args := [] }

/-- 'signalbrokerlaw16.RateFills': WHATEVER THE INPUT: true; the input reads as it did. -/
def rateFillsSpec : ChangeSpec := { name := "rateFills", fn := fun _ => fun
  | [d1, d2, d3] => { results := [.lit (.bool true)], args := [d1, d2, d3] }
  | _ => none }
def rateFillsRow : OpenClaim := { program := "ytihpoacilccldaa", sum := "8592b4d1162ba068da96019c92b7c0e37baef442e5d3555af17007652b8c4f25", func := "signalbroker/signalbrokerlaw16.RateFills", spec := "rateFills", apart := false }
def RateFillsSaid : Prop := rateFillsRow.holds Try.pinned (OpenSpec.ofChange rateFillsSpec)

/-- ITS FALSE NEIGHBOUR: 'it returns false'. Refute it at one input. -/
def rateFillsWrong : ChangeSpec := { name := "rateFills", fn := fun _ => fun
  | [d1, d2, d3] => { results := [.lit (.bool false)], args := [d1, d2, d3] }
  | _ => none }
def RateFillsWrongFalsely : Prop := rateFillsRow.holds Try.pinned (OpenSpec.ofChange rateFillsWrong)

/-- 'signalbrokerlaw16.RateSteps': WHATEVER THE INPUT: true; the input reads as it did. -/
def rateStepsSpec : ChangeSpec := { name := "rateSteps", fn := fun _ => fun
  | [d1, d2, d3, d4] => { results := [.lit (.bool true)], args := [d1, d2, d3, d4] }
  | _ => none }
def rateStepsRow : OpenClaim := { program := "ytihpoacilccldaa", sum := "8592b4d1162ba068da96019c92b7c0e37baef442e5d3555af17007652b8c4f25", func := "signalbroker/signalbrokerlaw16.RateSteps", spec := "rateSteps", apart := false }
def RateStepsSaid : Prop := rateStepsRow.holds Try.pinned (OpenSpec.ofChange rateStepsSpec)

/-- ITS FALSE NEIGHBOUR: 'it returns false'. Refute it at one input. -/
def rateStepsWrong : ChangeSpec := { name := "rateSteps", fn := fun _ => fun
  | [d1, d2, d3, d4] => { results := [.lit (.bool false)], args := [d1, d2, d3, d4] }
  | _ => none }
def RateStepsWrongFalsely : Prop := rateStepsRow.holds Try.pinned (OpenSpec.ofChange rateStepsWrong)

/-- 'signalbrokerlaw16.RateBounds': WHATEVER THE INPUT: true; the input reads as it did. -/
def rateBoundsSpec : ChangeSpec := { name := "rateBounds", fn := fun _ => fun
  | [d1, d2, d3] => { results := [.lit (.bool true)], args := [d1, d2, d3] }
  | _ => none }
def rateBoundsRow : OpenClaim := { program := "ytihpoacilccldaa", sum := "8592b4d1162ba068da96019c92b7c0e37baef442e5d3555af17007652b8c4f25", func := "signalbroker/signalbrokerlaw16.RateBounds", spec := "rateBounds", apart := false }
def RateBoundsSaid : Prop := rateBoundsRow.holds Try.pinned (OpenSpec.ofChange rateBoundsSpec)

/-- ITS FALSE NEIGHBOUR: 'it returns false'. Refute it at one input. -/
def rateBoundsWrong : ChangeSpec := { name := "rateBounds", fn := fun _ => fun
  | [d1, d2, d3] => { results := [.lit (.bool false)], args := [d1, d2, d3] }
  | _ => none }
def RateBoundsWrongFalsely : Prop := rateBoundsRow.holds Try.pinned (OpenSpec.ofChange rateBoundsWrong)

/- THE SECOND FORM. 'bulk': how many values and letters a reading holds, each counted each time it is reached (what is shared counts as often as it is met; a slice's spare places count too). A statement '..UptoSaid' is the law's where the arguments, and the package variables that the reading takes, are together of bulk at most 1048576: NARROWER than '..Said'. Prove '..Said' where nothing that the law and all that it calls make is longer than what came in: it says more and counts as full. Else prove '..UptoSaid'. A law counts once. -/
mutual
def uptoBulk {H : Type} : DataW H → Nat
  | .lit (.string bytes) => bytes.length + 1
  | .lit _ => 1
  | .nil => 1
  | .ptr d => uptoBulk d + 1
  | .slice elems spare => uptoBulkAll elems + uptoBulkAll spare + 1
  | .agg parts => uptoBulkAll parts + 1
  | .iface _ d => uptoBulk d + 1
  | .map entries => uptoBulkEntries entries + 1
  | .held _ => 1
def uptoBulkAll {H : Type} : List (DataW H) → Nat
  | [] => 0
  | d :: r => uptoBulk d + uptoBulkAll r
def uptoBulkEntries {H : Type} : List (Lit × DataW H) → Nat
  | [] => 0
  | x :: r => uptoBulkEntry x + uptoBulkEntries r
def uptoBulkEntry {H : Type} : Lit × DataW H → Nat
  | (.string bytes, d) => bytes.length + uptoBulk d + 1
  | (_, d) => uptoBulk d + 1
 end
def uptoSmall : (H : Type) → List (DataW H) → Bool := fun _ ds => decide (uptoBulkAll ds ≤ 1048576)
def OpenSpec.upto (s : _root_.Go.ChangeSpec) : _root_.Go.OpenSpec := { _root_.Go.OpenSpec.ofChange s with cond := some uptoSmall }

/-- 'signalbrokerlaw16.RateFills', WHERE WHAT IT READS IS OF BULK AT MOST 1048576: true; the input reads as it did. -/
def rateFillsUptoRow : OpenClaim := { program := "ytihpoacilccldaa", sum := "8592b4d1162ba068da96019c92b7c0e37baef442e5d3555af17007652b8c4f25", func := "signalbroker/signalbrokerlaw16.RateFills", spec := "rateFills", apart := false, narrowed := true }
def RateFillsUptoSaid : Prop := rateFillsUptoRow.holds Try.pinned (OpenSpec.upto rateFillsSpec)

/-- 'signalbrokerlaw16.RateSteps', WHERE WHAT IT READS IS OF BULK AT MOST 1048576: true; the input reads as it did. -/
def rateStepsUptoRow : OpenClaim := { program := "ytihpoacilccldaa", sum := "8592b4d1162ba068da96019c92b7c0e37baef442e5d3555af17007652b8c4f25", func := "signalbroker/signalbrokerlaw16.RateSteps", spec := "rateSteps", apart := false, narrowed := true }
def RateStepsUptoSaid : Prop := rateStepsUptoRow.holds Try.pinned (OpenSpec.upto rateStepsSpec)

/-- 'signalbrokerlaw16.RateBounds', WHERE WHAT IT READS IS OF BULK AT MOST 1048576: true; the input reads as it did. -/
def rateBoundsUptoRow : OpenClaim := { program := "ytihpoacilccldaa", sum := "8592b4d1162ba068da96019c92b7c0e37baef442e5d3555af17007652b8c4f25", func := "signalbroker/signalbrokerlaw16.RateBounds", spec := "rateBounds", apart := false, narrowed := true }
def RateBoundsUptoSaid : Prop := rateBoundsUptoRow.holds Try.pinned (OpenSpec.upto rateBoundsSpec)

end Rows
end Go.Proofs.Ytihpoacilccldaa
