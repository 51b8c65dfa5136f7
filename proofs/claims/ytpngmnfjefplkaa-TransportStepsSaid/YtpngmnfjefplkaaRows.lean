/-
  No cell of these rows narrows 'for every input' (looked for: loops, veiled, ifaces, maps, wideKeys, modest, calm, conditions, laid).
  DERIVED. THE GIVEN ROWS OF THIS SEAT. 5 by the template 'for every input the law returns true; each argument reads behind the call as it read before'; 0 by the template 'total and deterministic' (their statements: YtpngmnfjefplkaaTotals.lean).
  GIVEN WITH THE SEED: the statements are not yours to turn. If you find one false, say at which input.
  Laid BY PROGRAM, IN A SANDBOX (cutbox-rows.mjs): the forced cells as the released guide's own fill.sh prints them over the translation 28598bac2062b28e… (all of the seat's roots in one cut). By AI agents, Wed Nov 11 2026. No macro, syntax, notation, axiom, sorry.
-/
import Derived.Test.YtpngmnfjefplkaaChecked
import GoSem.Claim
import GoSem.ClaimJoined
import GoSem.ClaimMapViews
import Derived.JoinedTies
import Derived.KernelRfl
namespace Go.Proofs.Ytpngmnfjefplkaa
/- THE CELL 'sum', in the pinned program and in every row, IS THE sha256 OF THE DUMP (.gsa) THAT YtpngmnfjefplkaaProg.lean LOADS. Nothing in Lean hashes anything: it is a label: what it is worth is what the hold of that sum in a sandbox is worth. -/
noncomputable def Try.pinned : Pinned := { name := "ytpngmnfjefplkaa", sum := "28598bac2062b28e4410d70d0afec73ed9126e5a169d7bc454c1002ef40c5650", checked := Try.checked }
namespace Rows
def none {H : Type} : Left H := { results := [], args := [] }

/-- 'debuggerlaw20.CfiEncodes': WHATEVER THE INPUT: true; the input reads as it did. -/
def cfiEncodesSpec : ChangeSpec := { name := "cfiEncodes", fn := fun _ => fun
  | [d1, d2] => { results := [.lit (.bool true)], args := [d1, d2] }
  | _ => none }
def cfiEncodesRow : OpenClaim := { program := "ytpngmnfjefplkaa", sum := "28598bac2062b28e4410d70d0afec73ed9126e5a169d7bc454c1002ef40c5650", func := "debugger/debuggerlaw20.CfiEncodes", spec := "cfiEncodes", unfollowed := true, recurses := true, apart := false }
def CfiEncodesSaid : Prop := cfiEncodesRow.holds Try.pinned (OpenSpec.ofChange cfiEncodesSpec)

/-- ITS FALSE NEIGHBOUR: 'it returns false'. Refute it at one input. -/
def cfiEncodesWrong : ChangeSpec := { name := "cfiEncodes", fn := fun _ => fun
  | [d1, d2] => { results := [.lit (.bool false)], args := [d1, d2] }
  | _ => none }
def CfiEncodesWrongFalsely : Prop := cfiEncodesRow.holds Try.pinned (OpenSpec.ofChange cfiEncodesWrong)

/-- 'debuggerlaw20.CfiDecodes': WHATEVER THE INPUT: true; the input reads as it did. -/
def cfiDecodesSpec : ChangeSpec := { name := "cfiDecodes", fn := fun _ => fun
  | [d1, d2, d3, d4, d5] => { results := [.lit (.bool true)], args := [d1, d2, d3, d4, d5] }
  | _ => none }
def cfiDecodesRow : OpenClaim := { program := "ytpngmnfjefplkaa", sum := "28598bac2062b28e4410d70d0afec73ed9126e5a169d7bc454c1002ef40c5650", func := "debugger/debuggerlaw20.CfiDecodes", spec := "cfiDecodes", unfollowed := true, recurses := true, apart := false }
def CfiDecodesSaid : Prop := cfiDecodesRow.holds Try.pinned (OpenSpec.ofChange cfiDecodesSpec)

/-- ITS FALSE NEIGHBOUR: 'it returns false'. Refute it at one input. -/
def cfiDecodesWrong : ChangeSpec := { name := "cfiDecodes", fn := fun _ => fun
  | [d1, d2, d3, d4, d5] => { results := [.lit (.bool false)], args := [d1, d2, d3, d4, d5] }
  | _ => none }
def CfiDecodesWrongFalsely : Prop := cfiDecodesRow.holds Try.pinned (OpenSpec.ofChange cfiDecodesWrong)

/-- 'debuggerlaw20.CfiFind': WHATEVER THE INPUT: true; the input reads as it did. -/
def cfiFindSpec : ChangeSpec := { name := "cfiFind", fn := fun _ => fun
  | [d1, d2, d3] => { results := [.lit (.bool true)], args := [d1, d2, d3] }
  | _ => none }
def cfiFindRow : OpenClaim := { program := "ytpngmnfjefplkaa", sum := "28598bac2062b28e4410d70d0afec73ed9126e5a169d7bc454c1002ef40c5650", func := "debugger/debuggerlaw20.CfiFind", spec := "cfiFind", unfollowed := true, recurses := true, apart := false }
def CfiFindSaid : Prop := cfiFindRow.holds Try.pinned (OpenSpec.ofChange cfiFindSpec)

/-- ITS FALSE NEIGHBOUR: 'it returns false'. Refute it at one input. -/
def cfiFindWrong : ChangeSpec := { name := "cfiFind", fn := fun _ => fun
  | [d1, d2, d3] => { results := [.lit (.bool false)], args := [d1, d2, d3] }
  | _ => none }
def CfiFindWrongFalsely : Prop := cfiFindRow.holds Try.pinned (OpenSpec.ofChange cfiFindWrong)

/-- 'debuggerlaw35.TransportSteps': WHATEVER THE INPUT: true; the input reads as it did. -/
def transportStepsSpec : ChangeSpec := { name := "transportSteps", fn := fun _ => fun
  | [d1, d2, d3, d4, d5] => { results := [.lit (.bool true)], args := [d1, d2, d3, d4, d5] }
  | _ => none }
def transportStepsRow : OpenClaim := { program := "ytpngmnfjefplkaa", sum := "28598bac2062b28e4410d70d0afec73ed9126e5a169d7bc454c1002ef40c5650", func := "debugger/debuggerlaw35.TransportSteps", spec := "transportSteps", unfollowed := true, recurses := true, apart := false }
def TransportStepsSaid : Prop := transportStepsRow.holds Try.pinned (OpenSpec.ofChange transportStepsSpec)

/-- ITS FALSE NEIGHBOUR: 'it returns false'. Refute it at one input. -/
def transportStepsWrong : ChangeSpec := { name := "transportSteps", fn := fun _ => fun
  | [d1, d2, d3, d4, d5] => { results := [.lit (.bool false)], args := [d1, d2, d3, d4, d5] }
  | _ => none }
def TransportStepsWrongFalsely : Prop := transportStepsRow.holds Try.pinned (OpenSpec.ofChange transportStepsWrong)

/-- 'debuggerlaw35.TransportPushes': WHATEVER THE INPUT: true; the input reads as it did. -/
def transportPushesSpec : ChangeSpec := { name := "transportPushes", fn := fun _ => fun
  | [d1, d2, d3] => { results := [.lit (.bool true)], args := [d1, d2, d3] }
  | _ => none }
def transportPushesRow : OpenClaim := { program := "ytpngmnfjefplkaa", sum := "28598bac2062b28e4410d70d0afec73ed9126e5a169d7bc454c1002ef40c5650", func := "debugger/debuggerlaw35.TransportPushes", spec := "transportPushes", unfollowed := true, recurses := true, apart := false }
def TransportPushesSaid : Prop := transportPushesRow.holds Try.pinned (OpenSpec.ofChange transportPushesSpec)

/-- ITS FALSE NEIGHBOUR: 'it returns false'. Refute it at one input. -/
def transportPushesWrong : ChangeSpec := { name := "transportPushes", fn := fun _ => fun
  | [d1, d2, d3] => { results := [.lit (.bool false)], args := [d1, d2, d3] }
  | _ => none }
def TransportPushesWrongFalsely : Prop := transportPushesRow.holds Try.pinned (OpenSpec.ofChange transportPushesWrong)

/- THE SECOND FORM. 'bulk': how many values and letters a reading holds, each counted each time it is reached (what is shared counts as often as it is met; a slice's spare places count too). A statement '..UptoSaid' is the law's where the arguments, and the package variables that the reading takes, are together of bulk at most 1048576: NARROWER than '..Said'. Prove '..Said' where nothing that the law and all that it calls make is longer than what came in: it says more and counts as full. Else prove '..UptoSaid'. A law counts once. -/
mutual
def uptoBulk {H : Type} : DataW H → Nat
  | .lit (.string bytes) => bytes.length + 1
  | .lit _ => 1
  | .nil => 1
  | .ptr d => uptoBulk d + 1
  | .slice elems spare => uptoBulkAll elems + uptoBulkAll spare + 1
  | .agg parts => uptoBulkAll parts + 1
  | .iface _ d => uptoBulk d + 1
  | .map entries => uptoBulkEntries entries + 1
  | .held _ => 1
def uptoBulkAll {H : Type} : List (DataW H) → Nat
  | [] => 0
  | d :: r => uptoBulk d + uptoBulkAll r
def uptoBulkEntries {H : Type} : List (Lit × DataW H) → Nat
  | [] => 0
  | x :: r => uptoBulkEntry x + uptoBulkEntries r
def uptoBulkEntry {H : Type} : Lit × DataW H → Nat
  | (.string bytes, d) => bytes.length + uptoBulk d + 1
  | (_, d) => uptoBulk d + 1
 end
def uptoSmall : (H : Type) → List (DataW H) → Bool := fun _ ds => decide (uptoBulkAll ds ≤ 1048576)
def OpenSpec.upto (s : _root_.Go.ChangeSpec) : _root_.Go.OpenSpec := { _root_.Go.OpenSpec.ofChange s with cond := some uptoSmall }

/-- 'debuggerlaw20.CfiEncodes', WHERE WHAT IT READS IS OF BULK AT MOST 1048576: true; the input reads as it did. -/
def cfiEncodesUptoRow : OpenClaim := { program := "ytpngmnfjefplkaa", sum := "28598bac2062b28e4410d70d0afec73ed9126e5a169d7bc454c1002ef40c5650", func := "debugger/debuggerlaw20.CfiEncodes", spec := "cfiEncodes", unfollowed := true, recurses := true, apart := false, narrowed := true }
def CfiEncodesUptoSaid : Prop := cfiEncodesUptoRow.holds Try.pinned (OpenSpec.upto cfiEncodesSpec)

/-- 'debuggerlaw20.CfiDecodes', WHERE WHAT IT READS IS OF BULK AT MOST 1048576: true; the input reads as it did. -/
def cfiDecodesUptoRow : OpenClaim := { program := "ytpngmnfjefplkaa", sum := "28598bac2062b28e4410d70d0afec73ed9126e5a169d7bc454c1002ef40c5650", func := "debugger/debuggerlaw20.CfiDecodes", spec := "cfiDecodes", unfollowed := true, recurses := true, apart := false, narrowed := true }
def CfiDecodesUptoSaid : Prop := cfiDecodesUptoRow.holds Try.pinned (OpenSpec.upto cfiDecodesSpec)

/-- 'debuggerlaw20.CfiFind', WHERE WHAT IT READS IS OF BULK AT MOST 1048576: true; the input reads as it did. -/
def cfiFindUptoRow : OpenClaim := { program := "ytpngmnfjefplkaa", sum := "28598bac2062b28e4410d70d0afec73ed9126e5a169d7bc454c1002ef40c5650", func := "debugger/debuggerlaw20.CfiFind", spec := "cfiFind", unfollowed := true, recurses := true, apart := false, narrowed := true }
def CfiFindUptoSaid : Prop := cfiFindUptoRow.holds Try.pinned (OpenSpec.upto cfiFindSpec)

/-- 'debuggerlaw35.TransportSteps', WHERE WHAT IT READS IS OF BULK AT MOST 1048576: true; the input reads as it did. -/
def transportStepsUptoRow : OpenClaim := { program := "ytpngmnfjefplkaa", sum := "28598bac2062b28e4410d70d0afec73ed9126e5a169d7bc454c1002ef40c5650", func := "debugger/debuggerlaw35.TransportSteps", spec := "transportSteps", unfollowed := true, recurses := true, apart := false, narrowed := true }
def TransportStepsUptoSaid : Prop := transportStepsUptoRow.holds Try.pinned (OpenSpec.upto transportStepsSpec)

/-- 'debuggerlaw35.TransportPushes', WHERE WHAT IT READS IS OF BULK AT MOST 1048576: true; the input reads as it did. -/
def transportPushesUptoRow : OpenClaim := { program := "ytpngmnfjefplkaa", sum := "28598bac2062b28e4410d70d0afec73ed9126e5a169d7bc454c1002ef40c5650", func := "debugger/debuggerlaw35.TransportPushes", spec := "transportPushes", unfollowed := true, recurses := true, apart := false, narrowed := true }
def TransportPushesUptoSaid : Prop := transportPushesUptoRow.holds Try.pinned (OpenSpec.upto transportPushesSpec)

end Rows
end Go.Proofs.Ytpngmnfjefplkaa
