/-
  No cell of these rows narrows 'for every input' (looked for: loops, veiled, ifaces, maps, wideKeys, modest, calm, conditions, laid).
  DERIVED. THE GIVEN ROWS OF THIS SEAT. 4 by the template 'for every input the law returns true; each argument reads behind the call as it read before'; 0 by the template 'total and deterministic' (their statements: YtopanbcodfkedaaTotals.lean).
  GIVEN WITH THE SEED: the statements are not yours to turn. If you find one false, say at which input.
  Laid BY PROGRAM, IN A SANDBOX (cutbox-rows.mjs): the forced cells as the released guide's own fill.sh prints them over the translation 34b14a6db42cddbd… (all of the seat's roots in one cut). By AI agents, Wed Nov 11 2026. No macro, syntax, notation, axiom, sorry.
-/
import Derived.Test.YtopanbcodfkedaaChecked
import GoSem.Claim
import GoSem.ClaimJoined
import GoSem.ClaimMapViews
import Derived.JoinedTies
import Derived.KernelRfl
namespace Go.Proofs.Ytopanbcodfkedaa
/- THE CELL 'sum', in the pinned program and in every row, IS THE sha256 OF THE DUMP (.gsa) THAT YtopanbcodfkedaaProg.lean LOADS. Nothing in Lean hashes anything: it is a label: what it is worth is what the hold of that sum in a sandbox is worth. -/
noncomputable def Try.pinned : Pinned := { name := "ytopanbcodfkedaa", sum := "34b14a6db42cddbd8c8f406ddf00306c702d73326b7b4a0cf791749b5d72ee51", checked := Try.checked }
namespace Rows
def none {H : Type} : Left H := { results := [], args := [] }

/-- 'debuggerlaw21.InfoEncodes': WHATEVER THE INPUT: true; the input reads as it did. -/
def infoEncodesSpec : ChangeSpec := { name := "infoEncodes", fn := fun _ => fun
  | [d1, d2] => { results := [.lit (.bool true)], args := [d1, d2] }
  | _ => none }
def infoEncodesRow : OpenClaim := { program := "ytopanbcodfkedaa", sum := "34b14a6db42cddbd8c8f406ddf00306c702d73326b7b4a0cf791749b5d72ee51", func := "debugger/debuggerlaw21.InfoEncodes", spec := "infoEncodes", unfollowed := true, recurses := true, apart := false }
def InfoEncodesSaid : Prop := infoEncodesRow.holds Try.pinned (OpenSpec.ofChange infoEncodesSpec)

/-- ITS FALSE NEIGHBOUR: 'it returns false'. Refute it at one input. -/
def infoEncodesWrong : ChangeSpec := { name := "infoEncodes", fn := fun _ => fun
  | [d1, d2] => { results := [.lit (.bool false)], args := [d1, d2] }
  | _ => none }
def InfoEncodesWrongFalsely : Prop := infoEncodesRow.holds Try.pinned (OpenSpec.ofChange infoEncodesWrong)

/-- 'debuggerlaw21.InfoDecodes': WHATEVER THE INPUT: true; the input reads as it did. -/
def infoDecodesSpec : ChangeSpec := { name := "infoDecodes", fn := fun _ => fun
  | [d1, d2, d3, d4, d5, d6] => { results := [.lit (.bool true)], args := [d1, d2, d3, d4, d5, d6] }
  | _ => none }
def infoDecodesRow : OpenClaim := { program := "ytopanbcodfkedaa", sum := "34b14a6db42cddbd8c8f406ddf00306c702d73326b7b4a0cf791749b5d72ee51", func := "debugger/debuggerlaw21.InfoDecodes", spec := "infoDecodes", unfollowed := true, recurses := true, apart := false }
def InfoDecodesSaid : Prop := infoDecodesRow.holds Try.pinned (OpenSpec.ofChange infoDecodesSpec)

/-- ITS FALSE NEIGHBOUR: 'it returns false'. Refute it at one input. -/
def infoDecodesWrong : ChangeSpec := { name := "infoDecodes", fn := fun _ => fun
  | [d1, d2, d3, d4, d5, d6] => { results := [.lit (.bool false)], args := [d1, d2, d3, d4, d5, d6] }
  | _ => none }
def InfoDecodesWrongFalsely : Prop := infoDecodesRow.holds Try.pinned (OpenSpec.ofChange infoDecodesWrong)

/-- 'debuggerlaw21.InfoShapes': WHATEVER THE INPUT: true; the input reads as it did. -/
def infoShapesSpec : ChangeSpec := { name := "infoShapes", fn := fun _ => fun
  | [d1, d2] => { results := [.lit (.bool true)], args := [d1, d2] }
  | _ => none }
def infoShapesRow : OpenClaim := { program := "ytopanbcodfkedaa", sum := "34b14a6db42cddbd8c8f406ddf00306c702d73326b7b4a0cf791749b5d72ee51", func := "debugger/debuggerlaw21.InfoShapes", spec := "infoShapes", unfollowed := true, recurses := true, apart := false }
def InfoShapesSaid : Prop := infoShapesRow.holds Try.pinned (OpenSpec.ofChange infoShapesSpec)

/-- ITS FALSE NEIGHBOUR: 'it returns false'. Refute it at one input. -/
def infoShapesWrong : ChangeSpec := { name := "infoShapes", fn := fun _ => fun
  | [d1, d2] => { results := [.lit (.bool false)], args := [d1, d2] }
  | _ => none }
def InfoShapesWrongFalsely : Prop := infoShapesRow.holds Try.pinned (OpenSpec.ofChange infoShapesWrong)

/-- 'debuggerlaw21.InfoFind': WHATEVER THE INPUT: true; the input reads as it did. -/
def infoFindSpec : ChangeSpec := { name := "infoFind", fn := fun _ => fun
  | [d1, d2] => { results := [.lit (.bool true)], args := [d1, d2] }
  | _ => none }
def infoFindRow : OpenClaim := { program := "ytopanbcodfkedaa", sum := "34b14a6db42cddbd8c8f406ddf00306c702d73326b7b4a0cf791749b5d72ee51", func := "debugger/debuggerlaw21.InfoFind", spec := "infoFind", unfollowed := true, recurses := true, apart := false }
def InfoFindSaid : Prop := infoFindRow.holds Try.pinned (OpenSpec.ofChange infoFindSpec)

/-- ITS FALSE NEIGHBOUR: 'it returns false'. Refute it at one input. -/
def infoFindWrong : ChangeSpec := { name := "infoFind", fn := fun _ => fun
  | [d1, d2] => { results := [.lit (.bool false)], args := [d1, d2] }
  | _ => none }
def InfoFindWrongFalsely : Prop := infoFindRow.holds Try.pinned (OpenSpec.ofChange infoFindWrong)

/- THE SECOND FORM. 'bulk': how many values and letters a reading holds, each counted each time it is reached (what is shared counts as often as it is met; a slice's spare places count too). A statement '..UptoSaid' is the law's where the arguments, and the package variables that the reading takes, are together of bulk at most 1048576: NARROWER than '..Said'. Prove '..Said' where nothing that the law and all that it calls make is longer than what came in: it says more and counts as full. Else prove '..UptoSaid'. A law counts once. -/
mutual
def uptoBulk {H : Type} : DataW H → Nat
  | .lit (.string bytes) => bytes.length + 1
  | .lit _ => 1
  | .nil => 1
  | .ptr d => uptoBulk d + 1
  | .slice elems spare => uptoBulkAll elems + uptoBulkAll spare + 1
  | .agg parts => uptoBulkAll parts + 1
  | .iface _ d => uptoBulk d + 1
  | .map entries => uptoBulkEntries entries + 1
  | .held _ => 1
def uptoBulkAll {H : Type} : List (DataW H) → Nat
  | [] => 0
  | d :: r => uptoBulk d + uptoBulkAll r
def uptoBulkEntries {H : Type} : List (Lit × DataW H) → Nat
  | [] => 0
  | x :: r => uptoBulkEntry x + uptoBulkEntries r
def uptoBulkEntry {H : Type} : Lit × DataW H → Nat
  | (.string bytes, d) => bytes.length + uptoBulk d + 1
  | (_, d) => uptoBulk d + 1
 end
def uptoSmall : (H : Type) → List (DataW H) → Bool := fun _ ds => decide (uptoBulkAll ds ≤ 1048576)
def OpenSpec.upto (s : _root_.Go.ChangeSpec) : _root_.Go.OpenSpec := { _root_.Go.OpenSpec.ofChange s with cond := some uptoSmall }

/-- 'debuggerlaw21.InfoEncodes', WHERE WHAT IT READS IS OF BULK AT MOST 1048576: true; the input reads as it did. -/
def infoEncodesUptoRow : OpenClaim := { program := "ytopanbcodfkedaa", sum := "34b14a6db42cddbd8c8f406ddf00306c702d73326b7b4a0cf791749b5d72ee51", func := "debugger/debuggerlaw21.InfoEncodes", spec := "infoEncodes", unfollowed := true, recurses := true, apart := false, narrowed := true }
def InfoEncodesUptoSaid : Prop := infoEncodesUptoRow.holds Try.pinned (OpenSpec.upto infoEncodesSpec)

/-- 'debuggerlaw21.InfoDecodes', WHERE WHAT IT READS IS OF BULK AT MOST 1048576: true; the input reads as it did. -/
def infoDecodesUptoRow : OpenClaim := { program := "ytopanbcodfkedaa", sum := "34b14a6db42cddbd8c8f406ddf00306c702d73326b7b4a0cf791749b5d72ee51", func := "debugger/debuggerlaw21.InfoDecodes", spec := "infoDecodes", unfollowed := true, recurses := true, apart := false, narrowed := true }
def InfoDecodesUptoSaid : Prop := infoDecodesUptoRow.holds Try.pinned (OpenSpec.upto infoDecodesSpec)

/-- 'debuggerlaw21.InfoShapes', WHERE WHAT IT READS IS OF BULK AT MOST 1048576: true; the input reads as it did. -/
def infoShapesUptoRow : OpenClaim := { program := "ytopanbcodfkedaa", sum := "34b14a6db42cddbd8c8f406ddf00306c702d73326b7b4a0cf791749b5d72ee51", func := "debugger/debuggerlaw21.InfoShapes", spec := "infoShapes", unfollowed := true, recurses := true, apart := false, narrowed := true }
def InfoShapesUptoSaid : Prop := infoShapesUptoRow.holds Try.pinned (OpenSpec.upto infoShapesSpec)

/-- 'debuggerlaw21.InfoFind', WHERE WHAT IT READS IS OF BULK AT MOST 1048576: true; the input reads as it did. -/
def infoFindUptoRow : OpenClaim := { program := "ytopanbcodfkedaa", sum := "34b14a6db42cddbd8c8f406ddf00306c702d73326b7b4a0cf791749b5d72ee51", func := "debugger/debuggerlaw21.InfoFind", spec := "infoFind", unfollowed := true, recurses := true, apart := false, narrowed := true }
def InfoFindUptoSaid : Prop := infoFindUptoRow.holds Try.pinned (OpenSpec.upto infoFindSpec)

end Rows
end Go.Proofs.Ytopanbcodfkedaa
