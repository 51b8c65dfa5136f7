/-
  No cell of these rows narrows 'for every input' (looked for: loops, veiled, ifaces, maps, wideKeys, modest, calm, conditions, laid).
  DERIVED. THE GIVEN ROWS OF THIS SEAT. 10 by the template 'for every input the law returns true; each argument reads behind the call as it read before'; 0 by the template 'total and deterministic' (their statements: YtokmbdeafjmcjaaTotals.lean).
  GIVEN WITH THE SEED: the statements are not yours to turn. If you find one false, say at which input.
  Laid BY PROGRAM, IN A SANDBOX (cutbox-rows.mjs): the forced cells as the released guide's own fill.sh prints them over the translation 19e85655c43a55d6… (all of the seat's roots in one cut). By AI agents, Wed Nov 11 2026. No macro, syntax, notation, axiom, sorry.
-/
import Derived.Test.YtokmbdeafjmcjaaChecked
import GoSem.Claim
import GoSem.ClaimJoined
import GoSem.ClaimMapViews
import Derived.JoinedTies
import Derived.KernelRfl
namespace Go.Proofs.Ytokmbdeafjmcjaa
/- THE CELL 'sum', in the pinned program and in every row, IS THE sha256 OF THE DUMP (.gsa) THAT YtokmbdeafjmcjaaProg.lean LOADS. Nothing in Lean hashes anything: it is a label: what it is worth is what the hold of that sum in a sandbox is worth. -/
noncomputable def Try.pinned : Pinned := { name := "ytokmbdeafjmcjaa", sum := "19e85655c43a55d6e02c59ee39c93a0d216326e7b39a622d3583a0650f2a3453", checked := Try.checked }
namespace Rows
def none {H : Type} : Left H := { results := [], args := [] }

/-- 'debuggerlaw20.CfiEncodes': WHATEVER THE INPUT: true; the input reads as it did. -/
def cfiEncodesSpec : ChangeSpec := { name := "cfiEncodes", fn := fun _ => fun
  | [d1, d2] => { results := [.lit (.bool true)], args := [d1, d2] }
  | _ => none }
def cfiEncodesRow : OpenClaim := { program := "ytokmbdeafjmcjaa", sum := "19e85655c43a55d6e02c59ee39c93a0d216326e7b39a622d3583a0650f2a3453", func := "debugger/debuggerlaw20.CfiEncodes", spec := "cfiEncodes", unfollowed := true, recurses := true, plainKeys := false, apart := false }
def CfiEncodesSaid : Prop := cfiEncodesRow.holds Try.pinned (OpenSpec.ofChange cfiEncodesSpec)

/-- ITS FALSE NEIGHBOUR: 'it returns false'. Refute it at one input. -/
def cfiEncodesWrong : ChangeSpec := { name := "cfiEncodes", fn := fun _ => fun
  | [d1, d2] => { results := [.lit (.bool false)], args := [d1, d2] }
  | _ => none }
def CfiEncodesWrongFalsely : Prop := cfiEncodesRow.holds Try.pinned (OpenSpec.ofChange cfiEncodesWrong)

/-- 'debuggerlaw20.CfiDecodes': WHATEVER THE INPUT: true; the input reads as it did. -/
def cfiDecodesSpec : ChangeSpec := { name := "cfiDecodes", fn := fun _ => fun
  | [d1, d2, d3, d4, d5] => { results := [.lit (.bool true)], args := [d1, d2, d3, d4, d5] }
  | _ => none }
def cfiDecodesRow : OpenClaim := { program := "ytokmbdeafjmcjaa", sum := "19e85655c43a55d6e02c59ee39c93a0d216326e7b39a622d3583a0650f2a3453", func := "debugger/debuggerlaw20.CfiDecodes", spec := "cfiDecodes", unfollowed := true, recurses := true, plainKeys := false, apart := false }
def CfiDecodesSaid : Prop := cfiDecodesRow.holds Try.pinned (OpenSpec.ofChange cfiDecodesSpec)

/-- ITS FALSE NEIGHBOUR: 'it returns false'. Refute it at one input. -/
def cfiDecodesWrong : ChangeSpec := { name := "cfiDecodes", fn := fun _ => fun
  | [d1, d2, d3, d4, d5] => { results := [.lit (.bool false)], args := [d1, d2, d3, d4, d5] }
  | _ => none }
def CfiDecodesWrongFalsely : Prop := cfiDecodesRow.holds Try.pinned (OpenSpec.ofChange cfiDecodesWrong)

/-- 'debuggerlaw20.CfiFind': WHATEVER THE INPUT: true; the input reads as it did. -/
def cfiFindSpec : ChangeSpec := { name := "cfiFind", fn := fun _ => fun
  | [d1, d2, d3] => { results := [.lit (.bool true)], args := [d1, d2, d3] }
  | _ => none }
def cfiFindRow : OpenClaim := { program := "ytokmbdeafjmcjaa", sum := "19e85655c43a55d6e02c59ee39c93a0d216326e7b39a622d3583a0650f2a3453", func := "debugger/debuggerlaw20.CfiFind", spec := "cfiFind", unfollowed := true, recurses := true, plainKeys := false, apart := false }
def CfiFindSaid : Prop := cfiFindRow.holds Try.pinned (OpenSpec.ofChange cfiFindSpec)

/-- ITS FALSE NEIGHBOUR: 'it returns false'. Refute it at one input. -/
def cfiFindWrong : ChangeSpec := { name := "cfiFind", fn := fun _ => fun
  | [d1, d2, d3] => { results := [.lit (.bool false)], args := [d1, d2, d3] }
  | _ => none }
def CfiFindWrongFalsely : Prop := cfiFindRow.holds Try.pinned (OpenSpec.ofChange cfiFindWrong)

/-- 'debuggerlaw18.LinesEncodes': WHATEVER THE INPUT: true; the input reads as it did. -/
def linesEncodesSpec : ChangeSpec := { name := "linesEncodes", fn := fun _ => fun
  | [d1, d2] => { results := [.lit (.bool true)], args := [d1, d2] }
  | _ => none }
def linesEncodesRow : OpenClaim := { program := "ytokmbdeafjmcjaa", sum := "19e85655c43a55d6e02c59ee39c93a0d216326e7b39a622d3583a0650f2a3453", func := "debugger/debuggerlaw18.LinesEncodes", spec := "linesEncodes", unfollowed := true, recurses := true, plainKeys := false, apart := false }
def LinesEncodesSaid : Prop := linesEncodesRow.holds Try.pinned (OpenSpec.ofChange linesEncodesSpec)

/-- ITS FALSE NEIGHBOUR: 'it returns false'. Refute it at one input. -/
def linesEncodesWrong : ChangeSpec := { name := "linesEncodes", fn := fun _ => fun
  | [d1, d2] => { results := [.lit (.bool false)], args := [d1, d2] }
  | _ => none }
def LinesEncodesWrongFalsely : Prop := linesEncodesRow.holds Try.pinned (OpenSpec.ofChange linesEncodesWrong)

/-- 'debuggerlaw18.LinesPrograms': WHATEVER THE INPUT: true; the input reads as it did. -/
def linesProgramsSpec : ChangeSpec := { name := "linesPrograms", fn := fun _ => fun
  | [d] => { results := [.lit (.bool true)], args := [d] }
  | _ => none }
def linesProgramsRow : OpenClaim := { program := "ytokmbdeafjmcjaa", sum := "19e85655c43a55d6e02c59ee39c93a0d216326e7b39a622d3583a0650f2a3453", func := "debugger/debuggerlaw18.LinesPrograms", spec := "linesPrograms", unfollowed := true, recurses := true, plainKeys := false, apart := false }
def LinesProgramsSaid : Prop := linesProgramsRow.holds Try.pinned (OpenSpec.ofChange linesProgramsSpec)

/-- ITS FALSE NEIGHBOUR: 'it returns false'. Refute it at one input. -/
def linesProgramsWrong : ChangeSpec := { name := "linesPrograms", fn := fun _ => fun
  | [d] => { results := [.lit (.bool false)], args := [d] }
  | _ => none }
def LinesProgramsWrongFalsely : Prop := linesProgramsRow.holds Try.pinned (OpenSpec.ofChange linesProgramsWrong)

/-- 'debuggerlaw18.LinesShort': WHATEVER THE INPUT: true; the input reads as it did. -/
def linesShortSpec : ChangeSpec := { name := "linesShort", fn := fun _ => fun
  | [d1, d2] => { results := [.lit (.bool true)], args := [d1, d2] }
  | _ => none }
def linesShortRow : OpenClaim := { program := "ytokmbdeafjmcjaa", sum := "19e85655c43a55d6e02c59ee39c93a0d216326e7b39a622d3583a0650f2a3453", func := "debugger/debuggerlaw18.LinesShort", spec := "linesShort", unfollowed := true, recurses := true, plainKeys := false, apart := false }
def LinesShortSaid : Prop := linesShortRow.holds Try.pinned (OpenSpec.ofChange linesShortSpec)

/-- ITS FALSE NEIGHBOUR: 'it returns false'. Refute it at one input. -/
def linesShortWrong : ChangeSpec := { name := "linesShort", fn := fun _ => fun
  | [d1, d2] => { results := [.lit (.bool false)], args := [d1, d2] }
  | _ => none }
def LinesShortWrongFalsely : Prop := linesShortRow.holds Try.pinned (OpenSpec.ofChange linesShortWrong)

/-- 'debuggerlaw18.LinesAt': WHATEVER THE INPUT: true; the input reads as it did. -/
def linesAtSpec : ChangeSpec := { name := "linesAt", fn := fun _ => fun
  | [d1, d2, d3] => { results := [.lit (.bool true)], args := [d1, d2, d3] }
  | _ => none }
def linesAtRow : OpenClaim := { program := "ytokmbdeafjmcjaa", sum := "19e85655c43a55d6e02c59ee39c93a0d216326e7b39a622d3583a0650f2a3453", func := "debugger/debuggerlaw18.LinesAt", spec := "linesAt", unfollowed := true, recurses := true, plainKeys := false, apart := false }
def LinesAtSaid : Prop := linesAtRow.holds Try.pinned (OpenSpec.ofChange linesAtSpec)

/-- ITS FALSE NEIGHBOUR: 'it returns false'. Refute it at one input. -/
def linesAtWrong : ChangeSpec := { name := "linesAt", fn := fun _ => fun
  | [d1, d2, d3] => { results := [.lit (.bool false)], args := [d1, d2, d3] }
  | _ => none }
def LinesAtWrongFalsely : Prop := linesAtRow.holds Try.pinned (OpenSpec.ofChange linesAtWrong)

/-- 'debuggerlaw19.LocsEncodes': WHATEVER THE INPUT: true; the input reads as it did. -/
def locsEncodesSpec : ChangeSpec := { name := "locsEncodes", fn := fun _ => fun
  | [d1, d2] => { results := [.lit (.bool true)], args := [d1, d2] }
  | _ => none }
def locsEncodesRow : OpenClaim := { program := "ytokmbdeafjmcjaa", sum := "19e85655c43a55d6e02c59ee39c93a0d216326e7b39a622d3583a0650f2a3453", func := "debugger/debuggerlaw19.LocsEncodes", spec := "locsEncodes", unfollowed := true, recurses := true, plainKeys := false, apart := false }
def LocsEncodesSaid : Prop := locsEncodesRow.holds Try.pinned (OpenSpec.ofChange locsEncodesSpec)

/-- ITS FALSE NEIGHBOUR: 'it returns false'. Refute it at one input. -/
def locsEncodesWrong : ChangeSpec := { name := "locsEncodes", fn := fun _ => fun
  | [d1, d2] => { results := [.lit (.bool false)], args := [d1, d2] }
  | _ => none }
def LocsEncodesWrongFalsely : Prop := locsEncodesRow.holds Try.pinned (OpenSpec.ofChange locsEncodesWrong)

/-- 'debuggerlaw19.LocsDecodes': WHATEVER THE INPUT: true; the input reads as it did. -/
def locsDecodesSpec : ChangeSpec := { name := "locsDecodes", fn := fun _ => fun
  | [d1, d2, d3, d4, d5] => { results := [.lit (.bool true)], args := [d1, d2, d3, d4, d5] }
  | _ => none }
def locsDecodesRow : OpenClaim := { program := "ytokmbdeafjmcjaa", sum := "19e85655c43a55d6e02c59ee39c93a0d216326e7b39a622d3583a0650f2a3453", func := "debugger/debuggerlaw19.LocsDecodes", spec := "locsDecodes", unfollowed := true, recurses := true, plainKeys := false, apart := false }
def LocsDecodesSaid : Prop := locsDecodesRow.holds Try.pinned (OpenSpec.ofChange locsDecodesSpec)

/-- ITS FALSE NEIGHBOUR: 'it returns false'. Refute it at one input. -/
def locsDecodesWrong : ChangeSpec := { name := "locsDecodes", fn := fun _ => fun
  | [d1, d2, d3, d4, d5] => { results := [.lit (.bool false)], args := [d1, d2, d3, d4, d5] }
  | _ => none }
def LocsDecodesWrongFalsely : Prop := locsDecodesRow.holds Try.pinned (OpenSpec.ofChange locsDecodesWrong)

/-- 'debuggerlaw19.LocsOverlap': WHATEVER THE INPUT: true; the input reads as it did. -/
def locsOverlapSpec : ChangeSpec := { name := "locsOverlap", fn := fun _ => fun
  | [d1, d2, d3, d4, d5] => { results := [.lit (.bool true)], args := [d1, d2, d3, d4, d5] }
  | _ => none }
def locsOverlapRow : OpenClaim := { program := "ytokmbdeafjmcjaa", sum := "19e85655c43a55d6e02c59ee39c93a0d216326e7b39a622d3583a0650f2a3453", func := "debugger/debuggerlaw19.LocsOverlap", spec := "locsOverlap", unfollowed := true, recurses := true, plainKeys := false, apart := false }
def LocsOverlapSaid : Prop := locsOverlapRow.holds Try.pinned (OpenSpec.ofChange locsOverlapSpec)

/-- ITS FALSE NEIGHBOUR: 'it returns false'. Refute it at one input. -/
def locsOverlapWrong : ChangeSpec := { name := "locsOverlap", fn := fun _ => fun
  | [d1, d2, d3, d4, d5] => { results := [.lit (.bool false)], args := [d1, d2, d3, d4, d5] }
  | _ => none }
def LocsOverlapWrongFalsely : Prop := locsOverlapRow.holds Try.pinned (OpenSpec.ofChange locsOverlapWrong)

/- THE SECOND FORM. 'bulk': how many values and letters a reading holds, each counted each time it is reached (what is shared counts as often as it is met; a slice's spare places count too). A statement '..UptoSaid' is the law's where the arguments, and the package variables that the reading takes, are together of bulk at most 1048576: NARROWER than '..Said'. Prove '..Said' where nothing that the law and all that it calls make is longer than what came in: it says more and counts as full. Else prove '..UptoSaid'. A law counts once. -/
mutual
def uptoBulk {H : Type} : DataW H → Nat
  | .lit (.string bytes) => bytes.length + 1
  | .lit _ => 1
  | .nil => 1
  | .ptr d => uptoBulk d + 1
  | .slice elems spare => uptoBulkAll elems + uptoBulkAll spare + 1
  | .agg parts => uptoBulkAll parts + 1
  | .iface _ d => uptoBulk d + 1
  | .map entries => uptoBulkEntries entries + 1
  | .held _ => 1
def uptoBulkAll {H : Type} : List (DataW H) → Nat
  | [] => 0
  | d :: r => uptoBulk d + uptoBulkAll r
def uptoBulkEntries {H : Type} : List (Lit × DataW H) → Nat
  | [] => 0
  | x :: r => uptoBulkEntry x + uptoBulkEntries r
def uptoBulkEntry {H : Type} : Lit × DataW H → Nat
  | (.string bytes, d) => bytes.length + uptoBulk d + 1
  | (_, d) => uptoBulk d + 1
 end
def uptoSmall : (H : Type) → List (DataW H) → Bool := fun _ ds => decide (uptoBulkAll ds ≤ 1048576)
def OpenSpec.upto (s : _root_.Go.ChangeSpec) : _root_.Go.OpenSpec := { _root_.Go.OpenSpec.ofChange s with cond := some uptoSmall }

/-- 'debuggerlaw20.CfiEncodes', WHERE WHAT IT READS IS OF BULK AT MOST 1048576: true; the input reads as it did. -/
def cfiEncodesUptoRow : OpenClaim := { program := "ytokmbdeafjmcjaa", sum := "19e85655c43a55d6e02c59ee39c93a0d216326e7b39a622d3583a0650f2a3453", func := "debugger/debuggerlaw20.CfiEncodes", spec := "cfiEncodes", unfollowed := true, recurses := true, plainKeys := false, apart := false, narrowed := true }
def CfiEncodesUptoSaid : Prop := cfiEncodesUptoRow.holds Try.pinned (OpenSpec.upto cfiEncodesSpec)

/-- 'debuggerlaw20.CfiDecodes', WHERE WHAT IT READS IS OF BULK AT MOST 1048576: true; the input reads as it did. -/
def cfiDecodesUptoRow : OpenClaim := { program := "ytokmbdeafjmcjaa", sum := "19e85655c43a55d6e02c59ee39c93a0d216326e7b39a622d3583a0650f2a3453", func := "debugger/debuggerlaw20.CfiDecodes", spec := "cfiDecodes", unfollowed := true, recurses := true, plainKeys := false, apart := false, narrowed := true }
def CfiDecodesUptoSaid : Prop := cfiDecodesUptoRow.holds Try.pinned (OpenSpec.upto cfiDecodesSpec)

/-- 'debuggerlaw20.CfiFind', WHERE WHAT IT READS IS OF BULK AT MOST 1048576: true; the input reads as it did. -/
def cfiFindUptoRow : OpenClaim := { program := "ytokmbdeafjmcjaa", sum := "19e85655c43a55d6e02c59ee39c93a0d216326e7b39a622d3583a0650f2a3453", func := "debugger/debuggerlaw20.CfiFind", spec := "cfiFind", unfollowed := true, recurses := true, plainKeys := false, apart := false, narrowed := true }
def CfiFindUptoSaid : Prop := cfiFindUptoRow.holds Try.pinned (OpenSpec.upto cfiFindSpec)

/-- 'debuggerlaw18.LinesEncodes', WHERE WHAT IT READS IS OF BULK AT MOST 1048576: true; the input reads as it did. -/
def linesEncodesUptoRow : OpenClaim := { program := "ytokmbdeafjmcjaa", sum := "19e85655c43a55d6e02c59ee39c93a0d216326e7b39a622d3583a0650f2a3453", func := "debugger/debuggerlaw18.LinesEncodes", spec := "linesEncodes", unfollowed := true, recurses := true, plainKeys := false, apart := false, narrowed := true }
def LinesEncodesUptoSaid : Prop := linesEncodesUptoRow.holds Try.pinned (OpenSpec.upto linesEncodesSpec)

/-- 'debuggerlaw18.LinesPrograms', WHERE WHAT IT READS IS OF BULK AT MOST 1048576: true; the input reads as it did. -/
def linesProgramsUptoRow : OpenClaim := { program := "ytokmbdeafjmcjaa", sum := "19e85655c43a55d6e02c59ee39c93a0d216326e7b39a622d3583a0650f2a3453", func := "debugger/debuggerlaw18.LinesPrograms", spec := "linesPrograms", unfollowed := true, recurses := true, plainKeys := false, apart := false, narrowed := true }
def LinesProgramsUptoSaid : Prop := linesProgramsUptoRow.holds Try.pinned (OpenSpec.upto linesProgramsSpec)

/-- 'debuggerlaw18.LinesShort', WHERE WHAT IT READS IS OF BULK AT MOST 1048576: true; the input reads as it did. -/
def linesShortUptoRow : OpenClaim := { program := "ytokmbdeafjmcjaa", sum := "19e85655c43a55d6e02c59ee39c93a0d216326e7b39a622d3583a0650f2a3453", func := "debugger/debuggerlaw18.LinesShort", spec := "linesShort", unfollowed := true, recurses := true, plainKeys := false, apart := false, narrowed := true }
def LinesShortUptoSaid : Prop := linesShortUptoRow.holds Try.pinned (OpenSpec.upto linesShortSpec)

/-- 'debuggerlaw18.LinesAt', WHERE WHAT IT READS IS OF BULK AT MOST 1048576: true; the input reads as it did. -/
def linesAtUptoRow : OpenClaim := { program := "ytokmbdeafjmcjaa", sum := "19e85655c43a55d6e02c59ee39c93a0d216326e7b39a622d3583a0650f2a3453", func := "debugger/debuggerlaw18.LinesAt", spec := "linesAt", unfollowed := true, recurses := true, plainKeys := false, apart := false, narrowed := true }
def LinesAtUptoSaid : Prop := linesAtUptoRow.holds Try.pinned (OpenSpec.upto linesAtSpec)

/-- 'debuggerlaw19.LocsEncodes', WHERE WHAT IT READS IS OF BULK AT MOST 1048576: true; the input reads as it did. -/
def locsEncodesUptoRow : OpenClaim := { program := "ytokmbdeafjmcjaa", sum := "19e85655c43a55d6e02c59ee39c93a0d216326e7b39a622d3583a0650f2a3453", func := "debugger/debuggerlaw19.LocsEncodes", spec := "locsEncodes", unfollowed := true, recurses := true, plainKeys := false, apart := false, narrowed := true }
def LocsEncodesUptoSaid : Prop := locsEncodesUptoRow.holds Try.pinned (OpenSpec.upto locsEncodesSpec)

/-- 'debuggerlaw19.LocsDecodes', WHERE WHAT IT READS IS OF BULK AT MOST 1048576: true; the input reads as it did. -/
def locsDecodesUptoRow : OpenClaim := { program := "ytokmbdeafjmcjaa", sum := "19e85655c43a55d6e02c59ee39c93a0d216326e7b39a622d3583a0650f2a3453", func := "debugger/debuggerlaw19.LocsDecodes", spec := "locsDecodes", unfollowed := true, recurses := true, plainKeys := false, apart := false, narrowed := true }
def LocsDecodesUptoSaid : Prop := locsDecodesUptoRow.holds Try.pinned (OpenSpec.upto locsDecodesSpec)

/-- 'debuggerlaw19.LocsOverlap', WHERE WHAT IT READS IS OF BULK AT MOST 1048576: true; the input reads as it did. -/
def locsOverlapUptoRow : OpenClaim := { program := "ytokmbdeafjmcjaa", sum := "19e85655c43a55d6e02c59ee39c93a0d216326e7b39a622d3583a0650f2a3453", func := "debugger/debuggerlaw19.LocsOverlap", spec := "locsOverlap", unfollowed := true, recurses := true, plainKeys := false, apart := false, narrowed := true }
def LocsOverlapUptoSaid : Prop := locsOverlapUptoRow.holds Try.pinned (OpenSpec.upto locsOverlapSpec)

end Rows
end Go.Proofs.Ytokmbdeafjmcjaa
