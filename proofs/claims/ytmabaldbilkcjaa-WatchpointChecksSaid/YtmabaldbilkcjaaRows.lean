/-
  No cell of these rows narrows 'for every input' (looked for: loops, veiled, ifaces, maps, wideKeys, modest, calm, conditions, laid).
  DERIVED. THE GIVEN ROWS OF THIS SEAT. 3 by the template 'for every input the law returns true; each argument reads behind the call as it read before'; 0 by the template 'total and deterministic' (their statements: YtmabaldbilkcjaaTotals.lean).
  GIVEN WITH THE SEED: the statements are not yours to turn. If you find one false, say at which input.
  Laid BY PROGRAM, IN A SANDBOX (cutbox-rows.mjs): the forced cells as the released guide's own fill.sh prints them over the translation 8824e7cfd4bc8499… (all of the seat's roots in one cut). By AI agents, Wed Nov 11 2026. No macro, syntax, notation, axiom, sorry.
-/
import Derived.Test.YtmabaldbilkcjaaChecked
import GoSem.Claim
import GoSem.ClaimJoined
import GoSem.ClaimMapViews
import Derived.JoinedTies
import Derived.KernelRfl
namespace Go.Proofs.Ytmabaldbilkcjaa
/- THE CELL 'sum', in the pinned program and in every row, IS THE sha256 OF THE DUMP (.gsa) THAT YtmabaldbilkcjaaProg.lean LOADS. Nothing in Lean hashes anything: it is a label: what it is worth is what the hold of that sum in a sandbox is worth. -/
noncomputable def Try.pinned : Pinned := { name := "ytmabaldbilkcjaa", sum := "8824e7cfd4bc849922496aaecdc79e011d1ccd1f57c9eac7bf9d40a183c421c7", checked := Try.checked }
namespace Rows
def none {H : Type} : Left H := { results := [], args := [] }

/-- 'debuggerlaw41.WatchpointChecks': WHATEVER THE INPUT: true; the input reads as it did. -/
def watchpointChecksSpec : ChangeSpec := { name := "watchpointChecks", fn := fun _ => fun
  | [d1, d2, d3, d4, d5] => { results := [.lit (.bool true)], args := [d1, d2, d3, d4, d5] }
  | _ => none }
def watchpointChecksRow : OpenClaim := { program := "ytmabaldbilkcjaa", sum := "8824e7cfd4bc849922496aaecdc79e011d1ccd1f57c9eac7bf9d40a183c421c7", func := "debugger/debuggerlaw41.WatchpointChecks", spec := "watchpointChecks", apart := false }
def WatchpointChecksSaid : Prop := watchpointChecksRow.holds Try.pinned (OpenSpec.ofChange watchpointChecksSpec)

/-- ITS FALSE NEIGHBOUR: 'it returns false'. Refute it at one input. -/
def watchpointChecksWrong : ChangeSpec := { name := "watchpointChecks", fn := fun _ => fun
  | [d1, d2, d3, d4, d5] => { results := [.lit (.bool false)], args := [d1, d2, d3, d4, d5] }
  | _ => none }
def WatchpointChecksWrongFalsely : Prop := watchpointChecksRow.holds Try.pinned (OpenSpec.ofChange watchpointChecksWrong)

/-- 'debuggerlaw41.WatchpointSees': WHATEVER THE INPUT: true; the input reads as it did. -/
def watchpointSeesSpec : ChangeSpec := { name := "watchpointSees", fn := fun _ => fun
  | [d1, d2, d3] => { results := [.lit (.bool true)], args := [d1, d2, d3] }
  | _ => none }
def watchpointSeesRow : OpenClaim := { program := "ytmabaldbilkcjaa", sum := "8824e7cfd4bc849922496aaecdc79e011d1ccd1f57c9eac7bf9d40a183c421c7", func := "debugger/debuggerlaw41.WatchpointSees", spec := "watchpointSees", apart := false }
def WatchpointSeesSaid : Prop := watchpointSeesRow.holds Try.pinned (OpenSpec.ofChange watchpointSeesSpec)

/-- ITS FALSE NEIGHBOUR: 'it returns false'. Refute it at one input. -/
def watchpointSeesWrong : ChangeSpec := { name := "watchpointSees", fn := fun _ => fun
  | [d1, d2, d3] => { results := [.lit (.bool false)], args := [d1, d2, d3] }
  | _ => none }
def WatchpointSeesWrongFalsely : Prop := watchpointSeesRow.holds Try.pinned (OpenSpec.ofChange watchpointSeesWrong)

/-- 'debuggerlaw41.WatchpointWords': WHATEVER THE INPUT: true; the input reads as it did. -/
def watchpointWordsSpec : ChangeSpec := { name := "watchpointWords", fn := fun _ => fun
  | [d1, d2, d3] => { results := [.lit (.bool true)], args := [d1, d2, d3] }
  | _ => none }
def watchpointWordsRow : OpenClaim := { program := "ytmabaldbilkcjaa", sum := "8824e7cfd4bc849922496aaecdc79e011d1ccd1f57c9eac7bf9d40a183c421c7", func := "debugger/debuggerlaw41.WatchpointWords", spec := "watchpointWords", apart := false }
def WatchpointWordsSaid : Prop := watchpointWordsRow.holds Try.pinned (OpenSpec.ofChange watchpointWordsSpec)

/-- ITS FALSE NEIGHBOUR: 'it returns false'. Refute it at one input. -/
def watchpointWordsWrong : ChangeSpec := { name := "watchpointWords", fn := fun _ => fun
  | [d1, d2, d3] => { results := [.lit (.bool false)], args := [d1, d2, d3] }
  | _ => none }
def WatchpointWordsWrongFalsely : Prop := watchpointWordsRow.holds Try.pinned (OpenSpec.ofChange watchpointWordsWrong)

/- THE SECOND FORM. 'bulk': how many values and letters a reading holds, each counted each time it is reached (what is shared counts as often as it is met; a slice's spare places count too). A statement '..UptoSaid' is the law's where the arguments, and the package variables that the reading takes, are together of bulk at most 1048576: NARROWER than '..Said'. Prove '..Said' where nothing that the law and all that it calls make is longer than what came in: it says more and counts as full. Else prove '..UptoSaid'. A law counts once. -/
mutual
def uptoBulk {H : Type} : DataW H → Nat
  | .lit (.string bytes) => bytes.length + 1
  | .lit _ => 1
  | .nil => 1
  | .ptr d => uptoBulk d + 1
  | .slice elems spare => uptoBulkAll elems + uptoBulkAll spare + 1
  | .agg parts => uptoBulkAll parts + 1
  | .iface _ d => uptoBulk d + 1
  | .map entries => uptoBulkEntries entries + 1
  | .held _ => 1
def uptoBulkAll {H : Type} : List (DataW H) → Nat
  | [] => 0
  | d :: r => uptoBulk d + uptoBulkAll r
def uptoBulkEntries {H : Type} : List (Lit × DataW H) → Nat
  | [] => 0
  | x :: r => uptoBulkEntry x + uptoBulkEntries r
def uptoBulkEntry {H : Type} : Lit × DataW H → Nat
  | (.string bytes, d) => bytes.length + uptoBulk d + 1
  | (_, d) => uptoBulk d + 1
 end
def uptoSmall : (H : Type) → List (DataW H) → Bool := fun _ ds => decide (uptoBulkAll ds ≤ 1048576)
def OpenSpec.upto (s : _root_.Go.ChangeSpec) : _root_.Go.OpenSpec := { _root_.Go.OpenSpec.ofChange s with cond := some uptoSmall }

/-- 'debuggerlaw41.WatchpointChecks', WHERE WHAT IT READS IS OF BULK AT MOST 1048576: true; the input reads as it did. -/
def watchpointChecksUptoRow : OpenClaim := { program := "ytmabaldbilkcjaa", sum := "8824e7cfd4bc849922496aaecdc79e011d1ccd1f57c9eac7bf9d40a183c421c7", func := "debugger/debuggerlaw41.WatchpointChecks", spec := "watchpointChecks", apart := false, narrowed := true }
def WatchpointChecksUptoSaid : Prop := watchpointChecksUptoRow.holds Try.pinned (OpenSpec.upto watchpointChecksSpec)

/-- 'debuggerlaw41.WatchpointSees', WHERE WHAT IT READS IS OF BULK AT MOST 1048576: true; the input reads as it did. -/
def watchpointSeesUptoRow : OpenClaim := { program := "ytmabaldbilkcjaa", sum := "8824e7cfd4bc849922496aaecdc79e011d1ccd1f57c9eac7bf9d40a183c421c7", func := "debugger/debuggerlaw41.WatchpointSees", spec := "watchpointSees", apart := false, narrowed := true }
def WatchpointSeesUptoSaid : Prop := watchpointSeesUptoRow.holds Try.pinned (OpenSpec.upto watchpointSeesSpec)

/-- 'debuggerlaw41.WatchpointWords', WHERE WHAT IT READS IS OF BULK AT MOST 1048576: true; the input reads as it did. -/
def watchpointWordsUptoRow : OpenClaim := { program := "ytmabaldbilkcjaa", sum := "8824e7cfd4bc849922496aaecdc79e011d1ccd1f57c9eac7bf9d40a183c421c7", func := "debugger/debuggerlaw41.WatchpointWords", spec := "watchpointWords", apart := false, narrowed := true }
def WatchpointWordsUptoSaid : Prop := watchpointWordsUptoRow.holds Try.pinned (OpenSpec.upto watchpointWordsSpec)

end Rows
end Go.Proofs.Ytmabaldbilkcjaa
