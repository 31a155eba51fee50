/-
  A part of the proof: OD.
-/
import Derived.Test.YtlegohnjbkgclaaDoorSxOC
import Derived.Test.YtlegohnjbkgclaaDoorSxRows
namespace Go.Proofs.YtlegohnjbkgclaaDoor
open Go Go.Sx Go.Oct
set_option linter.unusedVariables false

end Go.Proofs.YtlegohnjbkgclaaDoor
