/-
  A part of the proof: OD.
-/
import Derived.Test.YtgecpbplbkpdlaaSxOC
import Derived.Test.YtgecpbplbkpdlaaSxRows
namespace Go.Proofs.Ytgecpbplbkpdlaa
open Go Go.Sx Go.Oct
set_option linter.unusedVariables false

end Go.Proofs.Ytgecpbplbkpdlaa
