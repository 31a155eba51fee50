/-
  A part of the proof: OD.
-/
import Derived.Test.YthpodgkmghgenaaDoorSxOC
import Derived.Test.YthpodgkmghgenaaDoorSxRows
namespace Go.Proofs.YthpodgkmghgenaaDoor
open Go Go.Sx Go.Oct
set_option linter.unusedVariables false

end Go.Proofs.YthpodgkmghgenaaDoor
