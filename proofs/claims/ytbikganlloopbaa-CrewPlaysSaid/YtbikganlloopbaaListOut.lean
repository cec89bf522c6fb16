/-
  What stands here: a node is taken out of a list. Under no condition but that the world holds it.
-/
import Derived.Test.YtbikganlloopbaaListMem
namespace Go.Proofs.Ytbikganlloopbaa
set_option linter.unusedVariables false
set_option linter.unusedSimpArgs false
open Go.RowKit Go.Proofs


end Go.Proofs.Ytbikganlloopbaa
