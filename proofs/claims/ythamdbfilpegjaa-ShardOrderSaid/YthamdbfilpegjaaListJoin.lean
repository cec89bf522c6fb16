/-
  What stands here: all of a list is put behind another one. Under no condition but that the world holds them.
-/
import Derived.Test.YthamdbfilpegjaaListMem
namespace Go.Proofs.Ythamdbfilpegjaa
set_option linter.unusedVariables false
set_option linter.unusedSimpArgs false
open Go.RowKit Go.Proofs
end Go.Proofs.Ythamdbfilpegjaa
