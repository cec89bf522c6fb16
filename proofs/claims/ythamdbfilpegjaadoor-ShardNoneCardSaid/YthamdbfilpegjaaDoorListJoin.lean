/-
  What stands here: all of a list is put behind another one. Under no condition but that the world holds them.
-/
import Derived.Test.YthamdbfilpegjaaDoorListMem
namespace Go.Proofs.YthamdbfilpegjaaDoor
set_option linter.unusedVariables false
set_option linter.unusedSimpArgs false
open Go.RowKit Go.Proofs
end Go.Proofs.YthamdbfilpegjaaDoor
