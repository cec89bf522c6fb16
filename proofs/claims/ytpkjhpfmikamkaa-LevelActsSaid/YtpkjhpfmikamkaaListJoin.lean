/-
  What stands here: all of a list is put behind another one. Under no condition but that the world holds them.
-/
import Derived.Test.YtpkjhpfmikamkaaListMem
namespace Go.Proofs.Ytpkjhpfmikamkaa
set_option linter.unusedVariables false
set_option linter.unusedSimpArgs false
open Go.RowKit Go.Proofs

theorem sizeList_i : (Try.prog.info? 66).map (fun i => i.size) = some (3 + 1) := by kernel_rfl

end Go.Proofs.Ytpkjhpfmikamkaa
