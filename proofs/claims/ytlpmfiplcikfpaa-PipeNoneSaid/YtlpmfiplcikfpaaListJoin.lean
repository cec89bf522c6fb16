/-
  What stands here: all of a list is put behind another one. Under no condition but that the world holds them.
-/
import Derived.Test.YtlpmfiplcikfpaaListMem
namespace Go.Proofs.Ytlpmfiplcikfpaa
set_option linter.unusedVariables false
set_option linter.unusedSimpArgs false
open Go.RowKit Go.Proofs

theorem sizeList_i : (Try.prog.info? 86).map (fun i => i.size) = some (3 + 1) := by kernel_rfl


theorem sizeList_s : (Try.prog.info? 89).map (fun i => i.size) = some (3 + 1) := by kernel_rfl

end Go.Proofs.Ytlpmfiplcikfpaa
