/-
  What stands here: the document's example of lists holds. Under no condition.
-/
import Derived.Test.YtpkjhpfmikamkaaListOps
namespace Go.Proofs.Ytpkjhpfmikamkaa
set_option linter.unusedVariables false
set_option linter.unusedSimpArgs false
open Go.RowKit Go.Proofs

theorem below_kd {base : Nat} {s : LS} {w0 w w' : World} (h : Below base w0 w) (k : Kept (fun y => s.kd y ≠ 0) w w') (hlo : ∀ y, y < base → s.kd y = 0) (hb : base ≤ w0.heap.size) : Below base w0 w' :=
  below_step h k hb (fun i hi h9 => h9 (hlo i hi))
end Go.Proofs.Ytpkjhpfmikamkaa
