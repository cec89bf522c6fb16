/-
  What stands here: all digits of a time, by the program and by the document. Under the condition that the time is a word.
-/
import Derived.Test.YthinhbaklcijmaaTimesFns
import Derived.Test.YthinhbaklcijmaaRow
namespace Go.Proofs.Ythinhbaklcijmaa
set_option linter.unusedVariables false
set_option linter.unusedSimpArgs false
open Go.RowKit Go.Proofs
attribute [local go_sem] Oper.semAt_some
theorem infoInt : (Try.prog.info? 3).map (fun i => (i.zero, i.size, i.bytes)) = some (some (.int .i64 0), 1, 8) := by kernel_rfl
def dgl (t : Int) (k : Nat) : List Int := (List.range k).map (dg t)
theorem dgl_len (t : Int) (k : Nat) : (dgl t k).length = k := by simp [dgl]
theorem dgl_succ (t : Int) (k : Nat) : dgl t (k + 1) = dgl t k ++ [dg t k] := by unfold dgl; rw [List.range_succ, List.map_append]; rfl
theorem dgl_get (t : Int) {k i : Nat} (h : i < k) : (dgl t k).getD i 0 = dg t i := by simp [dgl, List.getD_eq_getElem?_getD, h]
end Go.Proofs.Ythinhbaklcijmaa
