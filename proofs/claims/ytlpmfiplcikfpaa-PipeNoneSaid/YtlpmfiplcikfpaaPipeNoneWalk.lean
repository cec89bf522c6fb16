/-
  What stands here: the walk of PipeNone. Under no condition but that its arguments fit their types.
-/
import Derived.Test.YtlpmfiplcikfpaaPipeNull
namespace Go.Proofs.Ytlpmfiplcikfpaa
set_option linter.unusedVariables false
set_option linter.unusedSimpArgs false
open Go.RowKit Go.Proofs

set_option maxHeartbeats 4000000 in
set_option maxRecDepth 100000 in
theorem pipeNone_walk (a0 : Int) (w : World) (w0 : (Lit.int .i64 a0).wf = true) :
    Calls Try.prog 6 #[.int .i64 a0] w fun e w' => e = .returned (.bool true) ∧ Below w.heap.size w w' := by
  clear w0
  go_enter Try.func6, Try.ntmps6
  go_wp2_with fail
  refine (alive_any w).mono ?_
  rintro e w1 ⟨rfl, k1⟩
  go_wp2_with fail
  refine (pput_nil a0 w1).mono ?_
  rintro e w2 ⟨rfl, rfl⟩
  go_wp2_with fail
  refine (ptake_nil w1).mono ?_
  rintro e w2 ⟨rfl, rfl⟩
  go_wp2_with fail
  refine (pshut_nil w1).mono ?_
  rintro e w2 ⟨rfl, rfl⟩
  go_wp2_with fail
  refine (pclosed_nil w1).mono ?_
  rintro e w2 ⟨rfl, k2⟩
  have K2 := below_still k1 k2 (Nat.le_refl _)
  go_wp2_with fail
  refine (plen_nil w2).mono ?_
  rintro e w3 ⟨rfl, rfl⟩
  go_wp2_with fail
  refine (pspilled_nil w2).mono ?_
  rintro e w3 ⟨rfl, rfl⟩
  go_wp2_with fail
  refine (pmost_nil w2).mono ?_
  rintro e w3 ⟨rfl, rfl⟩
  go_wp2_with fail
  refine (pall_nil w2).mono ?_
  rintro e w3 ⟨rfl, k3⟩
  have K3 := below_step K2 (kept_of_below k3) (Nat.le_refl _) (fun i hi h => by have := K2.size; omega)
  go_wp2_with fail
  go_ret
  exact ⟨rfl, K3⟩
end Go.Proofs.Ytlpmfiplcikfpaa
