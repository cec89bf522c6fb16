/-
  What stands here: the walk of the law LockNone: it answers true and turns nothing that was there. Under no condition.
-/
import Derived.Test.YtonapndcmjnbcaaLockFns
namespace Go.Proofs.Ytonapndcmjnbcaa
set_option linter.unusedVariables false
set_option linter.unusedSimpArgs false
open Go.RowKit Go.Proofs

theorem lockNone_walk (a0 : Int) (w : World) (w0 : (Lit.int .i64 a0).wf = true) :
    Calls Try.prog 6 #[.int .i64 a0] w fun e w' => e = .returned (.bool true) ∧ Below w.heap.size w w' := by
  go_enter Try.func6, Try.ntmps6
  go_wp2_with fail
  refine (lockAlive w).mono ?_
  rintro e w1 ⟨rfl, k1⟩
  go_wp2_with fail
  refine (owner_nil w1).mono ?_
  rintro e w2 ⟨rfl, k2⟩
  have kw2 := below_still k1 k2 (Nat.le_refl _)
  go_wp2_with fail
  refine (try_nil a0 w2).mono ?_
  rintro e w3 ⟨rfl, k3⟩
  have kw3 := below_still kw2 k3 (Nat.le_refl _)
  go_wp2_with fail
  refine (leave_nil a0 w3).mono ?_
  rintro e w4 ⟨rfl, k4⟩
  have kw4 := below_still kw3 k4 (Nat.le_refl _)
  go_wp2_with fail
  refine (may_nil a0 w4).mono ?_
  rintro e w5 ⟨rfl, k5⟩
  have kw5 := below_still kw4 k5 (Nat.le_refl _)
  go_wp2_with fail
  refine (turns_nil w5).mono ?_
  rintro e w6 ⟨rfl, k6⟩
  have kw6 := below_still kw5 k6 (Nat.le_refl _)
  go_wp2_with fail
  go_ret
  exact ⟨rfl, kw6⟩
end Go.Proofs.Ytonapndcmjnbcaa
