/-
  What stands here: the example of layer 3 answers true. Under no condition.
-/
import Derived.Test.YtojjelafkieflaaCell
namespace Go.Proofs.Ytojjelafkieflaa
set_option linter.unusedVariables false
set_option linter.unusedSimpArgs false
open Go.RowKit Go.Proofs
set_option maxHeartbeats 400000 in
theorem cellAlive (w : World) : Calls Try.prog 11 #[] w fun e w' => e = .returned (.bool true) ∧ Below w.heap.size w w' := by
  go_enter Try.func11, Try.ntmps11
  go_wp2_with fail
  refine (of_any 3 w).mono ?_
  rintro e w1 ⟨rfl, k1, b1⟩
  have g := k1.size
  have g' := b1.lt
  go_wp2_with fail
  refine (swap_yes _ 0 _ 3 4 0 0 (t' := 1) (u' := 1) (wrap64_in _ (by omega) (by omega)) (wrap64_in _ (by omega) (by omega)) _ _ b1 rfl rfl rfl).mono ?_
  rintro e w2 ⟨rfl, k2, b2⟩
  go_wp2_with fail
  refine (swap_no _ 0 _ 4 3 5 1 (t' := 2) (wrap64_in _ (by omega) (by omega)) _ _ rfl b2 rfl rfl).mono ?_
  rintro e w3 ⟨rfl, k3, b3⟩
  go_wp2_with fail
  refine (load_any _ 0 _ 4 0 (l' := 1) (wrap64_in _ (by omega) (by omega)) _ _ b3 rfl rfl).mono ?_
  rintro e w4 ⟨rfl, k4, b4⟩
  go_wp2_with fail
  refine (counts_any _ 0 _ 1 2 1 _ _ b4 rfl rfl rfl).mono ?_
  rintro e w5 ⟨rfl, k5⟩
  go_wp2
  go_ret
  exact ⟨rfl, below_still (below_only (below_only (below_only (below_still (Below.refl _ _) k1 (Nat.le_refl _)) k2 (Nat.le_refl _) (Nat.le_refl _)) k3 (Nat.le_refl _) (Nat.le_refl _)) k4 (Nat.le_refl _) (Nat.le_refl _)) k5 (Nat.le_refl _)⟩
end Go.Proofs.Ytojjelafkieflaa
