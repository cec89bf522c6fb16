/-
  What stands here: the walk of TimesAdd. Under no condition but that its arguments fit their types.
-/
import Derived.Test.YtjnjjhhkjackoaaTimesAlive
namespace Go.Proofs.Ytjnjjhhkjackoaa
set_option linter.unusedVariables false
set_option linter.unusedSimpArgs false
open Go.RowKit Go.Proofs

set_option maxHeartbeats 1000000 in
theorem timesAdd_walk (a0 : Int) (a1 : Int) (w : World) (w0 : (Lit.int .u64 a0).wf = true) (w1 : (Lit.int .u64 a1).wf = true) :
    Calls Try.prog 4 #[.int .u64 a0, .int .u64 a1] w fun e w' => e = .returned (.bool true) ∧ Below w.heap.size w w' := by
  have h0 := bd_u64 w0
  have h1 := bd_u64 w1
  clear w0 w1
  have ca := add_any a0 a1 h0 h1
  have cl := later_any a0 a1 h0 h1
  unfold addV addE at ca
  by_cases hs : a0 + a1 < 18446744073709551616
  all_goals by_cases hg : a1 = 18446744073709551615
  all_goals by_cases hm : a0 ≤ a1 + 1
  all_goals try (exfalso; omega)
  all_goals first | rw [if_pos hs, if_pos hs] at ca | rw [if_neg hs, if_neg hs] at ca
  all_goals first | rw [if_pos hg] at cl | rw [if_neg hg] at cl
  all_goals first | rw [if_pos hm] at cl | rw [if_neg hm] at cl | skip
  all_goals try (obtain rfl := hg)
  all_goals try (have hgf : (a1 == 18446744073709551615) = false := (by rw [beq_eq_false_iff_ne]; exact hg))
  all_goals
    go_enter Try.func4, Try.ntmps4
    go_wp2_with fail
    refine (alive_any _).mono ?_
    rintro e w1 ⟨rfl, b1⟩
    go_wp2_with fail
    refine (ca _).mono ?_
    rintro e w2 ⟨rfl, k2⟩
    go_wp2_with fail
    refine (cl _).mono ?_
    rintro e w3 ⟨rfl, k3⟩
    go_wp2_with fail
    all_goals try go_ret
    all_goals exact ⟨by first | rfl | (simp; omega), below_still b1 (k2.trans k3) (Nat.le_refl _)⟩

end Go.Proofs.Ytjnjjhhkjackoaa
