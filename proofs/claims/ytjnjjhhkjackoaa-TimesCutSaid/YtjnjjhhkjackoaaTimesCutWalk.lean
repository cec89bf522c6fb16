/-
  What stands here: the walk of TimesCut. Under no condition but that its arguments fit their types.
-/
import Derived.Test.YtjnjjhhkjackoaaTimesAlive
namespace Go.Proofs.Ytjnjjhhkjackoaa
set_option linter.unusedVariables false
set_option linter.unusedSimpArgs false
open Go.RowKit Go.Proofs

set_option maxHeartbeats 1000000 in
theorem timesCut_walk (a0 : Int) (a1 : Int) (w : World) (w0 : (Lit.int .u64 a0).wf = true) (w1 : (Lit.int .i64 a1).wf = true) :
    Calls Try.prog 7 #[.int .u64 a0, .int .i64 a1] w fun e w' => e = .returned (.bool true) ∧ Below w.heap.size w w' := by
  have h0 := bd_u64 w0
  have h1 := bd_i64 w1
  clear w0 w1
  go_enter Try.func7, Try.ntmps7
  go_wp2_with fail
  refine (alive_any _).mono ?_
  rintro e w1 ⟨rfl, b1⟩
  go_wp2_with fail
  refine (zeros_any a0 h0 _).mono ?_
  rintro e w2 ⟨k, hk, rfl, b2⟩
  go_wp2_with fail
  refine (refzeros_any a0 h0 _).mono ?_
  rintro e w3 ⟨⟨l, hl, rfl⟩, b3⟩
  obtain rfl := hl.uniq hk
  go_wp2_with fail
  refine (cut_any a0 a1 h0 _).mono ?_
  rintro e w4 ⟨rfl, k4⟩
  go_wp2_with fail
  refine (refcut_any a0 a1 h0 _).mono ?_
  rintro e w5 ⟨rfl, b5⟩
  go_wp2_with fail
  go_ret
  exact ⟨rfl, (below_still ((b1.trans (b2.mono b1.size)).trans (b3.mono (Nat.le_trans b1.size b2.size))) k4 (Nat.le_refl _)).trans (b5.mono (Nat.le_trans (Nat.le_trans b1.size b2.size) (Nat.le_trans b3.size k4.size)))⟩

end Go.Proofs.Ytjnjjhhkjackoaa
