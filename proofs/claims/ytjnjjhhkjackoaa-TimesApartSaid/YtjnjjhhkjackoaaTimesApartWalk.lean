/-
  What stands here: the walk of TimesApart. Under no condition but that its arguments fit their types.
-/
import Derived.Test.YtjnjjhhkjackoaaTimesAlive
namespace Go.Proofs.Ytjnjjhhkjackoaa
set_option linter.unusedVariables false
set_option linter.unusedSimpArgs false
open Go.RowKit Go.Proofs

set_option maxHeartbeats 1000000 in
theorem timesApart_walk (a0 : Int) (a1 : Int) (w : World) (w0 : (Lit.int .u64 a0).wf = true) (w1 : (Lit.int .u64 a1).wf = true) :
    Calls Try.prog 3 #[.int .u64 a0, .int .u64 a1] w fun e w' => e = .returned (.bool true) ∧ Below w.heap.size w w' := by
  have h0 := bd_u64 w0
  have h1 := bd_u64 w1
  clear w0 w1
  go_enter Try.func3, Try.ntmps3
  go_wp2_with fail
  refine (alive_any _).mono ?_
  rintro e w1 ⟨rfl, b1⟩
  go_wp2_with fail
  refine (refapart_any a0 a1 h0 h1 _).mono ?_
  rintro e w2 ⟨⟨k, hk, rfl⟩, b2⟩
  go_wp2_with fail
  refine (apart_any a0 a1 h0 h1 _).mono ?_
  rintro e w3 ⟨l, hl, rfl, k3⟩
  obtain rfl := hl.uniq hk
  go_wp2_with fail
  refine (apart_any a1 a0 h1 h0 _).mono ?_
  rintro e w4 ⟨m, hm, rfl, k4⟩
  obtain rfl := hm.symm.uniq hk
  go_wp2_with fail
  go_ret
  exact ⟨rfl, below_still (b1.trans (b2.mono b1.size)) (k3.trans k4) (Nat.le_refl _)⟩
end Go.Proofs.Ytjnjjhhkjackoaa
