/-
  What stands here: the walk of TimesThird. Under no condition but that its arguments fit their types.
-/
import Derived.Test.YtjnjjhhkjackoaaTimesAlive
namespace Go.Proofs.Ytjnjjhhkjackoaa
set_option linter.unusedVariables false
set_option linter.unusedSimpArgs false
open Go.RowKit Go.Proofs
theorem third {a b c x y z : Int} (hx : ApartIs a b x) (hy : ApartIs b c y) (hz : ApartIs a c z) : z ≤ max x y := by
  rcases Int.le_total z (max x y) with h | h
  · exact h
  · have h1 := hx.1
    have h2 := hy.1
    rcases Int.lt_or_le (max x y) z with hlt | hle
    · have e1 := (hx.2.2 z.toNat).2 (by omega)
      have e2 := (hy.2.2 z.toNat).2 (by omega)
      have := (hz.2.2 z.toNat).1 (e1.trans e2)
      omega
    · exact hle

set_option maxHeartbeats 1000000 in
theorem timesThird_walk (a0 : Int) (a1 : Int) (a2 : Int) (w : World) (w0 : (Lit.int .u64 a0).wf = true) (w1 : (Lit.int .u64 a1).wf = true) (w2 : (Lit.int .u64 a2).wf = true) :
    Calls Try.prog 5 #[.int .u64 a0, .int .u64 a1, .int .u64 a2] w fun e w' => e = .returned (.bool true) ∧ Below w.heap.size w w' := by
  have h0 := bd_u64 w0
  have h1 := bd_u64 w1
  have h2 := bd_u64 w2
  clear w0 w1 w2
  go_enter Try.func5, Try.ntmps5
  go_wp2_with fail
  refine (alive_any _).mono ?_
  rintro e w1 ⟨rfl, b1⟩
  go_wp2_with fail
  refine (apart_any a0 a1 h0 h1 _).mono ?_
  rintro e w2 ⟨x, hx, rfl, k2⟩
  go_wp2_with fail
  refine (apart_any a1 a2 h1 h2 _).mono ?_
  rintro e w3 ⟨y, hy, rfl, k3⟩
  go_wp2_with fail
  refine (apart_any a0 a2 h0 h2 _).mono ?_
  rintro e w4 ⟨z, hz, rfl, k4⟩
  have t1 : z ≤ max x y := third hx hy hz
  have t2 : x ≤ max y z := by have := third hz hy.symm hx; omega
  have t3 : y ≤ max x z := by have := third hx.symm hz hy; omega
  go_wp2_with fail
  all_goals try (exfalso; omega)
  all_goals go_ret
  all_goals exact ⟨by first | rfl | (simp; omega), below_still b1 ((k2.trans k3).trans k4) (Nat.le_refl _)⟩

end Go.Proofs.Ytjnjjhhkjackoaa
