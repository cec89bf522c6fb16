/-
  What stands here: the document's example of pipes holds. Under no condition.
-/
import Derived.Test.YtlpmfiplcikfpaaPipeNew
import Derived.Test.YtlpmfiplcikfpaaPipeSee
namespace Go.Proofs.Ytlpmfiplcikfpaa
set_option linter.unusedVariables false
set_option linter.unusedSimpArgs false
open Go.RowKit Go.Proofs

/-- what a pipe turns lies in new memory -/
theorem below_pipe {base : Nat} {s : LS} {w0 w w' : World} {p c : Nat} (h : Below base w0 w) (k : Kept (fun y => s.kd y ≠ 0 ∨ y = p ∨ y = c) w w') (hlo : ∀ y, y < base → s.kd y = 0) (hp : base ≤ p) (hc : base ≤ c) (hb : base ≤ w0.heap.size) : Below base w0 w' :=
  below_step h k hb (fun i hi h9 => by
    rcases h9 with h9 | h9 | h9
    · exact h9 (hlo i hi)
    · omega
    · omega)
set_option maxHeartbeats 2000000 in
set_option maxRecDepth 100000 in
theorem alive_any (w : World) : Calls Try.prog 7 #[] w fun e w' => e = .returned (.bool true) ∧ Below w.heap.size w w' := by
  go_enter Try.func7, Try.ntmps7
  go_wp2_with fail
  refine (pnew_s LS.zero w (LW_s.zero w) 1 (by omega) (by omega)).mono ?_
  rintro e w1 ⟨p, c, l, s1, rfl, h1, k1, n1, hp, hc, hl, q1⟩
  have r1 : Below w.heap.size w w1 := below_still (Below.refl _ w) k1 (Nat.le_refl _)
  have f1 : ∀ y, y < w.heap.size → s1.kd y = 0 := fun y hy => by rw [n1 y hy]; rfl
  have H1 := Lib.hid h1
  have R1 := Lib.hid r1
  have F1 := Lib.hid f1
  clear h1 k1 n1 q1 r1 f1
  go_wp2_with fail
  refine (pput_s w1 H1.out ⟨#[97]⟩ (by simp) (by omega)).mono ?_
  rintro e w2 ⟨rfl, k2, s2, h2, n2, q2⟩
  have R2 := Lib.hid (below_pipe R1.out k2 F1.out hp hc (Nat.le_refl _))
  have F2 := Lib.hid (show ∀ y, y < w.heap.size → s2.kd y = 0 from fun y hy => by rw [n2 y (Nat.lt_of_lt_of_le hy R1.out.size)]; exact F1.out y hy)
  have H2 := Lib.hid h2
  clear k2 h2 n2 q2
  go_wp2_with fail
  refine (pput_s w2 H2.out ⟨#[98]⟩ (by simp) (by simp)).mono ?_
  rintro e w3 ⟨rfl, k3, s3, h3, n3, q3⟩
  have R3 := Lib.hid (below_pipe R2.out k3 F2.out hp hc (Nat.le_refl _))
  have F3 := Lib.hid (show ∀ y, y < w.heap.size → s3.kd y = 0 from fun y hy => by rw [n3 y (Nat.lt_of_lt_of_le hy R2.out.size)]; exact F2.out y hy)
  have H3 := Lib.hid h3
  clear k3 h3 n3 q3
  go_wp2_with fail
  refine (ptake_s w3 H3.out (by simp)).mono ?_
  rintro e w4 ⟨rfl, k4, s4, h4, n4, q4⟩
  have R4 := Lib.hid (below_pipe R3.out k4 F3.out hp hc (Nat.le_refl _))
  have F4 := Lib.hid (show ∀ y, y < w.heap.size → s4.kd y = 0 from fun y hy => by rw [n4]; exact F3.out y hy)
  have H4 := Lib.hid h4
  clear k4 h4 n4 q4
  go_wp2_with fail
  refine (pspilled_s w4 H4.out).mono ?_
  rintro e w5 ⟨rfl, rfl⟩
  go_wp2_with fail
  refine (ptake_s w4 H4.out (by simp)).mono ?_
  rintro e w5 ⟨rfl, k5, s5, h5, n5, q5⟩
  have R5 := Lib.hid (below_pipe R4.out k5 F4.out hp hc (Nat.le_refl _))
  clear k5 h5 n5 q5
  go_wp2_with fail
  go_ret
  exact ⟨rfl, R5.out⟩
end Go.Proofs.Ytlpmfiplcikfpaa
