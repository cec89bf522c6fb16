/-
  What stands here: the document's example of a word of slots holds. Under the condition that the library's table is as its initialiser lays it.
-/
import Derived.Test.YtpgkfmfdkbhljaaDoorBitsRef
namespace Go.Proofs.YtpgkfmfdkbhljaaDoor
set_option linter.unusedVariables false
set_option linter.unusedSimpArgs false
open Go.RowKit Go.Proofs

theorem ex_1 : withN 0 3 = 8 := by decide +kernel
theorem ex_2 : withN 8 40 = 1099511627784 := by decide +kernel
theorem ex_3 : fromL (slots 1099511627784) 4 = 40 := by decide +kernel
theorem ex_4 : fromL (slots 1099511627784) 41 = -1 := by decide +kernel
theorem ex_5 : roundL (slots 1099511627784) 41 = 3 := by decide +kernel
set_option maxHeartbeats 1000000 in
theorem alive_any (w : World) (hT : Tab w) : Calls Tryd.prog 8 #[] w fun e w' => e = .returned (.bool true) ∧ Below w.heap.size w w' := by
  have h1 := with_any 0 (by omega) 3
  rw [ex_1] at h1
  have h2 := with_any 8 (by omega) 40
  rw [ex_2] at h2
  have h3 := fun w => from_any 1099511627784 (by omega) 4 w
  rw [ex_3] at h3
  have h4 := fun w => from_any 1099511627784 (by omega) 41 w
  rw [ex_4] at h4
  have h5 := fun w => round_any 1099511627784 (by omega) 41 w
  rw [ex_5] at h5
  have hpos := hT.lt
  go_enter Tryd.func8, Tryd.ntmps8
  go_wp2_with fail
  refine (h1 w).mono ?_
  rintro e w1 ⟨rfl, rfl⟩
  go_wp2_with fail
  refine (h2 w).mono ?_
  rintro e w1 ⟨rfl, rfl⟩
  go_wp2_with fail
  refine (h3 w hT).mono ?_
  rintro e w2 ⟨rfl, k2⟩
  go_wp2_with fail
  refine (h4 w2 (hT.below k2 hpos)).mono ?_
  rintro e w3 ⟨rfl, k3⟩
  have k3' := k2.trans (k3.mono k2.size)
  go_wp2_with fail
  refine (h5 w3 (hT.below k3' hpos)).mono ?_
  rintro e w4 ⟨rfl, k4⟩
  go_wp2_with fail
  go_ret
  exact ⟨rfl, k3'.trans (k4.mono k3'.size)⟩
end Go.Proofs.YtpgkfmfdkbhljaaDoor
