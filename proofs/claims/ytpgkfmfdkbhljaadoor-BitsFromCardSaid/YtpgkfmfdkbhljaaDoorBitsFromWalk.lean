/-
  What stands here: the walk of BitsFrom. Under the condition that the library's table is as its initialiser lays it.
-/
import Derived.Test.YtpgkfmfdkbhljaaDoorBitsAlive
namespace Go.Proofs.YtpgkfmfdkbhljaaDoor
set_option linter.unusedVariables false
set_option linter.unusedSimpArgs false
open Go.RowKit Go.Proofs

set_option maxHeartbeats 1000000 in
theorem bitsFrom_walk (a0 : Int) (a1 : Int) (w : World) (w0 : (Lit.int .u64 a0).wf = true) (w1 : (Lit.int .i64 a1).wf = true) (hT : Tab w) :
    Calls Tryd.prog 3 #[.int .u64 a0, .int .i64 a1] w fun e w' => e = .returned (.bool true) ∧ Below w.heap.size w w' := by
  have hb := bd_u64 w0
  obtain ⟨m, rfl⟩ : ∃ m : Nat, a0 = m := ⟨a0.toNat, by omega⟩
  have hm : m < 18446744073709551616 := by omega
  have hpos := hT.lt
  have h1 := reffrom_any m hm a1
  have h2 := fun w => from_any m hm a1 w
  have h3 := reffrom_any m hm 0
  have h4 := fun w => round_any m hm a1 w
  unfold roundL at h4
  clear w0 w1 hb
  obtain ⟨x, hx⟩ : ∃ x, x = fromL (slots m) a1 := ⟨_, rfl⟩
  obtain ⟨y, hy⟩ : ∃ y, y = fromL (slots m) 0 := ⟨_, rfl⟩
  rw [← hx] at h1 h2 h4
  rw [← hy] at h3 h4
  clear hx hy
  have st : ∀ (A B : World), Below w.heap.size w A → Below A.heap.size A B → Below w.heap.size w B := fun A B h k => h.trans (k.mono h.size)
  by_cases hx : 0 ≤ x
  · simp only [if_pos hx] at h4
    go_enter Tryd.func3, Tryd.ntmps3
    go_wp2_with fail
    refine (alive_any w hT).mono ?_
    rintro e w1 ⟨rfl, k1⟩
    go_wp2_with fail
    refine (h1 w1).mono ?_
    rintro e w2 ⟨rfl, k2⟩
    have k2' := st _ _ k1 k2
    go_wp2_with fail
    refine (h2 w2 (hT.below k2' hpos)).mono ?_
    rintro e w3 ⟨rfl, k3⟩
    have k3' := st _ _ k2' k3
    go_wp2_with fail
    refine (h4 w3 (hT.below k3' hpos)).mono ?_
    rintro e w4 ⟨rfl, k4⟩
    go_wp2_with fail
    go_ret
    exact ⟨rfl, st _ _ k3' k4⟩
  · simp only [if_neg hx] at h4
    go_enter Tryd.func3, Tryd.ntmps3
    go_wp2_with fail
    refine (alive_any w hT).mono ?_
    rintro e w1 ⟨rfl, k1⟩
    go_wp2_with fail
    refine (h1 w1).mono ?_
    rintro e w2 ⟨rfl, k2⟩
    have k2' := st _ _ k1 k2
    go_wp2_with fail
    refine (h2 w2 (hT.below k2' hpos)).mono ?_
    rintro e w3 ⟨rfl, k3⟩
    have k3' := st _ _ k2' k3
    go_wp2_with fail
    refine (h3 w3).mono ?_
    rintro e w4 ⟨rfl, k4⟩
    have k4' := st _ _ k3' k4
    go_wp2_with fail
    refine (h4 w4 (hT.below k4' hpos)).mono ?_
    rintro e w5 ⟨rfl, k5⟩
    go_wp2_with fail
    go_ret
    exact ⟨rfl, st _ _ k4' k5⟩
end Go.Proofs.YtpgkfmfdkbhljaaDoor
