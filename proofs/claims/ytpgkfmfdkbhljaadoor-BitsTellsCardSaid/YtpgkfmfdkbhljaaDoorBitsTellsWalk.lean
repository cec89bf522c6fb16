/-
  What stands here: the walk of BitsTells. Under the condition that the library's table is as its initialiser lays it.
-/
import Derived.Test.YtpgkfmfdkbhljaaDoorBitsAlive
import Derived.Test.YtpgkfmfdkbhljaaDoorBitsColl
import Derived.Test.YtpgkfmfdkbhljaaDoorBitsPop
namespace Go.Proofs.YtpgkfmfdkbhljaaDoor
set_option linter.unusedVariables false
set_option linter.unusedSimpArgs false
open Go.RowKit Go.Proofs

set_option maxHeartbeats 1000000 in
theorem bitsTells_walk (a0 : Int) (a1 : Int) (w : World) (w0 : (Lit.int .u64 a0).wf = true) (w1 : (Lit.int .i64 a1).wf = true) (hT : Tab w) :
    Calls Tryd.prog 6 #[.int .u64 a0, .int .i64 a1] w fun e w' => e = .returned (.bool true) ∧ Below w.heap.size w w' := by
  have hb := bd_u64 w0
  obtain ⟨m, rfl⟩ : ∃ m : Nat, a0 = m := ⟨a0.toNat, by omega⟩
  have hm : m < 18446744073709551616 := by omega
  have hpos := hT.lt
  clear w0 w1 hb
  have st : ∀ (A B : World), Below w.heap.size w A → Below A.heap.size A B → Below w.heap.size w B := fun A B h k => h.trans (k.mono h.size)
  have h1 := refall_any m hm
  have h2 := has_any m hm a1
  have h3 := refhas_any m hm a1
  have h4 := all_any m hm
  have h5 := len_any m hm
  obtain ⟨l, hl⟩ : ∃ l, l = slots m := ⟨_, rfl⟩
  rw [← hl] at h1 h4 h5
  clear hl
  obtain ⟨x, hx⟩ : ∃ x, x = hasB m a1 := ⟨_, rfl⟩
  rw [← hx] at h2 h3
  clear hx
  go_enter Tryd.func6, Tryd.ntmps6
  go_wp2_with fail
  refine (alive_any w hT).mono ?_
  rintro e w1 ⟨rfl, k1⟩
  go_wp2_with fail
  refine (h1 w1).mono ?_
  rintro e w2 ⟨⟨v, rfl, hr⟩, k2⟩
  have k2' := st _ _ k1 k2
  obtain ⟨a, cap, rfl⟩ := VRow.len hr
  rw [List.length_map, List.length_map] at hr ⊢
  have HR := Lib.hid hr
  clear hr
  go_wp2_with fail
  refine (h2 w2).mono ?_
  rintro e w2 ⟨rfl, rfl⟩
  go_wp2_with fail
  refine (h3 w2).mono ?_
  rintro e w2 ⟨rfl, rfl⟩
  go_wp2_with fail
  refine (h4 w2 (hT.below k2' hpos)).mono ?_
  rintro e w3 ⟨⟨v, rfl, hr3⟩, k3⟩
  have k3' := st _ _ k2' k3
  have hr2 := HR.out.below k3
  obtain ⟨a', cap', rfl⟩ := VRow.len hr3
  rw [List.length_map, List.length_map] at hr3 ⊢
  have hint := ints_any _ _ _ _ _ _ w3 hr3 hr2
  rw [show decide (ints l = ints l) = true by simp] at hint
  have HI := Lib.hid hint
  clear hint hr3 hr2
  go_wp2_with fail
  refine HI.out.mono ?_
  rintro e w4 ⟨rfl, k4⟩
  have k4' := below_still k3' k4 (Nat.le_refl _)
  go_wp2_with fail
  refine (h5 w4).mono ?_
  rintro e w4 ⟨rfl, rfl⟩
  go_wp2_with fail
  go_ret
  exact ⟨rfl, k4'⟩
end Go.Proofs.YtpgkfmfdkbhljaaDoor
