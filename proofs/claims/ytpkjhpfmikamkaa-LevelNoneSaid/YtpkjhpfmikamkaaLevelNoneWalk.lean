/-
  What stands here: the walk of LevelNone. Under no condition but that its argument fits its type.
-/
import Derived.Test.YtpkjhpfmikamkaaLevelOne
namespace Go.Proofs.Ytpkjhpfmikamkaa
set_option linter.unusedVariables false
set_option linter.unusedSimpArgs false
open Go.RowKit Go.Proofs

set_option maxHeartbeats 2000000 in
theorem levelNone_walk (a0 : Int) (w : World) (w0 : (Lit.int .i64 a0).wf = true) :
    Calls Try.prog 5 #[.int .i64 a0] w fun e w' => e = .returned (.bool true) ∧ Below w.heap.size w w' := by
  have h0 := bd_i64 w0
  clear w0
  by_cases hr : 0 ≤ a0 ∧ a0 < 64
  · obtain ⟨k, rfl⟩ : ∃ k : Nat, a0 = k := ⟨a0.toNat, by omega⟩
    have hk : k < 64 := by omega
    clear hr
    go_enter Try.func5, Try.ntmps5
    go_wp2_with fail
    refine (alive_any w).mono ?_
    rintro e w1 ⟨rfl, k1⟩
    go_wp2_with fail
    refine (lvnew_i LS.zero w1 (LW_i.zero w1)).mono ?_
    rintro e w2 ⟨rfl, k2, s2, sl, h2, b2, n2, g2, q2, o2, v2⟩
    have I2 := Lib.hid (LvI.start (LW_i.zero w1) k1 k2 h2 b2 n2 o2)
    clear k1 k2 h2 b2 n2 g2 q2 o2 v2
    generalize w1.heap.size = v at *
    go_wp2_with fail
    have I3 := Lib.hid (I2.out.node rfl (.int .i64 0))
    have hb3 := I3.out.lv
    have HB := Lib.hid hb3
    clear hb3
    refine (lvput_no_i _ v sl k none 1 (by decide) _ HB.out hk (put_no _ _)).mono ?_
    rintro e w4 ⟨rfl, rfl⟩
    go_wp2_with fail
    refine (lvrem_no_i _ v sl k none 1 (by decide) _ HB.out hk ((unlink_no _ _).mono ?_)).mono ?_
    · rintro e w5 ⟨rfl, rfl⟩
      exact ⟨rfl, still_refl _⟩
    rintro e w5 ⟨rfl, k5⟩
    have I5 := Lib.hid (I3.out.still k5)
    clear k5
    go_wp2_with fail
    refine (lvput_nil_i _ _ _).mono ?_
    rintro e w6 ⟨rfl, rfl⟩
    go_wp2_with fail
    refine (lvrem_nil_i _ _ _).mono ?_
    rintro e w6 ⟨rfl, rfl⟩
    go_wp2_with fail
    refine (lvtake_nil_i _ _).mono ?_
    rintro e w6 ⟨rfl, rfl⟩
    go_wp2_with fail
    refine (lvat_nil_i _ _).mono ?_
    rintro e w6 ⟨rfl, rfl⟩
    go_wp2_with fail
    refine (lvlen_nil_i _).mono ?_
    rintro e w6 ⟨rfl, rfl⟩
    go_wp2_with fail
    refine (lvmap_nil_i _).mono ?_
    rintro e w6 ⟨rfl, rfl⟩
    go_wp2_with fail
    go_ret
    exact ⟨rfl, I5.out.bel⟩
  · go_enter Try.func5, Try.ntmps5
    go_wp2_with fail
    refine (alive_any w).mono ?_
    rintro e w1 ⟨rfl, k1⟩
    go_wp2_with fail
    refine (lvnew_i LS.zero w1 (LW_i.zero w1)).mono ?_
    rintro e w2 ⟨rfl, k2, s2, sl, h2, b2, n2, g2, q2, o2, v2⟩
    have I2 := Lib.hid (LvI.start (LW_i.zero w1) k1 k2 h2 b2 n2 o2)
    clear k1 k2 h2 b2 n2 g2 q2 o2 v2
    generalize w1.heap.size = v at *
    go_wp2_with fail
    have I3 := Lib.hid (I2.out.node rfl (.int .i64 0))
    refine (lvput_range_i v a0 none _ hr).mono ?_
    rintro e w4 ⟨rfl, rfl⟩
    go_wp2_with fail
    refine (lvrem_range_i v a0 none _ hr).mono ?_
    rintro e w5 ⟨rfl, rfl⟩
    go_wp2_with fail
    all_goals
      refine (lvput_nil_i _ _ _).mono ?_
      rintro e w6 ⟨rfl, rfl⟩
      go_wp2_with fail
      refine (lvrem_nil_i _ _ _).mono ?_
      rintro e w6 ⟨rfl, rfl⟩
      go_wp2_with fail
      refine (lvtake_nil_i _ _).mono ?_
      rintro e w6 ⟨rfl, rfl⟩
      go_wp2_with fail
      refine (lvat_nil_i _ _).mono ?_
      rintro e w6 ⟨rfl, rfl⟩
      go_wp2_with fail
      refine (lvlen_nil_i _).mono ?_
      rintro e w6 ⟨rfl, rfl⟩
      go_wp2_with fail
      refine (lvmap_nil_i _).mono ?_
      rintro e w6 ⟨rfl, rfl⟩
      go_wp2_with fail
      go_ret
      exact ⟨rfl, I3.out.bel⟩
end Go.Proofs.Ytpkjhpfmikamkaa
