/-
  What stands here: the walk of ProgNone. Under no condition but that its argument fits its type.
-/
import Derived.Test.YtojjelafkieflaaProgAlive
namespace Go.Proofs.Ytojjelafkieflaa
set_option linter.unusedVariables false
set_option linter.unusedSimpArgs false
open Go.RowKit Go.Proofs

theorem stop_none (w : World) : Calls Try.prog 23 #[.pointer none] w fun e w' => e = .returned (.bool false) ∧ Still w w' :=
  step_no _ w ((may_none w).mono fun e w' ⟨he, hw⟩ => ⟨he, hw ▸ still_refl w⟩)
theorem stop_done (p : Nat) (may : Value) (n : Int) (T : TypeId) (w : World) (hb : Blk w p #[may, .nilFunc, .int .i64 n] T) : Calls Try.prog 23 #[.pointer (some ⟨p, 0, none⟩)] w fun e w' => e = .returned (.bool false) ∧ Still w w' :=
  step_no _ w ((may_done p may n T w hb).mono fun e w' ⟨he, hw⟩ => ⟨he, hw ▸ still_refl w⟩)

set_option maxHeartbeats 2000000 in
theorem progNone_walk (a0 : Int) (w : World) (w0 : (Lit.int .u8 a0).wf = true) :
    Calls Try.prog 5 #[.int .u8 a0] w fun e w' => e = .returned (.bool true) ∧ Below w.heap.size w w' := by
  have h0 := bd_u8 w0
  clear w0
  go_enter Try.func5, Try.ntmps5
  go_wp2_with fail
  refine (alive_any _).mono ?_
  rintro e w1 ⟨rfl, k1⟩
  go_wp2_with fail
  refine (new_any .nilFunc .nilFunc (.inl rfl) (.inl rfl) w1).mono ?_
  rintro e w2 ⟨rfl, k2, b2⟩
  generalize w1.heap.size + 1 = p at *
  go_wp2_with fail
  have hv : VRow (fun b => b = w2.heap.size) (w2.alloc (.cells #[.nilFunc, .nilFunc] 1)) (.slice (some ⟨w2.heap.size, 0, none⟩) 2 2) [.nilFunc, .nilFunc] :=
    ⟨_, _, rfl, by simp, by unfold maxLen; omega, fun _ => ⟨_, _, rfl, by simp, rfl, fun j hj => by rw [(Blk.new w2 _ _).cell, Nat.zero_add]; simp⟩⟩
  refine (row_any (σ := Unit) (· = .nilFunc) rfl (fun _ M _ => ∀ b, ¬ M b) (fun _ M _ h b hb => absurd hb (h b)) (fun _ M _ _ h _ => h) _ _ _ _ _ () [] _ _ rfl hv (fun b e => by subst e; simp) (.inl ⟨rfl, .inl ⟨rfl, rfl⟩⟩)).mono ?_
  rintro e w3 ⟨d, Fp, rfl, k3, _, hD⟩
  obtain rfl : d = .nilFunc := hD
  go_wp2_with fail
  refine (new_any .nilFunc .nilFunc (.inl rfl) (.inl rfl) w3).mono ?_
  rintro e w4 ⟨rfl, k4, b4⟩
  generalize w3.heap.size + 1 = q at *
  go_wp2_with fail
  refine (until_any _ .nilFunc (.inr ⟨_, _, rfl⟩) (.inl rfl) w4).mono ?_
  rintro e w5 ⟨rfl, k5⟩
  go_wp2_with fail
  refine (new_any _ .nilFunc (.inr ⟨_, _, rfl⟩) (.inl rfl) w5).mono ?_
  rintro e w6 ⟨rfl, k6, b6⟩
  generalize w5.heap.size + 1 = r at *
  have ka : Still w1 w6 := (((k2.alloc (.cells #[.nilFunc, .nilFunc] 1)).trans (k3.trans k4)).trans k5).trans k6
  have hbel := below_still k1 ka (Nat.le_refl _)
  have bp := ((((b2.alloc (.cells #[.nilFunc, .nilFunc] 1)).still k3).still k4).still k5).still k6
  have bq := (b4.still k5).still k6
  clear b2 b4 k2 k3 k4 k5 k6 ka hv k1
  have HB := Lib.hid hbel
  clear hbel
  go_wp2_with fail
  go_loopw [7] (fun i wr => ∃ k : Nat, k ≤ (a0 % 5).toNat ∧ i = .int .i64 k ∧ Still w6 wr) (fun i _ => (a0 % 5).toNat - (intOf i).toNat)
  case atStart => exact ⟨0, by omega, rfl, still_refl _⟩
  case round =>
    obtain ⟨k, hk, rfl, hs⟩ := hrel
    have cp := bp.still hs
    have cq := bq.still hs
    have cr := b6.still hs
    by_cases hlt : (k : Int) < a0 % 5
    · go_wp2_with fail
      refine (stop_none _).mono ?_
      rintro e v1 ⟨rfl, s1⟩
      go_wp2_with fail
      refine (stop_done _ _ _ _ _ (cp.still s1)).mono ?_
      rintro e v2 ⟨rfl, s2⟩
      go_wp2_with fail
      refine (stop_done _ _ _ _ _ ((cq.still s1).still s2)).mono ?_
      rintro e v3 ⟨rfl, s3⟩
      go_wp2_with fail
      refine (stop_done _ _ _ _ _ (((cr.still s1).still s2).still s3)).mono ?_
      rintro e v4 ⟨rfl, s4⟩
      go_wp2_with fail
      go_roundw
      case rel => exact ⟨k + 1, by omega, by go_num, (((hs.trans s1).trans s2).trans s3).trans s4⟩
      case measure => simp [intOf]; omega
    · go_wp2_with fail
      refine (done_none _).mono ?_
      rintro e v1 ⟨rfl, rfl⟩
      go_wp2_with fail
      refine (may_none _).mono ?_
      rintro e v1 ⟨rfl, rfl⟩
      go_wp2_with fail
      refine (steps_none _).mono ?_
      rintro e v1 ⟨rfl, rfl⟩
      go_wp2_with fail
      refine (done_yes _ _ _ _ _ cp).mono ?_
      rintro e v1 ⟨rfl, rfl⟩
      go_wp2_with fail
      refine (may_done _ _ _ _ _ cp).mono ?_
      rintro e v1 ⟨rfl, rfl⟩
      go_wp2_with fail
      refine (steps_any _ _ _ _ _ _ cp).mono ?_
      rintro e v1 ⟨rfl, rfl⟩
      go_wp2_with fail
      refine (done_yes _ _ _ _ _ cq).mono ?_
      rintro e v1 ⟨rfl, rfl⟩
      go_wp2_with fail
      refine (done_yes _ _ _ _ _ cr).mono ?_
      rintro e v1 ⟨rfl, rfl⟩
      go_wp2_with fail
      refine (may_done _ _ _ _ _ cr).mono ?_
      rintro e v1 ⟨rfl, rfl⟩
      go_wp2_with fail
      go_ret
      exact ⟨rfl, below_still HB.out hs (Nat.le_refl _)⟩
end Go.Proofs.Ytojjelafkieflaa
