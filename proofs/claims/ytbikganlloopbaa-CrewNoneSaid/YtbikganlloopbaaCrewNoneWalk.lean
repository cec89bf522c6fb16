/-
  What stands here: the walk of CrewNone. Under no condition but that its arguments fit their types.
-/
import Derived.Test.YtbikganlloopbaaCrewAlive
namespace Go.Proofs.Ytbikganlloopbaa
set_option linter.unusedVariables false
set_option linter.unusedSimpArgs false
open Go.RowKit Go.Proofs
theorem eql_firing (t u : FiringV) (W : World) : (binOp .eql 40 t.v u.v).run Try.prog W = .ok (.bool (decide (t = u))) W := by
  have hp : Try.prog.stoodInHeld 40 = false := by kernel_rfl
  have ht : Try.prog.underlying 40 = some (.struct (Try.prog.fieldsOf 40)) := by kernel_rfl
  rw [run_eql_struct, run_equalIn_agg W 9999 _ _ _ ht hp]
  clear hp ht
  simp [go_sem, Op.eqFields]
  by_cases h : t = u
  · subst h; simp
  · have h2 := h
    rw [firing_eq] at h2
    rw [decide_eq_false h]
    repeat' split
    all_goals first | rfl | (exfalso; exact h2 ⟨by assumption, by assumption, by assumption, by assumption⟩)
set_option maxHeartbeats 4000000 in
set_option maxRecDepth 100000 in
theorem crewNone_walk (a0 : Int) (w : World) (w0 : (Lit.int .u8 a0).wf = true) :
    Calls Try.prog 4 #[.int .u8 a0] w fun e w' => e = .returned (.bool true) ∧ Below w.heap.size w w' := by
  have h0 := bd_u8 w0
  clear w0
  obtain ⟨m, rfl⟩ : ∃ m : Nat, a0 = m := ⟨a0.toNat, by omega⟩
  obtain ⟨i0, hi, hz0, hz1, hz2⟩ := info_parts infoPW
  go_enter Try.func4, Try.ntmps4
  go_wp2_with fail
  refine (alive_any w).mono ?_
  rintro e w1 ⟨rfl, k1⟩
  go_wp2_with fail
  refine (cholds_nil w1).mono ?_
  rintro e w2 ⟨rfl, k2⟩
  obtain ⟨w3, hw3⟩ : ∃ w3, w3 = w2.alloc (.cells #[.int .u64 0, .int .u64 0, .int .u64 0, .int .u64 0] 40) := ⟨_, rfl⟩
  obtain ⟨X, hX⟩ : ∃ X, X = w2.heap.size := ⟨_, rfl⟩
  have k3 : Still w2 w3 := by rw [hw3]; exact (still_refl w2).alloc _
  have bX : Blk w3 X #[.int .u64 0, .int .u64 0, .int .u64 0, .int .u64 0] 40 := by rw [hw3, hX]; exact Blk.new _ _ _
  have K3 := Lib.hid (below_still k1 (k2.trans k3) (Nat.le_refl _))
  have HW3 := Lib.hid hw3
  have HX := Lib.hid hX
  have BX := Lib.hid bX
  clear hw3 hX bX k1 k2 k3
  go_upto_region 5 with fail
  rw [← HW3.out, ← HX.out]
  go_wp2_with fail
  refine (cbegin_nil w3).mono ?_
  rintro e w4 ⟨rfl, rfl⟩
  obtain ⟨n, hn⟩ : ∃ n : Nat, n = m % 5 := ⟨_, rfl⟩
  have hn5 : n < 5 := by omega
  have hmod : (m : Int).tmod 5 = (n : Int) := by rw [hn]; rfl
  have hwr : wrap64 (m : Int) = m := wrap64_in _ (by omega) (by omega)
  clear hn
  go_wp2_with (first | (at_make; refine wpList_make_full _ rfl _ _ 49 rfl w3.heap.size 31 i0 (.pointer none) 1 Try.underlying49 hi hz0 hz1 _ _ _ _ n rfl rfl rfl rfl (by rw [hz2]; omega) (by unfold maxLen; omega) (Nat.le_refl _) ?_) | fail)
  intro w5 how hgr
  have k5 : Still w3 w5 := (Kept.refl (fun _ => False) w3).grown hgr (fun k e _ => by cases e)
  have hrow : VRow (fun _ => True) w5 (.slice (some ⟨w3.heap.size, 0, none⟩) n n) (List.replicate n (.pointer none)) := by
    have h9 := (VRow.of_owns how).mono (R := fun _ => True) (fun _ _ => trivial)
    have e9 : (madeCells #[Value.pointer none] n).toList = List.replicate n (.pointer none) := by
      unfold madeCells
      rw [List.eq_replicate_iff]
      refine ⟨by simp, fun b hb => ?_⟩
      simp [Nat.mod_one] at hb
      exact hb.2 ▸ rfl
    rw [e9] at h9
    exact h9
  have b5 := BX.out.still k5
  have K5 := Lib.hid (below_still K3.out k5 (by have := K3.out.size; omega))
  have HROW := Lib.hid hrow
  have e0 : w5.cell? ⟨X, 0, none⟩ = some (.int .u64 0) := b5.cell 0
  have e1 : w5.cell? ⟨X, 1, none⟩ = some (.int .u64 0) := b5.cell 1
  have e2 : w5.cell? ⟨X, 2, none⟩ = some (.int .u64 0) := b5.cell 2
  have e3 : w5.cell? ⟨X, 3, none⟩ = some (.int .u64 0) := b5.cell 3
  have heq := eql_firing ⟨0, 0, 0, 0⟩ ⟨0, 0, 0, 0⟩
  rw [decide_eq_true rfl] at heq
  clear how hgr k5 hrow b5
  go_wp2_with fail
  refine (cmay_nil w5).mono ?_
  rintro e w6 ⟨rfl, rfl⟩
  go_wp2_with fail
  refine (cstep_nil w5).mono ?_
  rintro e w6 ⟨rfl, rfl⟩
  go_wp2_with fail
  refine (cworked_nil w5).mono ?_
  rintro e w6 ⟨rfl, rfl⟩
  go_wp2_with fail
  refine (ccrew_nil w5).mono ?_
  rintro e w6 ⟨rfl, k6⟩
  go_wp2_with fail
  refine (cidle_nil (by omega) (HROW.out.still k6)).mono ?_
  rintro e w7 ⟨rfl, k7⟩
  go_wp2_with fail
  go_ret
  have hz := K3.out.size
  exact ⟨rfl, below_still (below_still K5.out k6 (by have := K5.out.size; omega)) k7 (by have := K5.out.size; have := k6.size; omega)⟩
end Go.Proofs.Ytbikganlloopbaa
