/-
  What stands here: the walk of the law LockCounts: it answers true and turns nothing that was there. Under no condition.
-/
import Derived.Test.YtonapndcmjnbcaaLockFns
namespace Go.Proofs.Ytonapndcmjnbcaa
set_option linter.unusedVariables false
set_option linter.unusedSimpArgs false
open Go.RowKit Go.Proofs

set_option maxHeartbeats 1000000 in
theorem lockCounts_walk (a0 : Option Addr) (len0 cap0 : Nat) (f0_0 : Nat → Int) (f0_1 : Nat → Bool) (w : World) (w0 : len0 ≤ maxLen ∧ (0 < len0 → ∃ b o, a0 = some ⟨b, o, none⟩ ∧ b < w.heap.size ∧ ∀ i, i < len0 → w.cell? ⟨b, o + i * 2, none⟩ = some (.int .i64 (f0_0 i)) ∧ (Lit.int .i64 (f0_0 i)).wf = true ∧ w.cell? ⟨b, o + i * 2 + 1, none⟩ = some (.bool (f0_1 i)))) :
    Calls Try.prog 4 #[.slice a0 len0 cap0] w fun e w' => e = .returned (.bool true) ∧ Below w.heap.size w w' := by
  obtain ⟨hm, hrow⟩ := w0
  unfold maxLen at hm
  go_enter Try.func4, Try.ntmps4
  go_wp2_with fail
  refine (lockAlive w).mono ?_
  rintro e w1 ⟨rfl, k1⟩
  go_wp2_with fail
  · go_ret
    exact ⟨rfl, k1⟩
  refine (lockNew _).mono ?_
  rintro e w2 ⟨rfl, k2, b2⟩
  have z1 := k1.size
  have z2 := b2.lt
  have kw2 := below_still k1 k2 (Nat.le_refl _)
  obtain ⟨C, hC⟩ : ∃ C, w1.heap.size = C := ⟨_, rfl⟩
  rw [hC] at b2 z1 z2 ⊢
  clear hC k1 k2
  go_wp2_with fail
  go_loopw [4, 5] (fun n i wr => ∃ (k : Nat) (m : Int) (ow : Option Int), k ≤ len0 ∧ i = .int .i64 k ∧ n = .int .i64 m ∧ (0 ≤ m ∧ m ≤ k) ∧ OwnOk ow ∧ Below w.heap.size w wr ∧ LockAt wr C ow m) (fun _ i _ => len0 - (intOf i).toNat)
  case atStart => exact ⟨0, 0, none, by omega, rfl, rfl, by omega, ownOk_none, kw2, b2⟩
  case round =>
    clear b2 kw2
    obtain ⟨k, m, ow, hk, rfl, rfl, hm0, how, hbel, bC⟩ := hrel
    by_cases hlt : k < len0
    · obtain ⟨b, o, ha, hbl, hc⟩ := hrow (by omega)
      obtain ⟨q0, _, q1⟩ := hc k hlt
      have hix := run_indexAt_at (P := Try.prog) (t := 22) (cap := cap0) (s := 2) ha Try.underlying22 (fun _ => by kernel_rfl) hlt
      clear ha hc hrow
      have e0 := (hbel.cell (p := ⟨b, o + k * 2, none⟩) hbl).trans q0
      have e1 := (hbel.cell (p := ⟨b, o + k * 2 + 1, none⟩) hbl).trans q1
      generalize f0_0 k = who at *
      generalize f0_1 k = lv at *
      by_cases hw : 1099511627776 < who
      · go_wp2_with fail
        go_ret
        exact ⟨rfl, hbel⟩
      cases lv
      · go_wp2_with fail
        refine (try_any C who m ow wr bC how (by omega) (by omega)).mono ?_
        rintro e w3 ⟨rfl, k3, b3⟩
        have hb3 := below_only hbel k3 (Nat.le_refl _) (by omega)
        have ho3 := tryO_ok (who := who) how (by omega)
        unfold tryN at b3
        generalize tryO ow who = ow' at *
        generalize tryB ow who = y at *
        cases y
        · go_wp2_with fail
          refine (turns_any C m ow' w3 b3).mono ?_
          rintro e w4 ⟨rfl, k4⟩
          go_wp2_with fail
          go_roundw
          case rel => exact ⟨k + 1, m, ow', by omega, by go_num, rfl, by omega, ho3, below_still hb3 k4 (Nat.le_refl _), b3.still k4⟩
          case measure => simp [intOf]; omega
        · go_wp2_with fail
          refine (turns_any C (m + 1) ow' w3 b3).mono ?_
          rintro e w4 ⟨rfl, k4⟩
          go_wp2_with fail
          go_roundw
          case rel => exact ⟨k + 1, m + 1, ow', by omega, by go_num, rfl, by omega, ho3, below_still hb3 k4 (Nat.le_refl _), b3.still k4⟩
          case measure => simp [intOf]; omega
      · go_wp2_with fail
        refine (leave_any C who m ow wr bC how (by omega)).mono ?_
        rintro e w3 ⟨rfl, k3, b3⟩
        have hb3 := below_only hbel k3 (Nat.le_refl _) (by omega)
        have ho3 := leaveO_ok (who := who) how
        generalize leaveO ow who = ow' at *
        go_wp2_with fail
        refine (turns_any C m ow' w3 b3).mono ?_
        rintro e w4 ⟨rfl, k4⟩
        go_wp2_with fail
        go_roundw
        case rel => exact ⟨k + 1, m, ow', by omega, by go_num, rfl, by omega, ho3, below_still hb3 k4 (Nat.le_refl _), b3.still k4⟩
        case measure => simp [intOf]; omega
    · go_wp2_with fail
      go_ret
      exact ⟨rfl, hbel⟩
end Go.Proofs.Ytonapndcmjnbcaa
