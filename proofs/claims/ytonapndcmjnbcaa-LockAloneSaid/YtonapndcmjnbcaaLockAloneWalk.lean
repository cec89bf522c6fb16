/-
  What stands here: the walk of the law LockAlone: it answers true and turns nothing that was there. Under no condition.
-/
import Derived.Test.YtonapndcmjnbcaaLockFns
namespace Go.Proofs.Ytonapndcmjnbcaa
set_option linter.unusedVariables false
set_option linter.unusedSimpArgs false
open Go.RowKit Go.Proofs

set_option maxHeartbeats 1000000 in
set_option maxRecDepth 10000 in
theorem lockAlone_walk (a0 : Option Addr) (len0 cap0 : Nat) (f0_0 : Nat → Int) (f0_1 : Nat → Bool) (w : World) (w0 : len0 ≤ maxLen ∧ (0 < len0 → ∃ b o, a0 = some ⟨b, o, none⟩ ∧ b < w.heap.size ∧ ∀ i, i < len0 → w.cell? ⟨b, o + i * 2, none⟩ = some (.int .i64 (f0_0 i)) ∧ (Lit.int .i64 (f0_0 i)).wf = true ∧ w.cell? ⟨b, o + i * 2 + 1, none⟩ = some (.bool (f0_1 i)))) :
    Calls Try.prog 3 #[.slice a0 len0 cap0] w fun e w' => e = .returned (.bool true) ∧ Below w.heap.size w w' := by
  obtain ⟨hm, hrow⟩ := w0
  unfold maxLen at hm
  go_enter Try.func3, Try.ntmps3
  go_wp2_with fail
  refine (lockAlive w).mono ?_
  rintro e w1 ⟨rfl, k1⟩
  go_wp2_with fail
  · go_ret
    exact ⟨rfl, k1⟩
  refine (lockNew _).mono ?_
  rintro e w2 ⟨rfl, k2, b2⟩
  have z1 := k1.size
  have z2 := b2.lt
  have kw2 := below_still k1 k2 (Nat.le_refl _)
  obtain ⟨C, hC⟩ : ∃ C, w1.heap.size = C := ⟨_, rfl⟩
  rw [hC] at b2 z1 z2 ⊢
  clear hC k1 k2
  go_wp2_with fail
  go_loopw [4, 5, 6] (fun n sm i wr => ∃ (k : Nat) (m h : Int) (s : Bool), k ≤ len0 ∧ i = .int .i64 k ∧ n = .int .i64 h ∧ sm = .bool s ∧ (0 ≤ m ∧ m ≤ k) ∧ OwnOk (if s then some h else none) ∧ Below w.heap.size w wr ∧ LockAt wr C (if s then some h else none) m) (fun _ _ i _ => len0 - (intOf i).toNat)
  case atStart => exact ⟨0, 0, 0, false, by omega, rfl, rfl, rfl, by omega, ownOk_none, kw2, b2⟩
  case round =>
    clear b2 kw2
    obtain ⟨k, m, h, s, hk, rfl, rfl, rfl, hm0, how, hbr, bCr⟩ := hrel
    by_cases hlt : k < len0
    · obtain ⟨b, o, ha, hbl, hc⟩ := hrow (by omega)
      obtain ⟨q0, _, q1⟩ := hc k hlt
      have hix := run_indexAt_at (P := Try.prog) (t := 22) (cap := cap0) (s := 2) ha Try.underlying22 (fun _ => by kernel_rfl) hlt
      clear ha hc hrow
      have e0 := (hbr.cell (p := ⟨b, o + k * 2, none⟩) hbl).trans q0
      have e1 := (hbr.cell (p := ⟨b, o + k * 2 + 1, none⟩) hbl).trans q1
      generalize f0_0 k = who at *
      generalize f0_1 k = lv at *
      have zb := hbr.size
      have hCl := bCr.lt
      obtain ⟨A, hA⟩ : ∃ A, wr.heap.size = A := ⟨_, rfl⟩
      have bA := Blk.newAt wr #[.int .i64 who, .bool lv] 27 hA
      have bC := bCr.still ((still_refl wr).alloc (.cells #[.int .i64 who, .bool lv] 27))
      have hbel := hbr.alloc (by omega) (.cells #[.int .i64 who, .bool lv] 27)
      clear hbr bCr
      by_cases hw : 1099511627776 < who
      · go_wp2_with fail
        go_ret
        exact ⟨rfl, hbel⟩
      cases lv
      · cases s
        · simp only [Bool.false_eq_true, if_false] at bC how
          by_cases h0 : 0 ≤ who
          · go_wp2_with fail
            try rw [hA]
            refine (try_any C who m none _ bC how (by omega) (by omega)).mono ?_
            have hB : tryB none who = true := by unfold tryB; rw [decide_eq_true (by omega)]; rfl
            unfold tryO tryN
            rw [hB]
            clear hB
            rintro e w3 ⟨rfl, k3, b3⟩
            have hb3 := below_only hbel k3 (Nat.le_refl _) (by omega)
            have bA3 := bA.only k3 (by omega)
            have cA0 := bA3.cell 0
            have cA1 := bA3.cell 1
            simp only [if_true] at b3
            have ho3 : OwnOk (some who) := by first | exact ownOk_none | (apply ownOk_some; omega)
            go_wp2_with fail
            refine (owner_is C _ who w3 b3 (ho3 _ rfl)).mono ?_
            rintro e w4 ⟨rfl, k4, b4⟩
            have hb4 := below_only hb3 k4 (Nat.le_refl _) (by omega)
            go_wp2_with fail
            go_roundw
            case rel => exact ⟨k + 1, m + 1, who, true, by omega, by go_num, rfl, rfl, by omega, ho3, hb4, b4⟩
            case measure => simp [intOf]; omega
          · go_wp2_with fail
            try rw [hA]
            refine (try_any C who m none _ bC how (by omega) (by omega)).mono ?_
            have hB : tryB none who = false := by unfold tryB; rw [decide_eq_false (by omega)]; rfl
            unfold tryO tryN
            rw [hB]
            clear hB
            rintro e w3 ⟨rfl, k3, b3⟩
            have hb3 := below_only hbel k3 (Nat.le_refl _) (by omega)
            have bA3 := bA.only k3 (by omega)
            have cA0 := bA3.cell 0
            have cA1 := bA3.cell 1
            simp only [Bool.false_eq_true, if_false] at b3
            have ho3 : OwnOk (none) := by first | exact ownOk_none | (apply ownOk_some; omega)
            go_wp2_with fail
            refine (owner_isnt C _ w3 b3).mono ?_
            rintro e w4 ⟨rfl, k4, b4⟩
            have hb4 := below_only hb3 k4 (Nat.le_refl _) (by omega)
            go_wp2_with fail
            go_roundw
            case rel => exact ⟨k + 1, m, h, false, by omega, by go_num, rfl, rfl, by omega, ho3, hb4, b4⟩
            case measure => simp [intOf]; omega
        · simp only [if_true] at bC how
          have hh := how h rfl
          go_wp2_with fail
          try rw [hA]
          refine (try_any C who m (some h) _ bC how (by omega) (by omega)).mono ?_
          have hB : tryB (some h) who = false := rfl
          unfold tryO tryN
          rw [hB]
          clear hB
          rintro e w3 ⟨rfl, k3, b3⟩
          have hb3 := below_only hbel k3 (Nat.le_refl _) (by omega)
          have bA3 := bA.only k3 (by omega)
          have cA0 := bA3.cell 0
          have cA1 := bA3.cell 1
          simp only [Bool.false_eq_true, if_false] at b3
          have ho3 : OwnOk (some h) := by first | exact ownOk_none | (apply ownOk_some; omega)
          go_wp2_with fail
          refine (owner_is C _ h w3 b3 (ho3 _ rfl)).mono ?_
          rintro e w4 ⟨rfl, k4, b4⟩
          have hb4 := below_only hb3 k4 (Nat.le_refl _) (by omega)
          go_wp2_with fail
          go_roundw
          case rel => exact ⟨k + 1, m, h, true, by omega, by go_num, rfl, rfl, by omega, ho3, hb4, b4⟩
          case measure => simp [intOf]; omega
      · cases s
        · simp only [Bool.false_eq_true, if_false] at bC how
          have hL : (leaveV none who == 0) = false := by unfold leaveV; split <;> simp
          have hO : leaveO none who = none := by unfold leaveO; split <;> simp
          go_wp2_with fail
          try rw [hA]
          refine (leave_any C who m none _ bC how (by omega)).mono ?_
          rw [hO]
          clear hO
          generalize leaveV none who = z at *
          rintro e w3 ⟨rfl, k3, b3⟩
          have hb3 := below_only hbel k3 (Nat.le_refl _) (by omega)
          have bA3 := bA.only k3 (by omega)
          have cA0 := bA3.cell 0
          have cA1 := bA3.cell 1
          have ho3 : OwnOk (none) := by first | exact ownOk_none | (apply ownOk_some; omega)
          go_wp2_with fail
          refine (owner_isnt C _ w3 b3).mono ?_
          rintro e w4 ⟨rfl, k4, b4⟩
          have hb4 := below_only hb3 k4 (Nat.le_refl _) (by omega)
          go_wp2_with fail
          go_roundw
          case rel => exact ⟨k + 1, m, h, false, by omega, by go_num, rfl, rfl, by omega, ho3, hb4, b4⟩
          case measure => simp [intOf]; omega
        · simp only [if_true] at bC how
          have hh := how h rfl
          by_cases he : h = who
          · subst he
            have hL : leaveV (some h) h = 0 := by unfold leaveV; rw [if_neg (by omega), if_pos rfl]
            have hO : leaveO (some h) h = none := by unfold leaveO; rw [if_neg (by omega), if_pos rfl]
            go_wp2_with fail
            try rw [hA]
            refine (leave_any C h m (some h) _ bC how (by omega)).mono ?_
            rw [hO, hL]
            clear hO hL
            rintro e w3 ⟨rfl, k3, b3⟩
            have hb3 := below_only hbel k3 (Nat.le_refl _) (by omega)
            have bA3 := bA.only k3 (by omega)
            have cA0 := bA3.cell 0
            have cA1 := bA3.cell 1
            have ho3 : OwnOk (none) := by first | exact ownOk_none | (apply ownOk_some; omega)
            go_wp2_with fail
            refine (owner_isnt C _ w3 b3).mono ?_
            rintro e w4 ⟨rfl, k4, b4⟩
            have hb4 := below_only hb3 k4 (Nat.le_refl _) (by omega)
            go_wp2_with fail
            go_roundw
            case rel => exact ⟨k + 1, m, h, false, by omega, by go_num, rfl, rfl, by omega, ho3, hb4, b4⟩
            case measure => simp [intOf]; omega
          · have hL : (leaveV (some h) who == 0) = false := by unfold leaveV; rw [if_neg (show ¬ some h = some who from fun e => he (by cases e; rfl))]; split <;> simp
            have hO : leaveO (some h) who = some h := by unfold leaveO; rw [if_neg (show ¬ some h = some who from fun e => he (by cases e; rfl))]; split <;> rfl
            have hhw : (h == who) = false := by rw [beq_eq_false_iff_ne]; exact he
            go_wp2_with fail
            try rw [hA]
            refine (leave_any C who m (some h) _ bC how (by omega)).mono ?_
            rw [hO]
            clear hO
            generalize leaveV (some h) who = z at *
            rintro e w3 ⟨rfl, k3, b3⟩
            have hb3 := below_only hbel k3 (Nat.le_refl _) (by omega)
            have bA3 := bA.only k3 (by omega)
            have cA0 := bA3.cell 0
            have cA1 := bA3.cell 1
            have ho3 : OwnOk (some h) := by first | exact ownOk_none | (apply ownOk_some; omega)
            go_wp2_with fail
            refine (owner_is C _ h w3 b3 (ho3 _ rfl)).mono ?_
            rintro e w4 ⟨rfl, k4, b4⟩
            have hb4 := below_only hb3 k4 (Nat.le_refl _) (by omega)
            go_wp2_with fail
            go_roundw
            case rel => exact ⟨k + 1, m, h, true, by omega, by go_num, rfl, rfl, by omega, ho3, hb4, b4⟩
            case measure => simp [intOf]; omega
    · go_wp2_with fail
      go_ret
      exact ⟨rfl, hbr⟩
end Go.Proofs.Ytonapndcmjnbcaa
