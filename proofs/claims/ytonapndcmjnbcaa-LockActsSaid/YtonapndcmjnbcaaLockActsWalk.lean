/-
  What stands here: the walk of the law LockActs: it answers true and turns nothing that was there. Under no condition.
-/
import Derived.Test.YtonapndcmjnbcaaLockRef
namespace Go.Proofs.Ytonapndcmjnbcaa
set_option linter.unusedVariables false
set_option linter.unusedSimpArgs false
open Go.RowKit Go.Proofs

set_option maxHeartbeats 1000000 in
set_option maxRecDepth 10000 in
theorem lockActs_walk (a0 : Option Addr) (len0 cap0 : Nat) (f0_0 : Nat → Int) (f0_1 : Nat → Bool) (a1 : Int) (w : World) (w0 : len0 ≤ maxLen ∧ (0 < len0 → ∃ b o, a0 = some ⟨b, o, none⟩ ∧ b < w.heap.size ∧ ∀ i, i < len0 → w.cell? ⟨b, o + i * 2, none⟩ = some (.int .i64 (f0_0 i)) ∧ (Lit.int .i64 (f0_0 i)).wf = true ∧ w.cell? ⟨b, o + i * 2 + 1, none⟩ = some (.bool (f0_1 i)))) (w1 : (Lit.int .i64 a1).wf = true) :
    Calls Try.prog 5 #[.slice a0 len0 cap0, .int .i64 a1] w fun e w' => e = .returned (.bool true) ∧ Below w.heap.size w w' := by
  obtain ⟨hm, hrow⟩ := w0
  unfold maxLen at hm
  go_enter Try.func5, Try.ntmps5
  go_wp2_with fail
  refine (lockAlive w).mono ?_
  rintro e w1 ⟨rfl, k1⟩
  go_wp2_with fail
  · go_ret
    exact ⟨rfl, k1⟩
  refine (lockNew _).mono ?_
  rintro e w2 ⟨rfl, k2, b2⟩
  have z1 := k1.size
  have z2 := b2.lt
  have kw2 := below_still k1 k2 (Nat.le_refl _)
  obtain ⟨C, hC⟩ : ∃ C, w1.heap.size = C := ⟨_, rfl⟩
  rw [hC] at b2 z1 z2 ⊢
  clear hC k1 k2
  go_wp2_with fail
  obtain ⟨R, hR⟩ : ∃ R, w2.heap.size = R := ⟨_, rfl⟩
  have bR : RefAt _ R none 0 := Blk.newAt w2 #[.bool false, .int .i64 0, .int .i64 0] 37 hR
  have bC := b2.still ((still_refl w2).alloc (.cells #[.bool false, .int .i64 0, .int .i64 0] 37))
  have kw := kw2.alloc (by omega) (.cells #[.bool false, .int .i64 0, .int .i64 0] 37)
  rw [hR] at z2 ⊢
  clear hR kw2 b2
  go_loopw [7] (fun i wr => ∃ (k : Nat) (m : Int) (ow : Option Int), k ≤ len0 ∧ i = .int .i64 k ∧ (0 ≤ m ∧ m ≤ k) ∧ OwnOk ow ∧ Below w.heap.size w wr ∧ LockAt wr C ow m ∧ RefAt wr R ow m) (fun i _ => len0 - (intOf i).toNat)
  case atStart => exact ⟨0, 0, none, by omega, rfl, by omega, ownOk_none, kw, bC, bR⟩
  case round =>
    clear bR bC kw
    obtain ⟨k, m, ow, hk, rfl, hm0, how, hbel, bC, bR⟩ := hrel
    by_cases hlt : k < len0
    · obtain ⟨b, o, ha, hbl, hc⟩ := hrow (by omega)
      obtain ⟨q0, _, q1⟩ := hc k hlt
      have hix := run_indexAt_at (P := Try.prog) (t := 22) (cap := cap0) (s := 2) ha Try.underlying22 (fun _ => by kernel_rfl) hlt
      clear ha hc hrow
      have e0 := (hbel.cell (p := ⟨b, o + k * 2, none⟩) hbl).trans q0
      have e1 := (hbel.cell (p := ⟨b, o + k * 2 + 1, none⟩) hbl).trans q1
      generalize f0_0 k = who at *
      generalize f0_1 k = lv at *
      by_cases hw : 1099511627776 < who
      · go_wp2_with fail
        go_ret
        exact ⟨rfl, hbel⟩
      cases lv
      · go_wp2_with fail
        refine wp_region_text ([4], [9]) [b] (by kernel_rfl) (by kernel_rfl) (cellsB_cons (cells_of_cell e0) cellsB_nil) (by simp [segs, isEff, isLoad, askOps, asks, eqOrNe, isNil]; rfl) ?_
        refine segs_go stay_drew (by simp [isLoad]) ?_
        go_wp2_with fail
        refine segs_load stay_drew (fun _ => (by exact ⟨b, _, rfl, by simp⟩)) ?_
        go_wp2_with fail
        have dC := bC.still (still_refl wr).drew
        have dbel := hbel.drew
        refine (try_any C who m ow wr.drew dC how (by omega) (by omega)).mono ?_
        rintro e w3 ⟨rfl, k3, b3⟩
        have hb3 := below_only dbel k3 (Nat.le_refl _) (by omega)
        have r3 := (bR.drew).only k3 (by omega)
        have e03 := (hb3.cell (p := ⟨b, o + k * 2, none⟩) hbl).trans q0
        have hs3 : StayB [b] wr w3 := stay_drew.kept k3 (fun x hx => by simp only [List.mem_singleton] at hx; subst hx; exact ⟨Nat.lt_of_lt_of_le hbl dbel.size, by omega⟩)
        go_wp2_with fail
        refine segs_go hs3 (by simp [isLoad]) ?_
        go_wp2_with fail
        refine segs_load hs3 (fun _ => (by exact ⟨b, _, rfl, by simp⟩)) ?_
        go_wp2_with fail
        refine (rtry_any R who m ow w3 r3 (by omega)).mono ?_
        rintro e w4 ⟨rfl, k4, r4⟩
        have b4 := b3.only k4 (by omega)
        have hb4 := below_only hb3 k4 (Nat.le_refl _) (by omega)
        have ho4 : OwnOk (tryO ow who) := tryO_ok how (by omega)
        have hs4 : StayB [b] wr w4 := hs3.kept k4 (fun x hx => by simp only [List.mem_singleton] at hx; subst hx; exact ⟨Nat.lt_of_lt_of_le hbl hb3.size, by omega⟩)
        obtain ⟨m', hm', hmd⟩ : ∃ m', tryN ow who m = m' ∧ (0 ≤ m' ∧ m' ≤ k + 1) := ⟨_, rfl, by unfold tryN; split <;> omega⟩
        rw [hm'] at b4 r4
        clear hm' b3 r3
        generalize tryO ow who = o' at *
        generalize tryB ow who = y at *
        go_wp2_with fail
        refine segs_go hs4 (by simp [isLoad]) ?_
        go_wp2_with fail
        refine segs_nil ?_
        go_wp2_with fail
        obtain ⟨s, hs⟩ : ∃ s, o'.isSome = s := ⟨_, rfl⟩
        obtain ⟨d, hd⟩ : ∃ d, o'.getD 0 = d := ⟨_, rfl⟩
        have hM : tryB o' a1 = (!s && decide (0 ≤ a1)) := by rw [← hs]; unfold tryB; cases o' <;> rfl
        unfold RefAt at r4
        rw [hs, hd] at r4
        have HM := Lib.hid hM
        have HS := Lib.hid hs
        have HD := Lib.hid hd
        clear hM hs hd
        refine Calls.mono (owner_any C m' o' w4 b4 ho4) ?_
        rw [HS.out, HD.out]
        rintro e w5 ⟨rfl, k5, b5⟩
        have r5 := r4.only k5 (by omega)
        have hb5 := below_only hb4 k5 (Nat.le_refl _) (by omega)
        have c0 := r5.drew.cell 0
        have c1 := r5.drew.cell 1
        have c2 := r5.drew.cell 2
        go_wp2_with fail
        refine wp_region_text ([4], [9, 24]) [R] (by kernel_rfl) (by kernel_rfl) (cellsB_cons r5.cells cellsB_nil) (by simp [segs, isEff, isLoad, askOps, asks, eqOrNe, isNil]; rfl) ?_
        refine segs_go stay_drew (by simp [isLoad]) ?_
        go_wp2_with fail
        refine segs_load stay_drew (fun _ => (by exact ⟨R, _, rfl, by simp⟩)) ?_
        go_wp2_with fail
        refine segs_load stay_drew (fun _ => (by exact ⟨R, _, rfl, by simp⟩)) ?_
        go_wp2_with fail
        clear c0 c1 c2
        refine (turns_any C m' o' w5.drew (b5.still (still_refl w5).drew)).mono ?_
        rintro e w6 ⟨rfl, k6⟩
        have b6 := (b5.still (still_refl w5).drew).still k6
        have r6 := r5.drew.still k6
        have hb6 := below_still hb5.drew k6 (Nat.le_refl _)
        have hs6 : StayB [R] w5 w6 := stay_drew.kept k6 (fun x hx => by simp only [List.mem_singleton] at hx; subst hx; exact ⟨r5.drew.lt, fun h => h⟩)
        have c2 := r6.cell 2
        go_wp2_with fail
        refine segs_go hs6 (by simp [isLoad]) ?_
        go_wp2_with fail
        refine segs_load hs6 (fun _ => (by exact ⟨R, _, rfl, by simp⟩)) ?_
        go_wp2_with fail
        clear c2
        refine Calls.mono (may_any C a1 m' o' w6 b6 ho4) ?_
        rw [HM.out]
        rintro e w7 ⟨rfl, k7, b7⟩
        have r7 := r6.only k7 (by omega)
        have hb7 := below_only hb6 k7 (Nat.le_refl _) (by omega)
        have hs7 : StayB [R] w5 w7 := hs6.kept k7 (fun x hx => by simp only [List.mem_singleton] at hx; subst hx; exact ⟨r6.lt, by omega⟩)
        have c0 := r7.cell 0
        by_cases h1 : 0 ≤ a1
        · rw [decide_eq_true h1, Bool.and_true]
          go_wp2_with fail
          refine segs_go hs7 (by simp [isLoad]) ?_
          go_wp2_with fail
          refine segs_load hs7 (fun _ => (by exact ⟨R, _, rfl, by simp⟩)) ?_
          go_wp2_with fail
          refine segs_nil ?_
          go_wp2_with fail
          go_roundw
          case rel => exact ⟨k + 1, m', o', by omega, by go_num, by omega, ho4, hb7, b7, by unfold RefAt; rw [HS.out, HD.out]; exact r7⟩
          case measure => simp [intOf]; omega
        · rw [decide_eq_false h1, Bool.and_false]
          go_wp2_with fail
          refine segs_go hs7 (by simp [isLoad]) ?_
          go_wp2_with fail
          refine segs_load hs7 (fun hw => absurd hw Bool.false_ne_true) ?_
          go_wp2_with fail
          refine segs_nil ?_
          go_wp2_with fail
          go_roundw
          case rel => exact ⟨k + 1, m', o', by omega, by go_num, by omega, ho4, hb7, b7, by unfold RefAt; rw [HS.out, HD.out]; exact r7⟩
          case measure => simp [intOf]; omega
      · go_wp2_with fail
        refine wp_region_text ([4], [9]) [b] (by kernel_rfl) (by kernel_rfl) (cellsB_cons (cells_of_cell e0) cellsB_nil) (by simp [segs, isEff, isLoad, askOps, asks, eqOrNe, isNil]; rfl) ?_
        refine segs_go stay_drew (by simp [isLoad]) ?_
        go_wp2_with fail
        refine segs_load stay_drew (fun _ => (by exact ⟨b, _, rfl, by simp⟩)) ?_
        go_wp2_with fail
        have dC := bC.still (still_refl wr).drew
        have dbel := hbel.drew
        refine (leave_any C who m ow wr.drew dC how (by omega)).mono ?_
        rintro e w3 ⟨rfl, k3, b3⟩
        have hb3 := below_only dbel k3 (Nat.le_refl _) (by omega)
        have r3 := (bR.drew).only k3 (by omega)
        have e03 := (hb3.cell (p := ⟨b, o + k * 2, none⟩) hbl).trans q0
        have hs3 : StayB [b] wr w3 := stay_drew.kept k3 (fun x hx => by simp only [List.mem_singleton] at hx; subst hx; exact ⟨Nat.lt_of_lt_of_le hbl dbel.size, by omega⟩)
        go_wp2_with fail
        refine segs_go hs3 (by simp [isLoad]) ?_
        go_wp2_with fail
        refine segs_load hs3 (fun _ => (by exact ⟨b, _, rfl, by simp⟩)) ?_
        go_wp2_with fail
        refine (rleave_any R who m ow w3 r3).mono ?_
        rintro e w4 ⟨rfl, k4, r4⟩
        have b4 := b3.only k4 (by omega)
        have hb4 := below_only hb3 k4 (Nat.le_refl _) (by omega)
        have ho4 : OwnOk (leaveO ow who) := leaveO_ok how
        have hs4 : StayB [b] wr w4 := hs3.kept k4 (fun x hx => by simp only [List.mem_singleton] at hx; subst hx; exact ⟨Nat.lt_of_lt_of_le hbl hb3.size, by omega⟩)
        obtain ⟨m', hm', hmd⟩ : ∃ m', m = m' ∧ (0 ≤ m' ∧ m' ≤ k + 1) := ⟨_, rfl, by omega⟩
        rw [hm'] at b4 r4
        clear hm' b3 r3
        generalize leaveO ow who = o' at *
        generalize leaveV ow who = y at *
        go_wp2_with fail
        refine segs_go hs4 (by simp [isLoad]) ?_
        go_wp2_with fail
        refine segs_nil ?_
        go_wp2_with fail
        obtain ⟨s, hs⟩ : ∃ s, o'.isSome = s := ⟨_, rfl⟩
        obtain ⟨d, hd⟩ : ∃ d, o'.getD 0 = d := ⟨_, rfl⟩
        have hM : tryB o' a1 = (!s && decide (0 ≤ a1)) := by rw [← hs]; unfold tryB; cases o' <;> rfl
        unfold RefAt at r4
        rw [hs, hd] at r4
        have HM := Lib.hid hM
        have HS := Lib.hid hs
        have HD := Lib.hid hd
        clear hM hs hd
        refine Calls.mono (owner_any C m' o' w4 b4 ho4) ?_
        rw [HS.out, HD.out]
        rintro e w5 ⟨rfl, k5, b5⟩
        have r5 := r4.only k5 (by omega)
        have hb5 := below_only hb4 k5 (Nat.le_refl _) (by omega)
        have c0 := r5.drew.cell 0
        have c1 := r5.drew.cell 1
        have c2 := r5.drew.cell 2
        go_wp2_with fail
        refine wp_region_text ([4], [9, 24]) [R] (by kernel_rfl) (by kernel_rfl) (cellsB_cons r5.cells cellsB_nil) (by simp [segs, isEff, isLoad, askOps, asks, eqOrNe, isNil]; rfl) ?_
        refine segs_go stay_drew (by simp [isLoad]) ?_
        go_wp2_with fail
        refine segs_load stay_drew (fun _ => (by exact ⟨R, _, rfl, by simp⟩)) ?_
        go_wp2_with fail
        refine segs_load stay_drew (fun _ => (by exact ⟨R, _, rfl, by simp⟩)) ?_
        go_wp2_with fail
        clear c0 c1 c2
        refine (turns_any C m' o' w5.drew (b5.still (still_refl w5).drew)).mono ?_
        rintro e w6 ⟨rfl, k6⟩
        have b6 := (b5.still (still_refl w5).drew).still k6
        have r6 := r5.drew.still k6
        have hb6 := below_still hb5.drew k6 (Nat.le_refl _)
        have hs6 : StayB [R] w5 w6 := stay_drew.kept k6 (fun x hx => by simp only [List.mem_singleton] at hx; subst hx; exact ⟨r5.drew.lt, fun h => h⟩)
        have c2 := r6.cell 2
        go_wp2_with fail
        refine segs_go hs6 (by simp [isLoad]) ?_
        go_wp2_with fail
        refine segs_load hs6 (fun _ => (by exact ⟨R, _, rfl, by simp⟩)) ?_
        go_wp2_with fail
        clear c2
        refine Calls.mono (may_any C a1 m' o' w6 b6 ho4) ?_
        rw [HM.out]
        rintro e w7 ⟨rfl, k7, b7⟩
        have r7 := r6.only k7 (by omega)
        have hb7 := below_only hb6 k7 (Nat.le_refl _) (by omega)
        have hs7 : StayB [R] w5 w7 := hs6.kept k7 (fun x hx => by simp only [List.mem_singleton] at hx; subst hx; exact ⟨r6.lt, by omega⟩)
        have c0 := r7.cell 0
        by_cases h1 : 0 ≤ a1
        · rw [decide_eq_true h1, Bool.and_true]
          go_wp2_with fail
          refine segs_go hs7 (by simp [isLoad]) ?_
          go_wp2_with fail
          refine segs_load hs7 (fun _ => (by exact ⟨R, _, rfl, by simp⟩)) ?_
          go_wp2_with fail
          refine segs_nil ?_
          go_wp2_with fail
          go_roundw
          case rel => exact ⟨k + 1, m', o', by omega, by go_num, by omega, ho4, hb7, b7, by unfold RefAt; rw [HS.out, HD.out]; exact r7⟩
          case measure => simp [intOf]; omega
        · rw [decide_eq_false h1, Bool.and_false]
          go_wp2_with fail
          refine segs_go hs7 (by simp [isLoad]) ?_
          go_wp2_with fail
          refine segs_load hs7 (fun hw => absurd hw Bool.false_ne_true) ?_
          go_wp2_with fail
          refine segs_nil ?_
          go_wp2_with fail
          go_roundw
          case rel => exact ⟨k + 1, m', o', by omega, by go_num, by omega, ho4, hb7, b7, by unfold RefAt; rw [HS.out, HD.out]; exact r7⟩
          case measure => simp [intOf]; omega
    · go_wp2_with fail
      go_ret
      exact ⟨rfl, hbel⟩
end Go.Proofs.Ytonapndcmjnbcaa
