/-
  What stands here: the walk of the law CellActs: it answers true and turns nothing that was there. Under no condition.
-/
import Derived.Test.YtojjelafkieflaaCellActsFns
namespace Go.Proofs.Ytojjelafkieflaa
set_option linter.unusedVariables false
set_option linter.unusedSimpArgs false
open Go.RowKit Go.Proofs

/-- the cell behind i acts -/
def stAt (a : Int) (k x n : Nat → Int) : Nat → Int × Int × Int × Int
  | 0 => (a, 0, 0, 0)
  | i + 1 => (stp (k i) (x i) (n i) (stAt a k x n i).1 (stAt a k x n i).2.1 (stAt a k x n i).2.2.1 (stAt a k x n i).2.2.2).2
theorem stp_bd (k x n v l t u : Int) : (l ≤ (stp k x n v l t u).2.2.1 ∧ (stp k x n v l t u).2.2.1 ≤ l + 1) ∧ (t ≤ (stp k x n v l t u).2.2.2.1 ∧ (stp k x n v l t u).2.2.2.1 ≤ t + 1) ∧ (u ≤ (stp k x n v l t u).2.2.2.2 ∧ (stp k x n v l t u).2.2.2.2 ≤ u + 1) := by
  unfold stp
  repeat' split
  all_goals (simp only; omega)
theorem stAt_bd (a : Int) (k x n : Nat → Int) (i : Nat) : (0 ≤ (stAt a k x n i).2.1 ∧ (stAt a k x n i).2.1 ≤ i) ∧ (0 ≤ (stAt a k x n i).2.2.1 ∧ (stAt a k x n i).2.2.1 ≤ i) ∧ (0 ≤ (stAt a k x n i).2.2.2 ∧ (stAt a k x n i).2.2.2 ≤ i) := by
  induction i with
  | zero => simp [stAt]
  | succ i ih =>
    have := stp_bd (k i) (x i) (n i) (stAt a k x n i).1 (stAt a k x n i).2.1 (stAt a k x n i).2.2.1 (stAt a k x n i).2.2.2
    simp only [stAt]
    omega

set_option maxHeartbeats 1000000 in
theorem cellActs_walk (a0 : Int) (a1 : Option Addr) (len1 cap1 : Nat) (f1_0 : Nat → Int) (f1_1 : Nat → Int) (f1_2 : Nat → Int) (w : World) (w0 : (Lit.int .i64 a0).wf = true) (w1 : len1 ≤ maxLen ∧ (0 < len1 → ∃ b o, a1 = some ⟨b, o, none⟩ ∧ b < w.heap.size ∧ ∀ i, i < len1 → w.cell? ⟨b, o + i * 3, none⟩ = some (.int .i64 (f1_0 i)) ∧ (Lit.int .i64 (f1_0 i)).wf = true ∧ w.cell? ⟨b, o + i * 3 + 1, none⟩ = some (.int .i64 (f1_1 i)) ∧ (Lit.int .i64 (f1_1 i)).wf = true ∧ w.cell? ⟨b, o + i * 3 + 2, none⟩ = some (.int .i64 (f1_2 i)) ∧ (Lit.int .i64 (f1_2 i)).wf = true)) :
    Calls Try.prog 9 #[.int .i64 a0, .slice a1 len1 cap1] w fun e w' => e = .returned (.bool true) ∧ Below w.heap.size w w' := by
  obtain ⟨hm, hrow⟩ := w1
  unfold maxLen at hm
  go_enter Try.func9, Try.ntmps9
  go_wp2_with fail
  refine (cellAlive w).mono ?_
  rintro e w1 ⟨rfl, k1⟩
  go_wp2_with fail
  · go_ret
    exact ⟨rfl, k1⟩
  refine (of_any _ _).mono ?_
  rintro e w2 ⟨rfl, k2, b2⟩
  have z1 := k1.size
  have z2 := b2.lt
  have kw2 := below_still k1 k2 (Nat.le_refl _)
  obtain ⟨C, hC⟩ : ∃ C, w1.heap.size = C := ⟨_, rfl⟩
  rw [hC] at b2 z1 z2 ⊢
  clear hC k1 k2
  go_wp2_with fail
  obtain ⟨R, hR⟩ : ∃ R, w2.heap.size = R := ⟨_, rfl⟩
  have bR := Blk.newAt w2 #[.int .i64 a0, .int .i64 0, .int .i64 0, .int .i64 0] 58 hR
  have bC := b2.alloc (.cells #[.int .i64 a0, .int .i64 0, .int .i64 0, .int .i64 0] 58)
  have kw := kw2.alloc (by omega) (.cells #[.int .i64 a0, .int .i64 0, .int .i64 0, .int .i64 0] 58)
  rw [hR] at z2 ⊢
  clear hR kw2 b2
  go_loopw [7] (fun i wr => ∃ k : Nat, k ≤ len1 ∧ i = .int .i64 k ∧ Below w.heap.size w wr ∧
      Blk wr C #[.int .i64 (stAt a0 f1_0 f1_1 f1_2 k).1, .int .i64 (stAt a0 f1_0 f1_1 f1_2 k).2.1, .int .i64 (stAt a0 f1_0 f1_1 f1_2 k).2.2.1, .int .i64 (stAt a0 f1_0 f1_1 f1_2 k).2.2.2] 80 ∧
      Blk wr R #[.int .i64 (stAt a0 f1_0 f1_1 f1_2 k).1, .int .i64 (stAt a0 f1_0 f1_1 f1_2 k).2.1, .int .i64 (stAt a0 f1_0 f1_1 f1_2 k).2.2.1, .int .i64 (stAt a0 f1_0 f1_1 f1_2 k).2.2.2] 58) (fun i _ => len1 - (intOf i).toNat)
  case atStart => exact ⟨0, by omega, rfl, kw, bC, bR⟩
  case round =>
    clear bR bC kw
    obtain ⟨k, hk, rfl, hbel, bC, bR⟩ := hrel
    have hbd := stAt_bd a0 f1_0 f1_1 f1_2 k
    have hnx : stAt a0 f1_0 f1_1 f1_2 (k + 1) = (stp (f1_0 k) (f1_1 k) (f1_2 k) (stAt a0 f1_0 f1_1 f1_2 k).1 (stAt a0 f1_0 f1_1 f1_2 k).2.1 (stAt a0 f1_0 f1_1 f1_2 k).2.2.1 (stAt a0 f1_0 f1_1 f1_2 k).2.2.2).2 := rfl
    have Hnx := Lib.hid hnx
    clear hnx
    generalize (stAt a0 f1_0 f1_1 f1_2 k).1 = v at *
    generalize (stAt a0 f1_0 f1_1 f1_2 k).2.1 = l at *
    generalize (stAt a0 f1_0 f1_1 f1_2 k).2.2.1 = t at *
    generalize (stAt a0 f1_0 f1_1 f1_2 k).2.2.2 = u at *
    by_cases hlt : k < len1
    · obtain ⟨b, o, ha, hbl, hc⟩ := hrow (by omega)
      obtain ⟨q0, _, q1, _, q2, _⟩ := hc k hlt
      have hix := run_indexAt_at (P := Try.prog) (t := 56) (cap := cap1) (s := 3) ha Try.underlying56 (fun _ => by kernel_rfl) hlt
      clear ha hc hrow
      have e0 := (hbel.cell (p := ⟨b, o + k * 3, none⟩) hbl).trans q0
      have e1 := (hbel.cell (p := ⟨b, o + k * 3 + 1, none⟩) hbl).trans q1
      have e2 := (hbel.cell (p := ⟨b, o + k * 3 + 2, none⟩) hbl).trans q2
      go_wp2_with fail
      refine (act_any C (f1_0 k) (f1_1 k) (f1_2 k) v l t u _ wr bC (by omega) (by omega) (by omega)).mono ?_
      rintro e w3 ⟨rfl, k3, bC3⟩
      have bR3 := bR.only k3 (by omega)
      have hb3 := below_only hbel k3 (Nat.le_refl _) (by omega)
      have e0' := (hb3.cell (p := ⟨b, o + k * 3, none⟩) hbl).trans q0
      have e1' := (hb3.cell (p := ⟨b, o + k * 3 + 1, none⟩) hbl).trans q1
      have e2' := (hb3.cell (p := ⟨b, o + k * 3 + 2, none⟩) hbl).trans q2
      clear e0 e1 e2 hbel
      unfold stpAns stpCells at *
      generalize hr : stp (f1_0 k) (f1_1 k) (f1_2 k) v l t u = r at *
      obtain ⟨⟨ra, rb⟩, v', l', t', u'⟩ := r
      have Hr := Lib.hid hr
      clear hr
      dsimp only at *
      go_wp2_with fail
      refine (do_any R (f1_0 k) (f1_1 k) (f1_2 k) v l t u _ w3 bR3 (by omega) (by omega) (by omega)).mono ?_
      rintro e w4 ⟨rfl, k4, bR4⟩
      have bC4 := bC3.only k4 (by omega)
      have hb4 := below_only hb3 k4 (Nat.le_refl _) (by omega)
      unfold stpAns
      unfold stpCells at bR4
      rw [Hr.out] at bR4 ⊢
      dsimp only at bR4 ⊢
      go_wp2_with fail
      refine (counts_any C 0 _ l' t' u' _ _ bC4 rfl rfl rfl).mono ?_
      rintro e w5 ⟨rfl, k5⟩
      have bC5 := bC4.still k5
      have bR5 := bR4.still k5
      have hb5 := below_still hb4 k5 (Nat.le_refl _)
      have r1 := bR5.cell 1
      have r2 := bR5.cell 2
      have r3 := bR5.cell 3
      go_wp2_with fail
      go_roundw
      case rel => exact ⟨k + 1, by omega, by go_num, hb5, by rw [Hnx.out]; exact bC5, by rw [Hnx.out]; exact bR5⟩
      case measure => simp [intOf]; omega
    · have c0 := bR.cell 0
      go_wp2_with fail
      have hst : StayB [R] wr wr.drew := stay_drew
      refine wp_region_text [4] [R] (by kernel_rfl) (by kernel_rfl) (cellsB_cons bR.cells cellsB_nil) (by simp [segs, isEff, isLoad, askOps, asks, eqOrNe, isNil]; rfl) ?_
      refine segs_go stay_drew (by simp [isLoad]) ?_
      go_wp2_with fail
      refine (load_any C 0 _ v l (l' := l + 1) (wrap64_in _ (by omega) (by omega)) _ _ (bC.drew) rfl rfl).mono ?_
      rintro e w3 ⟨rfl, k3, bC3⟩
      have bR3 := (bR.drew).only k3 (by omega)
      have c0' := bR3.cell 0
      have hs3 : StayB [R] wr w3 := stay_drew.kept k3 (fun x hx => by simp only [List.mem_singleton] at hx; subst hx; exact ⟨bR.lt, by omega⟩)
      go_wp2_with fail
      refine segs_go hs3 (by simp [isLoad]) ?_
      go_wp2_with fail
      refine segs_load hs3 (fun _ => (by exact ⟨R, 0, rfl, by simp⟩)) ?_
      go_wp2_with fail
      refine segs_nil ?_
      go_wp2
      go_ret
      exact ⟨by simp, below_only (hbel.drew) k3 (Nat.le_refl _) (by omega)⟩
end Go.Proofs.Ytojjelafkieflaa
