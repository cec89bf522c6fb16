/-
  What stands here: the walk of the law CellOnce: it answers true and turns nothing that was there. Under no condition.
-/
import Derived.Test.YtojjelafkieflaaCellAlive
import Derived.Test.YtojjelafkieflaaText
namespace Go.Proofs.Ytojjelafkieflaa
set_option linter.unusedVariables false
set_option linter.unusedSimpArgs false
open Go.RowKit Go.Proofs

/-- what stands in the cell behind k tries, and how often it was turned -/
def onceV (v old z : Int) (k : Nat) : Int := if v = old ∧ 0 < k then 300 + z else v
def onceN (v old : Int) (k : Nat) : Int := if v = old ∧ 0 < k then 1 else 0

set_option maxHeartbeats 1000000 in
theorem cellOnce_walk (a0 : Int) (a1 : Int) (a2 : Option Addr) (len2 cap2 : Nat) (z2 : List Int) (w : World) (w0 : (Lit.int .u8 a0).wf = true) (w1 : (Lit.int .u8 a1).wf = true) (w2 : IsRow .u8 w a2 len2 cap2 z2) :
    Calls Try.prog 3 #[.int .u8 a0, .int .u8 a1, .slice a2 len2 cap2] w fun e w' => e = .returned (.bool true) ∧ Below w.heap.size w w' := by
  have v0 := bounds_u8 w0
  have v1 := bounds_u8 w1
  have hm := w2.le
  unfold maxLen at hm
  have hz := range_u8 w2.wf
  go_enter Try.func3, Try.ntmps3
  go_wp2_with fail
  refine (cellAlive w).mono ?_
  rintro e w1 ⟨rfl, k1⟩
  go_wp2_with fail
  · go_ret
    exact ⟨rfl, k1⟩
  refine (of_any _ _).mono ?_
  rintro e w3 ⟨rfl, k3, b3⟩
  have k3' := below_still k1 k3 (Nat.le_refl _)
  have s1 := k1.size
  obtain ⟨B, hB⟩ : ∃ B, w1.heap.size = B := ⟨_, rfl⟩
  rw [hB] at b3 s1 ⊢
  clear hB
  go_wp2_with fail
  go_loopw [8, 9] (fun n i wr => ∃ k : Nat, k ≤ len2 ∧ i = .int .i64 k ∧ n = .int .i64 (onceN a0 a1 k) ∧ Below w.heap.size w wr ∧
      Blk wr B #[.int .i64 (onceV a0 a1 (z2.getD 0 0) k), .int .i64 0, .int .i64 k, .int .i64 (onceN a0 a1 k)] 80) (fun _ i _ => len2 - (intOf i).toNat)
  case atStart => exact ⟨0, by omega, rfl, by simp [onceN], k3', by simpa [onceV, onceN] using b3⟩
  case round =>
    obtain ⟨k, hk, rfl, rfl, hbel, hb⟩ := hrel
    by_cases hlt : k < len2
    · obtain ⟨b, o, ha, hbl, hc⟩ := w2.at_ (by omega)
      have hix := run_indexAt_at (P := Try.prog) (t := 22) (cap := cap2) (s := 1) ha Try.underlying22 (fun _ => by kernel_rfl) hlt
      rw [Nat.mul_one] at hix
      clear ha
      have hck := (hbel.cell (p := ⟨b, o + k, none⟩) hbl).trans (hc k hlt)
      have hzk := hz k
      by_cases hh : a0 = a1 ∧ k = 0
      · obtain ⟨rfl, hk0⟩ := hh
        have hb' : Blk wr B #[.int .i64 a0, .int .i64 0, .int .i64 0, .int .i64 0] 80 := by simpa [onceV, onceN, hk0] using hb
        have e0 : z2[k]?.getD 0 = z2.getD 0 0 := by simp [hk0]
        have E0 := Lib.hid e0
        clear hb e0
        have e1 : onceN a0 a0 k = 0 := by simp [onceN, hk0]
        rw [e1]
        clear e1
        have d0 : (a0 != a0) = false := by simp
        have hk1 : k ≤ 0 := by omega
        have K0 := Lib.hid hk0
        clear hk0
        go_wp2_with fail
        refine (swap_yes B 0 _ a0 _ 0 0 (t' := 1) (u' := 1) (wrap64_in _ (by omega) (by omega)) (wrap64_in _ (by omega) (by omega)) _ _ hb' rfl rfl rfl).mono ?_
        rintro e w4 ⟨rfl, k4, b4⟩
        simp only [List.setIfInBounds_toArray, List.set_cons_succ, List.set_cons_zero, Nat.reduceAdd] at b4
        go_wp2_with fail
        go_roundw
        case rel =>
          have hk0 := K0.out
          exact ⟨k + 1, by omega, by go_num, by simp [onceN], below_only hbel k4 (by omega) (by omega), by rw [E0.out] at b4; simpa [onceV, onceN, hk0] using b4⟩
        case measure => simp [intOf]; omega
      · have hne : (onceV a0 a1 (z2.getD 0 0) k == a1) = false := by
          have := hz 0
          simp only [onceV, beq_eq_false_iff_ne]
          simp only [List.getD_eq_getElem?_getD]
          split <;> omega
        have hN : onceN a0 a1 (k + 1) = onceN a0 a1 k := by simp only [onceN]; congr 1; apply propext; omega
        have hV : onceV a0 a1 (z2.getD 0 0) (k + 1) = onceV a0 a1 (z2.getD 0 0) k := by
          simp only [onceV]; congr 1; apply propext; omega
        have HN := Lib.hid hN
        have HV := Lib.hid hV
        clear hN hV
        go_wp2_with fail
        refine (swap_no B 0 _ _ a1 _ k (t' := (k : Int) + 1) (wrap64_in _ (by omega) (by omega)) _ _ hne hb rfl rfl).mono ?_
        rintro e w4 ⟨rfl, k4, b4⟩
        simp only [List.setIfInBounds_toArray, List.set_cons_succ, List.set_cons_zero, Nat.reduceAdd] at b4
        go_wp2_with fail
        go_roundw
        case rel => exact ⟨k + 1, by omega, by go_num, by rw [HN.out], below_only hbel k4 (by omega) (by omega), by rw [HN.out, HV.out]; simpa using b4⟩
        case measure => simp [intOf]; omega
    · obtain rfl : k = len2 := by omega
      go_wp2_with fail
      refine (counts_any B 0 _ 0 k (onceN a0 a1 k) _ _ hb rfl rfl rfl).mono ?_
      rintro e w4 ⟨rfl, k4⟩
      have b4 := hb.still k4
      have kb := below_still hbel k4 (by omega)
      have hz0 := hz 0
      by_cases hk0 : k = 0
      · have g1 : ((k : Int) == 0) = true := by simp [hk0]
        clear hz0
        have K0 := Lib.hid hk0
        clear hk0
        go_wp2
        go_quiet (fail)
        go_wp2
        go_ret
        exact ⟨rfl, below_still kb ((still_refl w4).drewN _) (by omega)⟩
      · have g1 : ((k : Int) == 0) = false := by simp; omega
        by_cases hv : a0 = a1
        · subst hv
          obtain ⟨b, o, ha, hbl, hc⟩ := w2.at_ (by omega)
          have hix := run_indexAt_at (P := Try.prog) (t := 22) (cap := cap2) (i := 0) (s := 1) ha Try.underlying22 (fun _ => by kernel_rfl) (len := k) (by omega)
          rw [Nat.zero_mul, Nat.add_zero] at hix
          have hix0 : ∀ wx, (Instr.indexAt 22 (.slice a2 k cap2) (.int .i64 0)).run Try.prog wx = .ok (.pointer (some ⟨b, o, none⟩)) wx := hix
          clear ha hix
          have hck := (hbel.cell (p := ⟨b, o, none⟩) hbl).trans (hc 0 (by omega))
          have hck4 := (World.cell?_of_block (a := ⟨b, o, none⟩) (k4.block b (by have := lt_of_cell hck; simpa using this) (fun f => f))).trans hck
          have hbB : b ≠ B := by omega
          have eN : onceN a0 a0 k = 1 := by simp [onceN]; omega
          have eV : onceV a0 a0 (z2.getD 0 0) k = 300 + z2.getD 0 0 := by simp [onceV]; omega
          rw [eV, eN] at b4
          rw [eN]
          clear eV eN hck
          have g2 : (a0 != a0) = false := by simp
          have g3 : (a0 == a0) = true := by simp
          simp only [List.getD_eq_getElem?_getD] at b4 hck4
          go_wp2
          refine wp_region_text [4] [b] (by kernel_rfl) (by kernel_rfl) (cellsB_cons (cells_of_cell hck4) cellsB_nil) ?_
          conv => arg 6; simp [segs, isEff, isLoad, askOps, asks, eqOrNe, isNil]
          refine segs_go stay_drew (by simp [isLoad]) ?_
          go_wp2_with fail
          refine segs_go stay_drew (by simp [isLoad]) ?_
          go_wp2_with fail
          refine (load_any B 0 _ _ 0 (l' := 1) (wrap64_in _ (by omega) (by omega)) _ _ (b4.drew) rfl rfl).mono ?_; rintro e w5 ⟨rfl, k5, b5⟩
          go_wp2_with fail
          have hst : StayB [b] w4 w5 := stay_drew.kept k5 (fun x hx => by simp only [List.mem_singleton] at hx; subst hx; exact ⟨lt_of_cell hck4, hbB⟩)
          have hck5 := (World.cell?_of_block (a := ⟨b, o, none⟩) (hst b (by simp))).trans hck4
          refine segs_go hst (by simp [isLoad]) ?_
          go_wp2_with fail
          refine segs_load hst (fun _ => (by exact ⟨b, o, rfl, by simp⟩)) ?_
          go_wp2_with fail
          refine segs_nil ?_
          go_wp2
          go_ret
          exact ⟨rfl, below_only (below_still kb ((still_refl w4).drew) (by omega)) k5 (by omega) (by omega)⟩
        · have eN : onceN a0 a1 k = 0 := by simp [onceN, hv]
          have eV : onceV a0 a1 (z2.getD 0 0) k = a0 := by simp [onceV, hv]
          rw [eV, eN] at b4
          rw [eN]
          clear eV eN
          have g2 : (a0 != a1) = true := by simpa using hv
          have g3 : (a0 == a1) = false := by simpa using hv
          go_wp2
          refine wp_region_text [4] [] (by kernel_rfl) (by kernel_rfl) cellsB_nil ?_
          conv => arg 6; simp [segs, isEff, isLoad, askOps, asks, eqOrNe, isNil]
          refine segs_go stay_nil (by simp [isLoad]) ?_
          go_wp2_with fail
          refine (load_any B 0 _ a0 0 (l' := 1) (wrap64_in _ (by omega) (by omega)) _ _ (b4.drew) rfl rfl).mono ?_; rintro e w5 ⟨rfl, k5, b5⟩
          go_wp2_with fail
          refine segs_go stay_nil (by simp [isLoad]) ?_
          go_wp2_with fail
          refine segs_go stay_nil (by simp [isLoad]) ?_
          go_wp2_with fail
          refine segs_load stay_nil ?_ ?_
          · intro hw; exact absurd hw Bool.false_ne_true
          go_wp2_with fail
          refine segs_nil ?_
          go_wp2
          go_ret
          exact ⟨rfl, below_only (below_still kb ((still_refl w4).drew) (by omega)) k5 (by omega) (by omega)⟩
end Go.Proofs.Ytojjelafkieflaa
