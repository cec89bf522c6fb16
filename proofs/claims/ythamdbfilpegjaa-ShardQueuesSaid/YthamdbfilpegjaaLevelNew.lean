/-
  What stands here: a new level. Under no condition.
-/
import Derived.Test.YthamdbfilpegjaaLevelFns
import Derived.Test.YthamdbfilpegjaaText
namespace Go.Proofs.Ythamdbfilpegjaa
set_option linter.unusedVariables false
set_option linter.unusedSimpArgs false
open Go.RowKit Go.Proofs
set_option maxHeartbeats 1000000 in
theorem lvnew_t (s : LS) (w : World) (h : LW_t s w) :
    Calls Try.prog 45 #[] w fun e w' => e = .returned (.pointer (some ⟨w.heap.size, 0, none⟩)) ∧ Still w w' ∧ ∃ s' sl, LW_t s' w' ∧ LvB_t s' w.heap.size sl w' ∧ (∀ y, y < w.heap.size → s'.kd y = s.kd y) ∧ (∀ k, k < 64 → w.heap.size < sl k) ∧ (∀ k, k < 64 → s'.sq (sl k) = []) ∧ (∀ y, (∀ k, k < 64 → y ≠ sl k) → s'.sq y = s.sq y) ∧ LV s' = LV s := by
  have HL := Lib.hid h
  clear h
  obtain ⟨v, hv⟩ : ∃ v, v = w.heap.size := ⟨_, rfl⟩
  rw [← hv]
  have hz0 : (zeroValue 126).run Try.prog w = .ok (.agg (Array.replicate 64 (.pointer none) ++ #[.int .u64 0, .int .i64 0])) w := by kernel_rfl
  obtain ⟨Z, hZ⟩ : ∃ Z : Array Value, Z = Array.replicate 64 (.pointer none) ++ #[.int .u64 0, .int .i64 0] := ⟨_, rfl⟩
  rw [← hZ] at hz0
  have HZ := Lib.hid hZ
  clear hZ
  go_enter Try.func45, Try.ntmps45
  go_wp2_with fail
  have hZs : Z.size = 66 := by rw [HZ.out]; simp
  have hb0 : Blk (w.alloc (.cells Z 126)) v Z 126 := Blk.newAt _ _ _ hv.symm
  have hL0 : LW_t (s.mark v 4) (w.alloc (.cells Z 126)) := (HL.out.still ((still_refl w).alloc _)).mark (HL.out.fresh v (by omega)) (by omega) (by simp; omega)
  have H0 := Lib.hid (show ∃ (k : Nat) (s' : LS) (sl : Nat → Nat) (c : Array Value), k ≤ 64 ∧ Value.int .i64 0 = .int .i64 k ∧ Blk (w.alloc (.cells Z 126)) v c 126 ∧ c.size = 66 ∧ (∀ j, j < k → c[j]? = some (.pointer (some ⟨sl j, 0, none⟩))) ∧ (∀ j, k ≤ j → c[j]? = Z[j]?) ∧ LW_t s' (w.alloc (.cells Z 126)) ∧ s'.kd v = 4 ∧
      (∀ j, j < k → s'.kd (sl j) = 1 ∧ v < sl j ∧ s'.sq (sl j) = []) ∧ (∀ j j', j < k → j' < k → sl j = sl j' → j = j') ∧ (∀ y, y < v → s'.kd y = s.kd y) ∧ (∀ y, (∀ j, j < k → y ≠ sl j) → s'.sq y = s.sq y) ∧ LV s' = LV s ∧ Kept (fun y => y = v) w (w.alloc (.cells Z 126)) from
    ⟨0, s.mark v 4, fun _ => 0, Z, Nat.zero_le _, rfl, hb0, hZs, fun j hj => absurd hj (by omega), fun _ _ => rfl, hL0, upd_same _ _ _, fun j hj => absurd hj (by omega), fun j j' hj => absurd hj (by omega), fun y hy => upd_ne _ _ (by omega), fun _ _ => rfl, rfl, (Kept.refl _ _).alloc _⟩)
  rw [← hv]
  have HV := Lib.hid hv
  clear hb0 hL0 hz0 hv
  go_loopw [5] (fun i wr => ∃ (k : Nat) (s' : LS) (sl : Nat → Nat) (c : Array Value), k ≤ 64 ∧ i = .int .i64 k ∧ Blk wr v c 126 ∧ c.size = 66 ∧ (∀ j, j < k → c[j]? = some (.pointer (some ⟨sl j, 0, none⟩))) ∧ (∀ j, k ≤ j → c[j]? = Z[j]?) ∧ LW_t s' wr ∧ s'.kd v = 4 ∧
      (∀ j, j < k → s'.kd (sl j) = 1 ∧ v < sl j ∧ s'.sq (sl j) = []) ∧ (∀ j j', j < k → j' < k → sl j = sl j' → j = j') ∧ (∀ y, y < v → s'.kd y = s.kd y) ∧ (∀ y, (∀ j, j < k → y ≠ sl j) → s'.sq y = s.sq y) ∧ LV s' = LV s ∧ Kept (fun y => y = v) w wr) (fun i _ => 64 - (intOf i).toNat)
  case atStart => exact H0.out
  case round =>
    obtain ⟨k, s', sl, c, hk, rfl, hb, hcs, hc1, hc2, hl, hkv, hs, hin, hkd, hsq, hlv, hkk⟩ := hrel
    have HC := Lib.hid (show (∀ j, j < k → c[j]? = some (.pointer (some ⟨sl j, 0, none⟩))) ∧ (∀ j, k ≤ j → c[j]? = Z[j]?) from ⟨hc1, hc2⟩)
    have HL1 := Lib.hid hl
    have HS := Lib.hid hs
    have HI := Lib.hid (show (∀ j j', j < k → j' < k → sl j = sl j' → j = j') ∧ (∀ y, y < v → s'.kd y = s.kd y) ∧ (∀ y, (∀ j, j < k → y ≠ sl j) → s'.sq y = s.sq y) ∧ LV s' = LV s ∧ Kept (fun y => y = v) w wr from ⟨hin, hkd, hsq, hlv, hkk⟩)
    have hz := hkk.size
    have hvl := hb.lt
    clear hc1 hc2 hl hs hin hkd hsq hlv hkk
    by_cases hlt : k < 64
    · go_wp2_with fail
      refine wp_region_end ([4], [9, 98]) [] rfl (by kernel_rfl) (by kernel_rfl) (by kernel_rfl) cellsB_nil (by simp [segs, isEff, isLoad, askOps, asks, ptrEq, eqOrNe, isNil]; rfl) ?_
      refine segs_go stay_nil (by simp [isLoad]) ?_
      go_wp2_with fail
      refine (oNew_t s' _ (HL1.out.still ((still_refl wr).drewN 1))).mono ?_
      rintro e w2 ⟨rfl, z2, k2, s2, h2, n2, l2, q2, v2⟩
      have k2' : Still wr w2 := Kept.of_still ((still_refl wr).drewN 1) k2
      have hb2 := hb.still k2'
      have z2' := k2'.size
      have hvL : v ≠ wr.drew.heap.size + 1 := by show v ≠ wr.heap.size + 1; omega
      have hzd : wr.drew.heap.size = wr.heap.size := rfl
      rw [hzd] at *
      have H2 := Lib.hid h2
      have HN := Lib.hid (show (∀ y, y < wr.heap.size → s2.kd y = s'.kd y) ∧ s2.kd (wr.heap.size + 1) = 1 ∧ s2.sq = upd s'.sq (wr.heap.size + 1) [] ∧ LV s2 = LV s' from ⟨n2, l2, q2, v2⟩)
      have K2 := Lib.hid k2'
      have f2 := hb2.free k
      obtain ⟨cv, hcv⟩ : ∃ u, c[k]? = some u := ⟨_, Array.getElem?_eq_getElem (by omega)⟩
      have g2 : w2.cell? ⟨v, k, none⟩ = some cv := (hb2.cell k).trans hcv
      clear h2 n2 l2 q2 v2 k2 k2' z2
      go_wp2_with fail
      refine segs_go stay_nil (by simp [isLoad]) ?_
      go_wp2_with fail
      refine segs_nil ?_
      go_wp2_with fail
      go_roundw
      case rel =>
        have hlt' : ∀ j, j < k → sl j < wr.heap.size := fun j hj => (HL1.out.lists (sl j) (HS.out j hj).1).lt
        have up : ∀ j, j < k → upd sl k (wr.heap.size + 1) j = sl j := fun j hj => upd_ne _ _ (by omega)
        refine ⟨k + 1, s2, upd sl k (wr.heap.size + 1), _, by omega, by go_num, hb2.set k _, by simpa using hcs, fun j hj => ?_, fun j hj => ?_, ?_, ?_, fun j hj => ?_, fun j j' hj hj' e => ?_, fun y hy => ?_, fun y hy => ?_, by rw [HN.out.2.2.2]; exact HI.out.2.2.2.1, ?_⟩
        · by_cases e : j = k
          · subst e
            rw [upd_same, Array.getElem?_setIfInBounds_self_of_lt (by omega)]
          · rw [up j (by omega), Array.getElem?_setIfInBounds_ne (by omega)]; exact HC.out.1 j (by omega)
        · rw [Array.getElem?_setIfInBounds_ne (by omega)]; exact HC.out.2 j (by omega)
        · exact H2.out.kept3 (S := fun y => y = v) (Kept.setCell (S := fun y => y = v) (Kept.refl _ _) (fun _ => rfl) _) (fun y hy e => by
            rw [e, HN.out.1 v hvl, hkv] at hy; omega)
        · exact (HN.out.1 v hvl).trans hkv
        · by_cases e : j = k
          · subst e
            rw [upd_same]
            exact ⟨HN.out.2.1, by omega, by rw [HN.out.2.2.1, upd_same]⟩
          · rw [up j (by omega)]
            obtain ⟨h7, h8, h9⟩ := HS.out j (by omega)
            have := hlt' j (by omega)
            exact ⟨(HN.out.1 _ this).trans h7, h8, by rw [HN.out.2.2.1, upd_ne _ _ (by omega)]; exact h9⟩
        · by_cases e1 : j = k
          · by_cases e2 : j' = k
            · omega
            · rw [e1, upd_same, up j' (by omega)] at e
              have := hlt' j' (by omega); omega
          · by_cases e2 : j' = k
            · rw [e2, upd_same, up j (by omega)] at e
              have := hlt' j (by omega); omega
            · rw [up j (by omega), up j' (by omega)] at e
              exact HI.out.1 j j' (by omega) (by omega) e
        · rw [HN.out.1 y (by omega)]; exact HI.out.2.1 y hy
        · have h9 := hy k (by omega)
          rw [upd_same] at h9
          rw [HN.out.2.2.1, upd_ne _ _ h9]
          exact HI.out.2.2.1 y (fun j hj => by have := hy j (by omega); rwa [up j hj] at this)
        · exact (HI.out.2.2.2.2.of_still K2.out).setCell (fun _ => rfl) _
      case measure => simp [intOf]; omega
    · obtain rfl : k = 64 := by omega
      go_wp2_with fail
      go_ret
      have hv := HV.out
      refine ⟨rfl, HI.out.2.2.2.2.mono (fun y hy e => absurd hy (by omega)), s', sl, HL1.out, ⟨hkv, ⟨c, 0, hb, HC.out.1, ?_, ?_, UsedOk.zero fun j hj => (HS.out j hj).2.2⟩, fun j hj => (HS.out j hj).1, HI.out.1⟩, ?_, ?_, fun j hj => (HS.out j hj).2.2, HI.out.2.2.1, HI.out.2.2.2.1⟩
      · rw [HC.out.2 64 (by omega), HZ.out]; rfl
      · rw [HC.out.2 65 (by omega), HZ.out, tot_zero (fun j hj => by rw [(HS.out j hj).2.2]; rfl)]; rfl
      · intro y hy; exact HI.out.2.1 y (by omega)
      · intro j hj; have := (HS.out j hj).2.1; omega

end Go.Proofs.Ythamdbfilpegjaa
