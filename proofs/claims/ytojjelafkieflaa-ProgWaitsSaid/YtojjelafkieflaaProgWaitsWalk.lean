/-
  What stands here: the walk of ProgWaits. Under no condition but that its arguments are slices of truths and of numbers.
-/
import Derived.Test.YtojjelafkieflaaProgStages
namespace Go.Proofs.Ytojjelafkieflaa
set_option linter.unusedVariables false
set_option linter.unusedSimpArgs false
open Go.RowKit Go.Proofs

set_option maxHeartbeats 4000000 in
theorem progWaits_walk (a0 : Option Addr) (len0 cap0 : Nat) (f0_0 : Nat → Bool) (a1 : Option Addr) (len1 cap1 : Nat) (z1 : List Int) (w : World) (w0 : (len0 ≤ cap0 ∧ cap0 ≤ maxLen) ∧ (0 < len0 → ∃ b o, a0 = some ⟨b, o, none⟩ ∧ b < w.heap.size ∧ ∀ i, i < len0 → w.cell? ⟨b, o + i, none⟩ = some (.bool (f0_0 i)))) (w1 : IsRow .i64 w a1 len1 cap1 z1) :
    Calls Try.prog 4 #[.slice a0 len0 cap0, .slice a1 len1 cap1] w fun e w' => e = .returned (.bool true) ∧ Below w.heap.size w w' := by
  have hz := (VRow.inside (IRow.of_is w1)).mono (R := fun b => b < w.heap.size) (fun b h => h.2)
  have hle1 := w1.le
  clear w1
  obtain ⟨zs, hzs⟩ : ∃ zs, zs = z1.take len1 := ⟨_, rfl⟩
  rw [← hzs] at hz
  have hlz : len1 = zs.length := (IRow.cells hz).1
  subst hlz
  obtain ⟨⟨hl0, hm0⟩, h0⟩ := w0
  unfold maxLen at hm0 hle1
  obtain ⟨L, hL⟩ : ∃ L, L = zs.length := ⟨_, rfl⟩
  rw [← hL] at hz hle1 ⊢
  have HL := Lib.hid hL
  have HZ := Lib.hid hz
  have hLc : L ≤ cap1 ∧ cap1 ≤ 9223372036854775807 := by
    obtain ⟨_, h1, h2, _⟩ := VRow.at_ hz
    rw [List.length_map, ← HL.out] at h1
    unfold maxLen at h2
    exact ⟨h1, by omega⟩
  obtain ⟨hLc1, hLc2⟩ := hLc
  have H0 := Lib.hid h0
  clear hz hzs hL h0
  have bX := Blk.new w #[.slice a1 L cap1] 32
  have kX : Below w.heap.size w (w.alloc (.cells #[.slice a1 L cap1] 32)) := (Below.refl _ w).alloc (Nat.le_refl _) _
  by_cases h200 : 200 < len0
  · go_enter Try.func4, Try.ntmps4
    go_wp2_with fail
    refine (alive_any _).mono ?_
    rintro e w1 ⟨rfl, k1⟩
    go_wp2_with fail
    go_ret
    exact ⟨rfl, kX.trans (k1.mono kX.size)⟩
  · by_cases h30 : 30 < L
    · go_enter Try.func4, Try.ntmps4
      go_wp2_with fail
      refine (alive_any _).mono ?_
      rintro e w1 ⟨rfl, k1⟩
      have bX1 := bX.below k1 (by simp)
      have cX1 := bX1.cell 0
      go_wp2_with fail
      go_ret
      exact ⟨rfl, kX.trans (k1.mono kX.size)⟩
    · go_enter Try.func4, Try.ntmps4
      go_wp2_with fail
      refine (alive_any _).mono ?_
      rintro e w1 ⟨rfl, k1⟩
      have bX1 := bX.below k1 (by simp)
      have cX1 := bX1.cell 0
      go_wp2_with fail
      have hbO := ((Blk.new w1 #[.bool false] 4).alloc (.cells #[.slice none 0 0] 32)).alloc (.cells #[.func (.func 17) #[] #[.pointer (some ⟨w.heap.size, 0, none⟩), .pointer (some ⟨w1.heap.size, 0, none⟩), .pointer (some ⟨w1.heap.size + 1, 0, none⟩), .pointer (some ⟨w1.heap.size + 1 + 1, 0, none⟩)]] 33)
      have hbG := (Blk.newAt (w1.alloc (.cells #[.bool false] 4)) #[.slice none 0 0] 32 (n := w1.heap.size + 1) (by simp)).alloc (.cells #[.func (.func 17) #[] #[.pointer (some ⟨w.heap.size, 0, none⟩), .pointer (some ⟨w1.heap.size, 0, none⟩), .pointer (some ⟨w1.heap.size + 1, 0, none⟩), .pointer (some ⟨w1.heap.size + 1 + 1, 0, none⟩)]] 33)
      have hbT := Blk.newAt ((w1.alloc (.cells #[.bool false] 4)).alloc (.cells #[.slice none 0 0] 32)) #[.func (.func 17) #[] #[.pointer (some ⟨w.heap.size, 0, none⟩), .pointer (some ⟨w1.heap.size, 0, none⟩), .pointer (some ⟨w1.heap.size + 1, 0, none⟩), .pointer (some ⟨w1.heap.size + 1 + 1, 0, none⟩)]] 33 (n := w1.heap.size + 1 + 1) (by simp)
      have hk1 : Below w.heap.size w w1 := kX.trans (k1.mono kX.size)
      have hs3 : Still w1 (((w1.alloc (.cells #[.bool false] 4)).alloc (.cells #[.slice none 0 0] 32)).alloc (.cells #[.func (.func 17) #[] #[.pointer (some ⟨w.heap.size, 0, none⟩), .pointer (some ⟨w1.heap.size, 0, none⟩), .pointer (some ⟨w1.heap.size + 1, 0, none⟩), .pointer (some ⟨w1.heap.size + 1 + 1, 0, none⟩)]] 33)) := (((still_refl w1).alloc _).alloc _).alloc _
      have hk2 := below_still hk1 hs3 (Nat.le_refl _)
      have bX2 := bX1.still hs3
      have hXO : w.heap.size < w1.heap.size := bX1.lt
      generalize (((w1.alloc (.cells #[.bool false] 4)).alloc (.cells #[.slice none 0 0] 32)).alloc (.cells #[.func (.func 17) #[] #[.pointer (some ⟨w.heap.size, 0, none⟩), .pointer (some ⟨w1.heap.size, 0, none⟩), .pointer (some ⟨w1.heap.size + 1, 0, none⟩), .pointer (some ⟨w1.heap.size + 1 + 1, 0, none⟩)]] 33)) = w2 at *
      generalize w1.heap.size = O at *
      have hzT := hbT.lt
      have hR2 := HZ.out.keep (kept_of_below hk2) (fun b hb _ => by omega)
      have hW2 : WaitsW w2.heap.size w.heap.size O (O + 1) (O + 1 + 1) w.heap.size a1 cap1 zs w2 := ⟨by rw [← HL.out]; exact bX2, hbT, by rw [← HL.out]; exact hR2⟩
      have hi2 : GotI w2.heap.size (O + 1) (zs.take 0) (fun b => b = O + 1 ∨ (Value.slice none 0 0).ownBlock = some b) w2 := ⟨_, hbG, World.ownsRow_nil _ _ _ _, by omega, Nat.le_refl _, fun b => Iff.rfl⟩
      have hMe : ∀ b, (b = O + 1 ∨ (Value.slice none 0 0).ownBlock = some b) → b = O + 1 := fun b h => by
        rcases h with h | h
        · exact h
        · simp [Value.ownBlock] at h
      refine (stage_any w2.heap.size w.heap.size O (O + 1) (O + 1 + 1) w.heap.size a1 cap1 zs (by rw [← HL.out]; omega) (zs.length - 0) 0 rfl w2 hW2 hk2.size).mono ?_
      rintro e w3 ⟨may, d, Fp, rfl, k3, hFp, hq, hD⟩
      have hs3' := k3.size
      have HD := Lib.hid hD
      have HQ := Lib.hid hq
      have HFp : Hid (∀ b, Fp b → b ≠ O + 1 ∧ b ≠ O) := Lib.hid (fun b h => by rcases hFp b h with (h | h | h) | h <;> omega)
      have HI3 := Lib.hid (gotI_keep _ _ _ _ hi2 (k3.mono (fun _ _ f => f.elim)))
      have hk3 := below_still hk2 k3 (Nat.le_refl _)
      have HW3 := Lib.hid (hW2.agree (Agree.of_kept k3 (fun _ _ f => f) (fun b h => by rcases h with h | h | h <;> omega)))
      have hbO3 := hbO.still k3
      clear hD hq hFp hi2 hW2 hR2 bX2 hbG hbT hbO
      have hDC := does_cases _ _ _ HD.out
      have hmc := HQ.out.1
      go_wp2_with fail
      refine (going_new (· = mayV O) _ gotI_lt gotI_keep may d _ _ _ Fp w3 HQ.out HD.out HI3.out (fun b h hm => (HFp.out b h).1 (hMe b hm))).mono ?_
      rintro e w4 ⟨p, hp, rfl, k4, Fp4, hF4, hg4⟩
      have hs4 := k4.size
      have HG4 := Lib.hid hg4
      have hF4O : ¬ Fp4 O := fun h => (HFp.out O (hF4 O h)).2 rfl
      have hk4 := below_still hk3 k4 (Nat.le_refl _)
      have HW4 := Lib.hid (HW3.out.agree (Agree.of_kept k4 (fun _ _ f => f) (fun b h => by rcases h with h | h | h <;> omega)))
      have hbO4 := hbO3.still k4
      clear hg4 hF4 hDC hmc HD HQ HFp HI3 HW3 hbO3 cX1 bX1
      go_wp2_with fail
      go_loopw [9, 10] (fun n i wr => ∃ (k m : Nat) (M Fp : Nat → Prop) (bo : Bool), k ≤ len0 ∧ m ≤ L ∧ n = .int .i64 m ∧ i = .int .i64 k ∧ Going (· = mayV O) (GotI w2.heap.size (O + 1)) p m (zs.take m) (pathOf (zs.take m) (zs.drop m)) M Fp wr ∧
        Blk wr O #[.bool bo] 4 ∧ Blk wr w.heap.size #[.slice a1 L cap1] 32 ∧ ¬ Fp O ∧ Below w.heap.size w wr) (fun _ i _ => len0 - (intOf i).toNat)
      case atStart => exact ⟨0, 0, _, Fp4, false, by omega, by omega, rfl, rfl, HG4.out, hbO4, by rw [HL.out]; exact HW4.out.bX, hF4O, hk4⟩
      case round =>
        obtain ⟨k, m, M, Fp, bo, hk, hm, rfl, rfl, hg, bO, bXr, hOF, hbel⟩ := hrel
        have hbz := hbel.size
        by_cases hlt : k < len0
        · obtain ⟨b, o, rfl, hb, hc⟩ := H0.out (by omega)
          have cg := (hbel.cell (p := ⟨b, o + k, none⟩) hb).trans (hc k hlt)
          clear hc
          have HG := Lib.hid hg
          have hOM : ¬ M O := gotI_not HG.out.st (by omega) (by omega)
          have hpO : p ≠ O := by omega
          have cO := bO.cell 0
          have fO := bO.free 0
          have cX := bXr.cell 0
          have hnX : w.heap.size ≠ O := by omega
          have cXO := (bXr.other (a := ⟨O, 0, none⟩) hnX (.bool (f0_0 k))).cell 0
          have bO2 := bO.set 0 (.bool (f0_0 k))
          have kO : Only O wr (wr.setCell ⟨O, 0, none⟩ (.bool (f0_0 k))) := (only_refl O wr).put 0 _
          have hg2 := going_kept gotI_keep HG.out kO (fun b hb e => hOM (e ▸ hb)) (fun b hb e => hOF (e ▸ hb)) hpO
          have bX2 := bXr.only kO hnX
          have hbel2 := below_only hbel kO (Nat.le_refl _) (by omega)
          have HG2 := Lib.hid hg2
          clear hg hg2
          cases hgk : f0_0 k with
          | true =>
            rw [hgk] at bO2 kO bX2 hbel2 cXO cg HG2
            by_cases hmL : m < L
            · have hpa := pathOf_at zs (i := m) (by rw [← HL.out]; exact hmL)
              have hgt := getD_of (zs := zs) (k := m) (by rw [← HL.out]; exact hmL)
              rw [← hgt] at hpa
              have hg2 := HG2.out
              rw [hpa] at hg2
              have HG2' := Lib.hid hg2
              clear hg2 hpa hgt
              go_wp2_with fail
              refine (going_ask HG2'.out bO2).mono ?_
              rintro e v1 ⟨rfl, s1⟩
              go_wp2_with fail
              refine (step_yes (· = mayV O) _ gotI_lt gotI_keep p m (by omega) _ _ _ M Fp v1 (going_still gotI_keep HG2'.out s1) (going_ask (going_still gotI_keep HG2'.out s1) (bO2.still s1))).mono ?_
              rintro e v3 ⟨rfl, M3, Fp3, hg3, k3'', hm3, hf3⟩
              have HG3 : Hid (Going (· = mayV O) (GotI w2.heap.size (O + 1)) p ((m : Int) + 1) (zs.take (m + 1)) (pathOf (zs.take (m + 1)) (zs.drop (m + 1))) M3 Fp3 v3) := Lib.hid hg3
              have hMX : ¬ M w.heap.size := gotI_not HG.out.st (by omega) (by omega)
              have hs1 := s1.size
              rw [World.size_setCell] at hs1
              have bO3 := (bO2.still s1).kept k3'' (fun h => by rcases h with h | h; exact hOM h; exact hpO h.symm)
              have bX3 := (bX2.still s1).kept k3'' (fun h => by rcases h with h | h; exact hMX h; omega)
              have hOF3 : ¬ Fp3 O := fun h => by
                rcases hf3 O h with h | h
                · exact hOF h
                · have := bO.lt; omega
              have hbel3 : Below w.heap.size w v3 := below_step (below_still hbel2 s1 (Nat.le_refl _)) k3'' (Nat.le_refl _) (fun i hi h => by
                rcases h with h | h
                · have := gotI_ge HG.out.st (B0 := w.heap.size) (by omega) i h; omega
                · omega)
              have HR3 : Hid (IRow (fun b => b < w.heap.size) v3 (.slice a1 L cap1) zs) := Lib.hid (HZ.out.keep (kept_of_below hbel3) (fun b hb _ => by omega))
              clear hg3 hm3 hf3 k3'' HG2' HG2 cO fO cX cXO cg bO2 bX2
              by_cases hend : m + 1 = L
              · have hi1 : ((m : Int) + 1 == L) = true := by rw [beq_iff_eq]; omega
                have he1 : m + 1 ≤ L := by omega
                have he2 : L ≤ m + 1 := by omega
                clear hend
                have hgi := HG3.out.st
                obtain ⟨gv, bGr, hgo, _, _, _⟩ := hgi
                have hgl : (zs.take (m + 1)).length = m + 1 := by rw [List.length_take, ← HL.out]; omega
                rw [hgl] at hgo
                obtain ⟨ga, gc, rfl⟩ := owns_slice hgo
                have HGO := Lib.hid hgo
                have HGL := Lib.hid hgl
                have cG := bGr.cell 0
                have cX3 := bX3.cell 0
                have hrt : IRow (fun b => b < w.heap.size) v3 (.slice a1 (m + 1) cap1) (zs.take (m + 1)) := by
                  have := VRow.take HR3.out (m + 1) (by omega)
                  rwa [← List.map_take] at this
                have HRT := Lib.hid hrt
                have hdn := going_done HG3.out
                rw [path_empty, ← HL.out, show decide (L ≤ m + 1) = true from decide_eq_true (by omega)] at hdn
                have HDN := Lib.hid hdn
                clear hgo hrt hdn hgl
                go_wp2_with fail
                refine wp_region_text ([4], [9]) [O + 1, w.heap.size] (by kernel_rfl) (by kernel_rfl) (cellsB_cons bGr.cells (cellsB_cons bX3.cells cellsB_nil)) (by simp [segs, isEff, isLoad, askOps, asks, eqOrNe, isNil]; rfl) ?_
                refine segs_go stay_drew (by simp [isLoad]) ?_
                go_wp2_with fail
                have hgw := Lib.hid (going_still gotI_keep HG3.out ((still_refl v3).drewN 1))
                refine (going_steps hgw.out).mono ?_
                rintro e v4 ⟨rfl, rfl⟩
                have hS1 : StayB [O + 1, w.heap.size] v3 (v3.drewN 1) := fun b hb => rfl
                go_wp2_with fail
                refine segs_go hS1 (by simp [isLoad]) ?_
                go_wp2_with fail
                refine segs_load hS1 (fun _ => (by exact ⟨O + 1, _, rfl, by simp⟩)) ?_
                go_wp2_with fail
                refine segs_load hS1 (fun _ => (by exact ⟨w.heap.size, _, rfl, by simp⟩)) ?_
                go_wp2_with fail
                refine segs_go hS1 (by simp [isLoad]) ?_
                go_wp2_with fail
                have hgo1 : IRow (fun b => w2.heap.size ≤ b) (v3.drewN 1) (.slice ga (m + 1) gc) (zs.take (m + 1)) := (VRow.of_owns HGO.out).still ((still_refl v3).drewN 1)
                refine (ints_any _ _ (zs.take (m + 1)) (zs.take (m + 1)) _ _ _ hgo1 (VRow.still HRT.out ((still_refl v3).drewN 1))).mono ?_
                rintro e v4 ⟨rfl, s4⟩
                have cX4 := ((bX3.drewN 1).still s4).cell 0
                have hdt : decide (zs.take (m + 1) = zs.take (m + 1)) = true := by simp
                rw [hdt]
                clear hgo1 hdt
                have hS2 : StayB [O + 1, w.heap.size] v3 v4 := StayB.kept hS1 s4 (fun b hb => ⟨by
                  simp only [List.mem_cons, List.not_mem_nil, or_false] at hb
                  rcases hb with rfl | rfl
                  · exact bGr.lt
                  · exact bX3.lt, fun f => f⟩)
                have hg4 := Lib.hid (going_still gotI_keep hgw.out s4)
                have hdn4 := going_done hg4.out
                rw [path_empty, ← HL.out, show decide (L ≤ m + 1) = true from decide_eq_true (by omega)] at hdn4
                have HDN4 := Lib.hid hdn4
                clear hdn4
                go_wp2_with fail
                refine segs_go hS2 (by simp [isLoad]) ?_
                go_wp2_with fail
                refine HDN4.out.mono ?_
                rintro e v5 ⟨rfl, rfl⟩
                go_wp2_with fail
                refine segs_go hS2 (by simp [isLoad]) ?_
                go_wp2_with fail
                refine segs_load hS2 (fun _ => (by exact ⟨w.heap.size, _, rfl, by simp⟩)) ?_
                go_wp2_with fail
                refine segs_nil ?_
                go_wp2_with fail
                go_roundw
                case rel => exact ⟨k + 1, m + 1, M3, Fp3, _, by omega, by omega, by go_num, by go_num, hg4.out, (bO3.drewN 1).still s4, (bX3.drewN 1).still s4, hOF3, below_still hbel3 (((still_refl v3).drewN 1).trans s4) (Nat.le_refl _)⟩
                case measure => simp [intOf]; omega
              · have hi1 : ((m : Int) + 1 == L) = false := by rw [beq_eq_false_iff_ne]; omega
                have hgi := HG3.out.st
                obtain ⟨gv, bGr, hgo, _, _, _⟩ := hgi
                have hgl : (zs.take (m + 1)).length = m + 1 := by rw [List.length_take, ← HL.out]; omega
                rw [hgl] at hgo
                obtain ⟨ga, gc, rfl⟩ := owns_slice hgo
                have HGO := Lib.hid hgo
                have HGL := Lib.hid hgl
                have cG := bGr.cell 0
                have cX3 := bX3.cell 0
                have hrt : IRow (fun b => b < w.heap.size) v3 (.slice a1 (m + 1) cap1) (zs.take (m + 1)) := by
                  have := VRow.take HR3.out (m + 1) (by omega)
                  rwa [← List.map_take] at this
                have HRT := Lib.hid hrt
                have hdn := going_done HG3.out
                rw [path_empty, ← HL.out, show decide (L ≤ m + 1) = false from decide_eq_false (by omega)] at hdn
                have HDN := Lib.hid hdn
                clear hgo hrt hdn hgl
                go_wp2_with fail
                refine wp_region_text ([4], [9]) [O + 1, w.heap.size] (by kernel_rfl) (by kernel_rfl) (cellsB_cons bGr.cells (cellsB_cons bX3.cells cellsB_nil)) (by simp [segs, isEff, isLoad, askOps, asks, eqOrNe, isNil]; rfl) ?_
                refine segs_go stay_drew (by simp [isLoad]) ?_
                go_wp2_with fail
                have hgw := Lib.hid (going_still gotI_keep HG3.out ((still_refl v3).drewN 1))
                refine (going_steps hgw.out).mono ?_
                rintro e v4 ⟨rfl, rfl⟩
                have hS1 : StayB [O + 1, w.heap.size] v3 (v3.drewN 1) := fun b hb => rfl
                go_wp2_with fail
                refine segs_go hS1 (by simp [isLoad]) ?_
                go_wp2_with fail
                refine segs_load hS1 (fun _ => (by exact ⟨O + 1, _, rfl, by simp⟩)) ?_
                go_wp2_with fail
                refine segs_load hS1 (fun _ => (by exact ⟨w.heap.size, _, rfl, by simp⟩)) ?_
                go_wp2_with fail
                refine segs_go hS1 (by simp [isLoad]) ?_
                go_wp2_with fail
                have hgo1 : IRow (fun b => w2.heap.size ≤ b) (v3.drewN 1) (.slice ga (m + 1) gc) (zs.take (m + 1)) := (VRow.of_owns HGO.out).still ((still_refl v3).drewN 1)
                refine (ints_any _ _ (zs.take (m + 1)) (zs.take (m + 1)) _ _ _ hgo1 (VRow.still HRT.out ((still_refl v3).drewN 1))).mono ?_
                rintro e v4 ⟨rfl, s4⟩
                have cX4 := ((bX3.drewN 1).still s4).cell 0
                have hdt : decide (zs.take (m + 1) = zs.take (m + 1)) = true := by simp
                rw [hdt]
                clear hgo1 hdt
                have hS2 : StayB [O + 1, w.heap.size] v3 v4 := StayB.kept hS1 s4 (fun b hb => ⟨by
                  simp only [List.mem_cons, List.not_mem_nil, or_false] at hb
                  rcases hb with rfl | rfl
                  · exact bGr.lt
                  · exact bX3.lt, fun f => f⟩)
                have hg4 := Lib.hid (going_still gotI_keep hgw.out s4)
                have hdn4 := going_done hg4.out
                rw [path_empty, ← HL.out, show decide (L ≤ m + 1) = false from decide_eq_false (by omega)] at hdn4
                have HDN4 := Lib.hid hdn4
                clear hdn4
                go_wp2_with fail
                refine segs_go hS2 (by simp [isLoad]) ?_
                go_wp2_with fail
                refine HDN4.out.mono ?_
                rintro e v5 ⟨rfl, rfl⟩
                go_wp2_with fail
                refine segs_go hS2 (by simp [isLoad]) ?_
                go_wp2_with fail
                refine segs_load hS2 (fun _ => (by exact ⟨w.heap.size, _, rfl, by simp⟩)) ?_
                go_wp2_with fail
                refine segs_nil ?_
                go_wp2_with fail
                go_roundw
                case rel => exact ⟨k + 1, m + 1, M3, Fp3, _, by omega, by omega, by go_num, by go_num, hg4.out, (bO3.drewN 1).still s4, (bX3.drewN 1).still s4, hOF3, below_still hbel3 (((still_refl v3).drewN 1).trans s4) (Nat.le_refl _)⟩
                case measure => simp [intOf]; omega
            · have hg2 := HG2.out
              rw [show zs.drop m = [] from List.drop_eq_nil_of_le (by rw [← HL.out]; omega)] at hg2
              have HG2' := Lib.hid hg2
              clear hg2
              go_wp2_with fail
              refine (going_end_may HG2'.out).mono ?_
              rintro e v1 ⟨rfl, s1⟩
              go_wp2_with fail
              refine (step_no _ v1 (going_end_may (going_still gotI_keep HG2'.out s1))).mono ?_
              rintro e v3 ⟨rfl, s3⟩
              obtain ⟨M3, hM3⟩ : ∃ M3, M3 = M := ⟨_, rfl⟩
              obtain ⟨Fp3, hFp3⟩ : ∃ Fp3, Fp3 = Fp := ⟨_, rfl⟩
              subst hM3 hFp3
              have HG3 := Lib.hid (going_still gotI_keep (going_still gotI_keep HG2.out s1) s3)
              have bO3 := (bO2.still s1).still s3
              have bX3 := (bX2.still s1).still s3
              have hOF3 := hOF
              have hbel3 : Below w.heap.size w v3 := below_still (below_still hbel2 s1 (Nat.le_refl _)) s3 (Nat.le_refl _)
              have HR3 : Hid (IRow (fun b => b < w.heap.size) v3 (.slice a1 L cap1) zs) := Lib.hid (HZ.out.keep (kept_of_below hbel3) (fun b hb _ => by omega))
              clear HG2' HG2 cO fO cX cXO cg bO2 bX2
              have hi1 : ((m : Int) == L) = true := by rw [beq_iff_eq]; omega
              have hgi := HG3.out.st
              obtain ⟨gv, bGr, hgo, _, _, _⟩ := hgi
              have hgl : (zs.take (m)).length = m := by rw [List.length_take, ← HL.out]; omega
              rw [hgl] at hgo
              obtain ⟨ga, gc, rfl⟩ := owns_slice hgo
              have HGO := Lib.hid hgo
              have HGL := Lib.hid hgl
              have cG := bGr.cell 0
              have cX3 := bX3.cell 0
              have hrt : IRow (fun b => b < w.heap.size) v3 (.slice a1 (m) cap1) (zs.take (m)) := by
                have := VRow.take HR3.out (m) (by omega)
                rwa [← List.map_take] at this
              have HRT := Lib.hid hrt
              have hdn := going_done HG3.out
              rw [path_empty, ← HL.out, show decide (L ≤ m) = true from decide_eq_true (by omega)] at hdn
              have HDN := Lib.hid hdn
              clear hgo hrt hdn hgl
              go_wp2_with fail
              refine wp_region_text ([4], [9]) [O + 1, w.heap.size] (by kernel_rfl) (by kernel_rfl) (cellsB_cons bGr.cells (cellsB_cons bX3.cells cellsB_nil)) (by simp [segs, isEff, isLoad, askOps, asks, eqOrNe, isNil]; rfl) ?_
              refine segs_go stay_drew (by simp [isLoad]) ?_
              go_wp2_with fail
              have hgw := Lib.hid (going_still gotI_keep HG3.out ((still_refl v3).drewN 1))
              refine (going_steps hgw.out).mono ?_
              rintro e v4 ⟨rfl, rfl⟩
              have hS1 : StayB [O + 1, w.heap.size] v3 (v3.drewN 1) := fun b hb => rfl
              go_wp2_with fail
              refine segs_go hS1 (by simp [isLoad]) ?_
              go_wp2_with fail
              refine segs_load hS1 (fun _ => (by exact ⟨O + 1, _, rfl, by simp⟩)) ?_
              go_wp2_with fail
              refine segs_load hS1 (fun _ => (by exact ⟨w.heap.size, _, rfl, by simp⟩)) ?_
              go_wp2_with fail
              refine segs_go hS1 (by simp [isLoad]) ?_
              go_wp2_with fail
              have hgo1 : IRow (fun b => w2.heap.size ≤ b) (v3.drewN 1) (.slice ga (m) gc) (zs.take (m)) := (VRow.of_owns HGO.out).still ((still_refl v3).drewN 1)
              refine (ints_any _ _ (zs.take (m)) (zs.take (m)) _ _ _ hgo1 (VRow.still HRT.out ((still_refl v3).drewN 1))).mono ?_
              rintro e v4 ⟨rfl, s4⟩
              have cX4 := ((bX3.drewN 1).still s4).cell 0
              have hdt : decide (zs.take (m) = zs.take (m)) = true := by simp
              rw [hdt]
              clear hgo1 hdt
              have hS2 : StayB [O + 1, w.heap.size] v3 v4 := StayB.kept hS1 s4 (fun b hb => ⟨by
                simp only [List.mem_cons, List.not_mem_nil, or_false] at hb
                rcases hb with rfl | rfl
                · exact bGr.lt
                · exact bX3.lt, fun f => f⟩)
              have hg4 := Lib.hid (going_still gotI_keep hgw.out s4)
              have hdn4 := going_done hg4.out
              rw [path_empty, ← HL.out, show decide (L ≤ m) = true from decide_eq_true (by omega)] at hdn4
              have HDN4 := Lib.hid hdn4
              clear hdn4
              go_wp2_with fail
              refine segs_go hS2 (by simp [isLoad]) ?_
              go_wp2_with fail
              refine HDN4.out.mono ?_
              rintro e v5 ⟨rfl, rfl⟩
              go_wp2_with fail
              refine segs_go hS2 (by simp [isLoad]) ?_
              go_wp2_with fail
              refine segs_load hS2 (fun _ => (by exact ⟨w.heap.size, _, rfl, by simp⟩)) ?_
              go_wp2_with fail
              refine segs_nil ?_
              go_wp2_with fail
              go_roundw
              case rel => exact ⟨k + 1, m, M3, Fp3, _, by omega, by omega, by go_num, by go_num, hg4.out, (bO3.drewN 1).still s4, (bX3.drewN 1).still s4, hOF3, below_still hbel3 (((still_refl v3).drewN 1).trans s4) (Nat.le_refl _)⟩
              case measure => simp [intOf]; omega
          | false =>
            rw [hgk] at bO2 kO bX2 hbel2 cXO cg HG2
            by_cases hmL : m < L
            · have hpa := pathOf_at zs (i := m) (by rw [← HL.out]; exact hmL)
              have hg2 := HG2.out
              rw [hpa] at hg2
              have HG2' := Lib.hid hg2
              clear hg2 hpa
              go_wp2_with fail
              refine (going_ask HG2'.out bO2).mono ?_
              rintro e v1 ⟨rfl, s1⟩
              go_wp2_with fail
              refine (step_no _ v1 (going_ask (going_still gotI_keep HG2'.out s1) (bO2.still s1))).mono ?_
              rintro e v3 ⟨rfl, s3⟩
              obtain ⟨M3, hM3⟩ : ∃ M3, M3 = M := ⟨_, rfl⟩
              obtain ⟨Fp3, hFp3⟩ : ∃ Fp3, Fp3 = Fp := ⟨_, rfl⟩
              subst hM3 hFp3
              have HG3 := Lib.hid (going_still gotI_keep (going_still gotI_keep HG2.out s1) s3)
              have bO3 := (bO2.still s1).still s3
              have bX3 := (bX2.still s1).still s3
              have hOF3 := hOF
              have hbel3 : Below w.heap.size w v3 := below_still (below_still hbel2 s1 (Nat.le_refl _)) s3 (Nat.le_refl _)
              have HR3 : Hid (IRow (fun b => b < w.heap.size) v3 (.slice a1 L cap1) zs) := Lib.hid (HZ.out.keep (kept_of_below hbel3) (fun b hb _ => by omega))
              clear HG2' HG2 cO fO cX cXO cg bO2 bX2
              have hi1 : ((m : Int) == L) = false := by rw [beq_eq_false_iff_ne]; omega
              have hgi := HG3.out.st
              obtain ⟨gv, bGr, hgo, _, _, _⟩ := hgi
              have hgl : (zs.take (m)).length = m := by rw [List.length_take, ← HL.out]; omega
              rw [hgl] at hgo
              obtain ⟨ga, gc, rfl⟩ := owns_slice hgo
              have HGO := Lib.hid hgo
              have HGL := Lib.hid hgl
              have cG := bGr.cell 0
              have cX3 := bX3.cell 0
              have hrt : IRow (fun b => b < w.heap.size) v3 (.slice a1 (m) cap1) (zs.take (m)) := by
                have := VRow.take HR3.out (m) (by omega)
                rwa [← List.map_take] at this
              have HRT := Lib.hid hrt
              have hdn := going_done HG3.out
              rw [path_empty, ← HL.out, show decide (L ≤ m) = false from decide_eq_false (by omega)] at hdn
              have HDN := Lib.hid hdn
              clear hgo hrt hdn hgl
              go_wp2_with fail
              refine wp_region_text ([4], [9]) [O + 1, w.heap.size] (by kernel_rfl) (by kernel_rfl) (cellsB_cons bGr.cells (cellsB_cons bX3.cells cellsB_nil)) (by simp [segs, isEff, isLoad, askOps, asks, eqOrNe, isNil]; rfl) ?_
              refine segs_go stay_drew (by simp [isLoad]) ?_
              go_wp2_with fail
              have hgw := Lib.hid (going_still gotI_keep HG3.out ((still_refl v3).drewN 1))
              refine (going_steps hgw.out).mono ?_
              rintro e v4 ⟨rfl, rfl⟩
              have hS1 : StayB [O + 1, w.heap.size] v3 (v3.drewN 1) := fun b hb => rfl
              go_wp2_with fail
              refine segs_go hS1 (by simp [isLoad]) ?_
              go_wp2_with fail
              refine segs_load hS1 (fun _ => (by exact ⟨O + 1, _, rfl, by simp⟩)) ?_
              go_wp2_with fail
              refine segs_load hS1 (fun _ => (by exact ⟨w.heap.size, _, rfl, by simp⟩)) ?_
              go_wp2_with fail
              refine segs_go hS1 (by simp [isLoad]) ?_
              go_wp2_with fail
              have hgo1 : IRow (fun b => w2.heap.size ≤ b) (v3.drewN 1) (.slice ga (m) gc) (zs.take (m)) := (VRow.of_owns HGO.out).still ((still_refl v3).drewN 1)
              refine (ints_any _ _ (zs.take (m)) (zs.take (m)) _ _ _ hgo1 (VRow.still HRT.out ((still_refl v3).drewN 1))).mono ?_
              rintro e v4 ⟨rfl, s4⟩
              have cX4 := ((bX3.drewN 1).still s4).cell 0
              have hdt : decide (zs.take (m) = zs.take (m)) = true := by simp
              rw [hdt]
              clear hgo1 hdt
              have hS2 : StayB [O + 1, w.heap.size] v3 v4 := StayB.kept hS1 s4 (fun b hb => ⟨by
                simp only [List.mem_cons, List.not_mem_nil, or_false] at hb
                rcases hb with rfl | rfl
                · exact bGr.lt
                · exact bX3.lt, fun f => f⟩)
              have hg4 := Lib.hid (going_still gotI_keep hgw.out s4)
              have hdn4 := going_done hg4.out
              rw [path_empty, ← HL.out, show decide (L ≤ m) = false from decide_eq_false (by omega)] at hdn4
              have HDN4 := Lib.hid hdn4
              clear hdn4
              go_wp2_with fail
              refine segs_go hS2 (by simp [isLoad]) ?_
              go_wp2_with fail
              refine HDN4.out.mono ?_
              rintro e v5 ⟨rfl, rfl⟩
              go_wp2_with fail
              refine segs_go hS2 (by simp [isLoad]) ?_
              go_wp2_with fail
              refine segs_load hS2 (fun _ => (by exact ⟨w.heap.size, _, rfl, by simp⟩)) ?_
              go_wp2_with fail
              refine segs_nil ?_
              go_wp2_with fail
              go_roundw
              case rel => exact ⟨k + 1, m, M3, Fp3, _, by omega, by omega, by go_num, by go_num, hg4.out, (bO3.drewN 1).still s4, (bX3.drewN 1).still s4, hOF3, below_still hbel3 (((still_refl v3).drewN 1).trans s4) (Nat.le_refl _)⟩
              case measure => simp [intOf]; omega
            · have hg2 := HG2.out
              rw [show zs.drop m = [] from List.drop_eq_nil_of_le (by rw [← HL.out]; omega)] at hg2
              have HG2' := Lib.hid hg2
              clear hg2
              go_wp2_with fail
              refine (going_end_may HG2'.out).mono ?_
              rintro e v1 ⟨rfl, s1⟩
              go_wp2_with fail
              refine (step_no _ v1 (going_end_may (going_still gotI_keep HG2'.out s1))).mono ?_
              rintro e v3 ⟨rfl, s3⟩
              obtain ⟨M3, hM3⟩ : ∃ M3, M3 = M := ⟨_, rfl⟩
              obtain ⟨Fp3, hFp3⟩ : ∃ Fp3, Fp3 = Fp := ⟨_, rfl⟩
              subst hM3 hFp3
              have HG3 := Lib.hid (going_still gotI_keep (going_still gotI_keep HG2.out s1) s3)
              have bO3 := (bO2.still s1).still s3
              have bX3 := (bX2.still s1).still s3
              have hOF3 := hOF
              have hbel3 : Below w.heap.size w v3 := below_still (below_still hbel2 s1 (Nat.le_refl _)) s3 (Nat.le_refl _)
              have HR3 : Hid (IRow (fun b => b < w.heap.size) v3 (.slice a1 L cap1) zs) := Lib.hid (HZ.out.keep (kept_of_below hbel3) (fun b hb _ => by omega))
              clear HG2' HG2 cO fO cX cXO cg bO2 bX2
              have hi1 : ((m : Int) == L) = true := by rw [beq_iff_eq]; omega
              have hgi := HG3.out.st
              obtain ⟨gv, bGr, hgo, _, _, _⟩ := hgi
              have hgl : (zs.take (m)).length = m := by rw [List.length_take, ← HL.out]; omega
              rw [hgl] at hgo
              obtain ⟨ga, gc, rfl⟩ := owns_slice hgo
              have HGO := Lib.hid hgo
              have HGL := Lib.hid hgl
              have cG := bGr.cell 0
              have cX3 := bX3.cell 0
              have hrt : IRow (fun b => b < w.heap.size) v3 (.slice a1 (m) cap1) (zs.take (m)) := by
                have := VRow.take HR3.out (m) (by omega)
                rwa [← List.map_take] at this
              have HRT := Lib.hid hrt
              have hdn := going_done HG3.out
              rw [path_empty, ← HL.out, show decide (L ≤ m) = true from decide_eq_true (by omega)] at hdn
              have HDN := Lib.hid hdn
              clear hgo hrt hdn hgl
              go_wp2_with fail
              refine wp_region_text ([4], [9]) [O + 1, w.heap.size] (by kernel_rfl) (by kernel_rfl) (cellsB_cons bGr.cells (cellsB_cons bX3.cells cellsB_nil)) (by simp [segs, isEff, isLoad, askOps, asks, eqOrNe, isNil]; rfl) ?_
              refine segs_go stay_drew (by simp [isLoad]) ?_
              go_wp2_with fail
              have hgw := Lib.hid (going_still gotI_keep HG3.out ((still_refl v3).drewN 1))
              refine (going_steps hgw.out).mono ?_
              rintro e v4 ⟨rfl, rfl⟩
              have hS1 : StayB [O + 1, w.heap.size] v3 (v3.drewN 1) := fun b hb => rfl
              go_wp2_with fail
              refine segs_go hS1 (by simp [isLoad]) ?_
              go_wp2_with fail
              refine segs_load hS1 (fun _ => (by exact ⟨O + 1, _, rfl, by simp⟩)) ?_
              go_wp2_with fail
              refine segs_load hS1 (fun _ => (by exact ⟨w.heap.size, _, rfl, by simp⟩)) ?_
              go_wp2_with fail
              refine segs_go hS1 (by simp [isLoad]) ?_
              go_wp2_with fail
              have hgo1 : IRow (fun b => w2.heap.size ≤ b) (v3.drewN 1) (.slice ga (m) gc) (zs.take (m)) := (VRow.of_owns HGO.out).still ((still_refl v3).drewN 1)
              refine (ints_any _ _ (zs.take (m)) (zs.take (m)) _ _ _ hgo1 (VRow.still HRT.out ((still_refl v3).drewN 1))).mono ?_
              rintro e v4 ⟨rfl, s4⟩
              have cX4 := ((bX3.drewN 1).still s4).cell 0
              have hdt : decide (zs.take (m) = zs.take (m)) = true := by simp
              rw [hdt]
              clear hgo1 hdt
              have hS2 : StayB [O + 1, w.heap.size] v3 v4 := StayB.kept hS1 s4 (fun b hb => ⟨by
                simp only [List.mem_cons, List.not_mem_nil, or_false] at hb
                rcases hb with rfl | rfl
                · exact bGr.lt
                · exact bX3.lt, fun f => f⟩)
              have hg4 := Lib.hid (going_still gotI_keep hgw.out s4)
              have hdn4 := going_done hg4.out
              rw [path_empty, ← HL.out, show decide (L ≤ m) = true from decide_eq_true (by omega)] at hdn4
              have HDN4 := Lib.hid hdn4
              clear hdn4
              go_wp2_with fail
              refine segs_go hS2 (by simp [isLoad]) ?_
              go_wp2_with fail
              refine HDN4.out.mono ?_
              rintro e v5 ⟨rfl, rfl⟩
              go_wp2_with fail
              refine segs_go hS2 (by simp [isLoad]) ?_
              go_wp2_with fail
              refine segs_load hS2 (fun _ => (by exact ⟨w.heap.size, _, rfl, by simp⟩)) ?_
              go_wp2_with fail
              refine segs_nil ?_
              go_wp2_with fail
              go_roundw
              case rel => exact ⟨k + 1, m, M3, Fp3, _, by omega, by omega, by go_num, by go_num, hg4.out, (bO3.drewN 1).still s4, (bX3.drewN 1).still s4, hOF3, below_still hbel3 (((still_refl v3).drewN 1).trans s4) (Nat.le_refl _)⟩
              case measure => simp [intOf]; omega
        · go_wp2_with fail
          go_ret
          exact ⟨rfl, hbel⟩
end Go.Proofs.Ytojjelafkieflaa
