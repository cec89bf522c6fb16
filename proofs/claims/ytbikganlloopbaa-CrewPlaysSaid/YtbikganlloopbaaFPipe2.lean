/-
  What stands here: what Put does with a pipe of firings that is full. Under no condition but that the world holds it.
-/
import Derived.Test.YtbikganlloopbaaFPipe
namespace Go.Proofs.Ytbikganlloopbaa
set_option linter.unusedVariables false
set_option linter.unusedSimpArgs false
open Go.RowKit Go.Proofs
open Go.Conc

set_option maxRecDepth 100000 in
set_option maxHeartbeats 2000000 in
theorem pput_f {s : LS} {p c l N : Nat} {xs : List FiringV} {most : Nat} (w : World) (h : PW_f s w p c l N xs most false) (v : FiringV) (hx : xs.length < 100000) (hm : most < 100000) (hN : N ≤ xs.length) :
    Calls Try.prog 13 #[.pointer (some ⟨p, 0, none⟩), v.v] w fun e w' => e = .returned (.tuple #[.bool true, .int .i64 0]) ∧ Kept (fun y => s.kd y ≠ 0 ∨ y = p ∨ y = c) w w' ∧ ∃ s', PW_f s' w' p c l N (xs ++ [v]) (max most (xs.length + 1 - N)) false ∧ (∀ y, y < w.heap.size → s'.kd y = s.kd y) := by
  obtain ⟨w0, hw0⟩ : ∃ w0, w0 = w.alloc (boxF v) := ⟨_, rfl⟩
  obtain ⟨A, hA⟩ : ∃ A, A = w.heap.size := ⟨_, rfl⟩
  have k0 : Still w w0 := by rw [hw0]; exact (still_refl w).alloc _
  obtain ⟨e0, e1, e2, e3⟩ := boxf_cells w v
  rw [← hw0, ← hA] at e0 e1 e2 e3
  have bA : Blk w0 A #[.int .u64 v.id, .int .u64 v.gen, .int .u64 v.dl, .int .u64 v.tick] 40 := by rw [hw0, hA]; exact Blk.new _ _ _
  have h0 := h.still k0
  have hlen := h0.len
  have c0' : w0.cell? ⟨p, 0, none⟩ = some (.chan (some c)) := h0.blk.cell 0
  have c1' : w0.cell? ⟨p, 1, none⟩ = some (.pointer (some ⟨l, 0, none⟩)) := h0.blk.cell 1
  have c3' : w0.cell? ⟨p, 3, none⟩ = some (.bool false) := h0.blk.cell 3
  obtain ⟨sn, rn, hc⟩ := h0.ch
  obtain ⟨B, hB⟩ : ∃ B, B = ((xs.take N).map pv_f).toArray := ⟨_, rfl⟩
  rw [← hB] at hc
  have hBs : B.size = min N xs.length := by rw [hB]; exact take_size_f xs N
  have hl := llen_f s w0 h0.lw l h0.kl
  rw [hlen] at hl
  have hz0 := k0.size
  have HB := Lib.hid hB
  have H := Lib.hid h0
  have HC := Lib.hid hc
  have K0 := Lib.hid k0
  have HA := Lib.hid hA
  have BA := Lib.hid bA
  obtain ⟨q, hq⟩ : ∃ q, q = xs.length - N := ⟨_, rfl⟩
  rw [← hq] at hl
  have HL := Lib.hid hl
  have HQ := Lib.hid hq
  have hq1 : q < 100000 := by omega
  have HW := hw0
  simp only [boxF] at HW
  have HWW := Lib.hid HW
  clear h h0 hlen hc hB k0 hw0 hA hl hq HW bA
  by_cases hq0 : q = 0
  · have HS := Lib.hid (psend_full_f w0 p c N B sn rn v c0' HC.out (by have := HQ.out; omega))
    simp only [FiringV.v] at HS
    subst hq0
    obtain ⟨vi, vg, vd, vt⟩ := v
    simp only at e0 e1 e2 e3 HS BA HWW ⊢
    go_enter Try.func13, Try.ntmps13
    go_upto_region 3 with fail
    rw [← HWW.out, ← HA.out]
    go_wp2_with fail
    refine HL.out.mono ?_
    rintro e w1 ⟨rfl, rfl⟩
    go_wp2_with fail
    refine HS.out.mono ?_
    rintro e w1 ⟨rfl, h9⟩
    have k1 : Still w0 w1 := by rw [h9]; exact (still_refl w0).alloc _
    clear h9
    have P1 := H.out.still k1
    have bA1 := BA.out.still k1
    have K1 := Lib.hid (K0.out.trans k1)
    clear k1
    have hpush : ∀ W, Still w1 W → Calls Try.prog 39 #[.pointer (some ⟨l, 0, none⟩), (⟨vi, vg, vd, vt⟩ : FiringV).v] W fun e w' => ∃ b, e = .returned (.pointer (some ⟨b, 0, none⟩)) ∧ w1.heap.size ≤ b ∧ Kept (fun y => s.kd y ≠ 0) w1 w' ∧ ∃ s', LW_f s' w' ∧ (∀ y, y < w1.heap.size → s'.kd y = s.kd y) ∧ s'.sq = upd s.sq l (s.sq l ++ [b]) ∧ LV s' = upd (LV s) b (⟨vi, vg, vd, vt⟩ : FiringV).v := fun W k => by
      have hz := k.size
      refine (oPush_f s W (P1.lw.still k) l (⟨vi, vg, vd, vt⟩ : FiringV) P1.kl (by rw [P1.len]; omega)).mono ?_
      rintro e w2 ⟨rfl, z2, k2, s2, h2, n2, d2, q2, v2⟩
      exact ⟨_, rfl, by omega, (k.mono (fun _ _ f => f.elim)).step k2 (fun _ _ h => h), s2, h2, fun y hy => n2 y (by omega), q2, v2⟩
    have a1 : w1.cell? ⟨p, 1, none⟩ = some (.pointer (some ⟨l, 0, none⟩)) := P1.blk.cell 1
    have g0 : w1.cell? ⟨A, 0, none⟩ = some (.int .u64 vi) := bA1.cell 0
    have g1 : w1.cell? ⟨A, 1, none⟩ = some (.int .u64 vg) := bA1.cell 1
    have g2 : w1.cell? ⟨A, 2, none⟩ = some (.int .u64 vd) := bA1.cell 2
    have g3 : w1.cell? ⟨A, 3, none⟩ = some (.int .u64 vt) := bA1.cell 3
    have HP := Lib.hid hpush
    have CA := Lib.hid bA1.cells
    have CP1 := Lib.hid P1.blk.cells
    have H1 := Lib.hid P1
    clear hpush P1 bA1
    simp only [FiringV.v] at HP
    go_upto_region 7 with fail
    refine wp_region_end ([4], [9, 102]) [p, A] rfl (by kernel_rfl) (by kernel_rfl) (by kernel_rfl) (cellsB_cons CP1.out (cellsB_cons CA.out cellsB_nil)) (by simp [segs, isEff, isLoad, askOps, asks, ptrEq, eqOrNe, isNil]; rfl) ?_
    (repeat ((first | (refine segs_nil ?_) | (refine segs_go (stay_drew) ?_ ?_; focus (simp [isLoad]; done)) | (refine segs_load (stay_drew) ?_ ?_; focus (intro h; first | exact ⟨p, _, rfl, by simp⟩ | exact ⟨A, _, rfl, by simp⟩ | (simp [Region.wanted, yielded, undef] at h; done))) | fail); go_wp2_with fail))
    refine (HP.out _ ((still_refl w1).drewN 1)).mono ?_
    rintro e w2 ⟨b, rfl, hb1, k2, s2, h2, n2, q2, v2⟩
    go_wp2_with fail
    (repeat ((first | (refine segs_nil ?_) | (refine segs_go (stay_drew) ?_ ?_; focus (simp [isLoad]; done)) | (refine segs_load (stay_drew) ?_ ?_; focus (intro h; first | exact ⟨p, _, rfl, by simp⟩ | exact ⟨A, _, rfl, by simp⟩ | (simp [Region.wanted, yielded, undef] at h; done))) | fail); go_wp2_with fail))
    have bp := H1.out.blk.kept k2 (by have := H1.out.sp; omega)
    have hcl := H1.out.ch.lt
    have hch2 := H1.out.ch.kept k2 (by have := H1.out.sc; omega)
    have kl2 : s2.kd l = 1 := (n2 l (H1.out.lw.lists l H1.out.kl).lt).trans H1.out.kl
    have vl2 : valsOf_f s2 (s2.sq l) = ((xs ++ [(⟨vi, vg, vd, vt⟩ : FiringV)]).drop N).map pv_f := by
      rw [q2, upd_same, List.drop_append_of_le_length (by omega), List.map_append, ← H1.out.vals]
      show (s.sq l ++ [b]).map (LV s2) = (s.sq l).map (LV s) ++ _
      rw [List.map_append, v2, List.map_singleton, upd_same]
      congr 1
      exact List.map_congr_left fun y hy => upd_ne _ _ (by have := (H1.out.lw.nodes y (H1.out.lw.inv.mem l y H1.out.kl hy).1).lt; omega)
    have P2 : PW_f s2 w2 p c l N (xs ++ [(⟨vi, vg, vd, vt⟩ : FiringV)]) most false := ⟨bp, by rw [List.take_append_of_le_length (by omega)]; exact hch2, h2, kl2, (n2 p H1.out.blk.lt).trans H1.out.sp, (n2 c hcl).trans H1.out.sc, vl2, H1.out.n1⟩
    have HP2 := Lib.hid P2
    have hll := llen_f s2 w2 h2 l kl2
    have hq2l : (s2.sq l).length = xs.length + 1 - N := by rw [P2.len]; simp
    rw [hq2l] at hll
    obtain ⟨m2, hm2⟩ : ∃ m, m = xs.length + 1 - N := ⟨_, rfl⟩
    rw [← hm2] at hll
    have HM2 := Lib.hid hm2
    have HLL := Lib.hid hll
    have hm2b : m2 < 200000 := by omega
    have d0 : w2.cell? ⟨p, 0, none⟩ = some (.chan (some c)) := bp.cell 0
    have d1 : w2.cell? ⟨p, 1, none⟩ = some (.pointer (some ⟨l, 0, none⟩)) := bp.cell 1
    have d2' : w2.cell? ⟨p, 2, none⟩ = some (.int .i64 most) := bp.cell 2
    have CP := Lib.hid bp.cells
    have fp2 := bp.free 2
    have K2 := Lib.hid k2
    have N2 := Lib.hid n2
    have Q2 := Lib.hid q2
    clear a1 g0 g1 g2 g3 k2 h2 n2 q2 v2 bp hch2 kl2 vl2 P2 hll hq2l hm2 c0' c1' c3' hcl e0 e1 e2 e3
    go_upto_region 8 with fail
    go_cut [] from 32 to 44 (fun wx => ∃ w4, Still w2 w4 ∧ wx = w4.setCell ⟨p, 2, none⟩ (.int .i64 (max most m2 : Nat)))
    case first =>
      as_aux_lemma =>
        by_cases hmx : most < m2
        · have e9 : max most m2 = m2 := by omega
          refine wp_region_end ([4], [9, 35]) [p] rfl (by kernel_rfl) (by kernel_rfl) (by kernel_rfl) (cellsB_cons CP.out cellsB_nil) (by simp [segs, isEff, isLoad, askOps, asks, ptrEq, eqOrNe, isNil]; rfl) ?_
          (repeat ((first | (refine segs_nil ?_) | (refine segs_go (stay_drew) ?_ ?_; focus (simp [isLoad]; done)) | (refine segs_load (stay_drew) ?_ ?_; focus (intro h; first | exact ⟨p, _, rfl, by simp⟩ | (simp [Region.wanted, yielded, undef] at h; done))) | fail); go_wp2_with fail))
          refine ((llen_f s2 _ (HP2.out.lw.still ((still_refl w2).drewN 1)) l HP2.out.kl)).mono ?_
          rintro e w4 ⟨rfl, rfl⟩
          rw [show (s2.sq l).length = m2 by rw [HP2.out.len, HM2.out, List.length_append, List.length_singleton]]
          go_wp2_with fail
          (repeat ((first | (refine segs_nil ?_) | (refine segs_go (stay_drew) ?_ ?_; focus (simp [isLoad]; done)) | (refine segs_load (stay_drew) ?_ ?_; focus (intro h; first | exact ⟨p, _, rfl, by simp⟩ | (simp [Region.wanted, yielded, undef] at h; done))) | fail); go_wp2_with fail))
          go_meet
          case rel => exact ⟨_, (still_refl w2).drewN 1, by rw [e9]⟩
        · have e9 : max most m2 = most := by omega
          refine wp_region_end ([4], [9, 35]) [p] rfl (by kernel_rfl) (by kernel_rfl) (by kernel_rfl) (cellsB_cons CP.out cellsB_nil) (by simp [segs, isEff, isLoad, askOps, asks, ptrEq, eqOrNe, isNil]; rfl) ?_
          (repeat ((first | (refine segs_nil ?_) | (refine segs_go (stay_drew) ?_ ?_; focus (simp [isLoad]; done)) | (refine segs_load (stay_drew) ?_ ?_; focus (intro h; first | exact ⟨p, _, rfl, by simp⟩ | (simp [Region.wanted, yielded, undef] at h; done))) | fail); go_wp2_with fail))
          refine ((llen_f s2 _ (HP2.out.lw.still ((still_refl w2).drewN 1)) l HP2.out.kl)).mono ?_
          rintro e w4 ⟨rfl, rfl⟩
          rw [show (s2.sq l).length = m2 by rw [HP2.out.len, HM2.out, List.length_append, List.length_singleton]]
          go_wp2_with fail
          (repeat ((first | (refine segs_nil ?_) | (refine segs_go (stay_drew) ?_ ?_; focus (simp [isLoad]; done)) | (refine segs_load (stay_drew) ?_ ?_; focus (intro h; first | exact ⟨p, _, rfl, by simp⟩ | (simp [Region.wanted, yielded, undef] at h; done))) | fail); go_wp2_with fail))
          go_meet
          case rel => exact ⟨_, (still_refl w2).drewN 1, by rw [e9]⟩
    case rest =>
      obtain ⟨w4, k4, rfl⟩ := hcut
      have P4 := HP2.out.still k4
      have K4 := Lib.hid k4
      clear k4 d0 d1 d2' fp2 CP
      go_wp2_with fail
      go_ret2
      have k5 : Kept (fun y => y = p) w4 (w4.setCell ⟨p, 2, none⟩ (.int .i64 (max most m2 : Nat))) := Kept.setCell (S := fun y => y = p) (Kept.refl _ _) (fun _ => rfl) _
      have hz1 := K1.out.size
      refine ⟨rfl, (((K1.out.mono (fun _ _ f => f.elim)).step K2.out (fun y hy h9 => .inl h9)).of_still K4.out).step k5 (fun i _ e => .inr (.inl e)), s2, ⟨?_, P4.ch.kept k5 (fun e => P4.pc e.symm), P4.lw.kept k5 (fun x hx e => hx (by have h9 : x = p := e; rw [h9]; exact P4.sp)), P4.kl, P4.sp, P4.sc, P4.vals, P4.n1⟩, fun y hy => N2.out y (by omega)⟩
      rw [← HM2.out]
      exact P4.blk.set' rfl

  · have hb : ((q : Int) == 0) = false := by rw [beq_eq_false_iff_ne]; omega
    obtain ⟨vi, vg, vd, vt⟩ := v
    simp only at e0 e1 e2 e3 BA HWW ⊢
    go_enter Try.func13, Try.ntmps13
    go_upto_region 3 with fail
    rw [← HWW.out, ← HA.out]
    go_wp2_with fail
    refine HL.out.mono ?_
    rintro e w1 ⟨rfl, h9⟩
    have P1 := H.out
    have bA1 := BA.out
    have K1 := K0
    rw [h9] at P1 bA1 K1
    clear h9
    have hpush : ∀ W, Still w1 W → Calls Try.prog 39 #[.pointer (some ⟨l, 0, none⟩), (⟨vi, vg, vd, vt⟩ : FiringV).v] W fun e w' => ∃ b, e = .returned (.pointer (some ⟨b, 0, none⟩)) ∧ w1.heap.size ≤ b ∧ Kept (fun y => s.kd y ≠ 0) w1 w' ∧ ∃ s', LW_f s' w' ∧ (∀ y, y < w1.heap.size → s'.kd y = s.kd y) ∧ s'.sq = upd s.sq l (s.sq l ++ [b]) ∧ LV s' = upd (LV s) b (⟨vi, vg, vd, vt⟩ : FiringV).v := fun W k => by
      have hz := k.size
      refine (oPush_f s W (P1.lw.still k) l (⟨vi, vg, vd, vt⟩ : FiringV) P1.kl (by rw [P1.len]; omega)).mono ?_
      rintro e w2 ⟨rfl, z2, k2, s2, h2, n2, d2, q2, v2⟩
      exact ⟨_, rfl, by omega, (k.mono (fun _ _ f => f.elim)).step k2 (fun _ _ h => h), s2, h2, fun y hy => n2 y (by omega), q2, v2⟩
    have a1 : w1.cell? ⟨p, 1, none⟩ = some (.pointer (some ⟨l, 0, none⟩)) := P1.blk.cell 1
    have g0 : w1.cell? ⟨A, 0, none⟩ = some (.int .u64 vi) := bA1.cell 0
    have g1 : w1.cell? ⟨A, 1, none⟩ = some (.int .u64 vg) := bA1.cell 1
    have g2 : w1.cell? ⟨A, 2, none⟩ = some (.int .u64 vd) := bA1.cell 2
    have g3 : w1.cell? ⟨A, 3, none⟩ = some (.int .u64 vt) := bA1.cell 3
    have HP := Lib.hid hpush
    have CA := Lib.hid bA1.cells
    have CP1 := Lib.hid P1.blk.cells
    have H1 := Lib.hid P1
    clear hpush P1 bA1
    simp only [FiringV.v] at HP
    go_upto_region 7 with fail
    refine wp_region_end ([4], [9, 102]) [p, A] rfl (by kernel_rfl) (by kernel_rfl) (by kernel_rfl) (cellsB_cons CP1.out (cellsB_cons CA.out cellsB_nil)) (by simp [segs, isEff, isLoad, askOps, asks, ptrEq, eqOrNe, isNil]; rfl) ?_
    (repeat ((first | (refine segs_nil ?_) | (refine segs_go (stay_drew) ?_ ?_; focus (simp [isLoad]; done)) | (refine segs_load (stay_drew) ?_ ?_; focus (intro h; first | exact ⟨p, _, rfl, by simp⟩ | exact ⟨A, _, rfl, by simp⟩ | (simp [Region.wanted, yielded, undef] at h; done))) | fail); go_wp2_with fail))
    refine (HP.out _ ((still_refl w1).drewN 1)).mono ?_
    rintro e w2 ⟨b, rfl, hb1, k2, s2, h2, n2, q2, v2⟩
    go_wp2_with fail
    (repeat ((first | (refine segs_nil ?_) | (refine segs_go (stay_drew) ?_ ?_; focus (simp [isLoad]; done)) | (refine segs_load (stay_drew) ?_ ?_; focus (intro h; first | exact ⟨p, _, rfl, by simp⟩ | exact ⟨A, _, rfl, by simp⟩ | (simp [Region.wanted, yielded, undef] at h; done))) | fail); go_wp2_with fail))
    have bp := H1.out.blk.kept k2 (by have := H1.out.sp; omega)
    have hcl := H1.out.ch.lt
    have hch2 := H1.out.ch.kept k2 (by have := H1.out.sc; omega)
    have kl2 : s2.kd l = 1 := (n2 l (H1.out.lw.lists l H1.out.kl).lt).trans H1.out.kl
    have vl2 : valsOf_f s2 (s2.sq l) = ((xs ++ [(⟨vi, vg, vd, vt⟩ : FiringV)]).drop N).map pv_f := by
      rw [q2, upd_same, List.drop_append_of_le_length (by omega), List.map_append, ← H1.out.vals]
      show (s.sq l ++ [b]).map (LV s2) = (s.sq l).map (LV s) ++ _
      rw [List.map_append, v2, List.map_singleton, upd_same]
      congr 1
      exact List.map_congr_left fun y hy => upd_ne _ _ (by have := (H1.out.lw.nodes y (H1.out.lw.inv.mem l y H1.out.kl hy).1).lt; omega)
    have P2 : PW_f s2 w2 p c l N (xs ++ [(⟨vi, vg, vd, vt⟩ : FiringV)]) most false := ⟨bp, by rw [List.take_append_of_le_length (by omega)]; exact hch2, h2, kl2, (n2 p H1.out.blk.lt).trans H1.out.sp, (n2 c hcl).trans H1.out.sc, vl2, H1.out.n1⟩
    have HP2 := Lib.hid P2
    have hll := llen_f s2 w2 h2 l kl2
    have hq2l : (s2.sq l).length = xs.length + 1 - N := by rw [P2.len]; simp
    rw [hq2l] at hll
    obtain ⟨m2, hm2⟩ : ∃ m, m = xs.length + 1 - N := ⟨_, rfl⟩
    rw [← hm2] at hll
    have HM2 := Lib.hid hm2
    have HLL := Lib.hid hll
    have hm2b : m2 < 200000 := by omega
    have d0 : w2.cell? ⟨p, 0, none⟩ = some (.chan (some c)) := bp.cell 0
    have d1 : w2.cell? ⟨p, 1, none⟩ = some (.pointer (some ⟨l, 0, none⟩)) := bp.cell 1
    have d2' : w2.cell? ⟨p, 2, none⟩ = some (.int .i64 most) := bp.cell 2
    have CP := Lib.hid bp.cells
    have fp2 := bp.free 2
    have K2 := Lib.hid k2
    have N2 := Lib.hid n2
    have Q2 := Lib.hid q2
    clear a1 g0 g1 g2 g3 k2 h2 n2 q2 v2 bp hch2 kl2 vl2 P2 hll hq2l hm2 c0' c1' c3' hcl e0 e1 e2 e3
    go_upto_region 8 with fail
    go_cut [] from 32 to 44 (fun wx => ∃ w4, Still w2 w4 ∧ wx = w4.setCell ⟨p, 2, none⟩ (.int .i64 (max most m2 : Nat)))
    case first =>
      as_aux_lemma =>
        by_cases hmx : most < m2
        · have e9 : max most m2 = m2 := by omega
          refine wp_region_end ([4], [9, 35]) [p] rfl (by kernel_rfl) (by kernel_rfl) (by kernel_rfl) (cellsB_cons CP.out cellsB_nil) (by simp [segs, isEff, isLoad, askOps, asks, ptrEq, eqOrNe, isNil]; rfl) ?_
          (repeat ((first | (refine segs_nil ?_) | (refine segs_go (stay_drew) ?_ ?_; focus (simp [isLoad]; done)) | (refine segs_load (stay_drew) ?_ ?_; focus (intro h; first | exact ⟨p, _, rfl, by simp⟩ | (simp [Region.wanted, yielded, undef] at h; done))) | fail); go_wp2_with fail))
          refine ((llen_f s2 _ (HP2.out.lw.still ((still_refl w2).drewN 1)) l HP2.out.kl)).mono ?_
          rintro e w4 ⟨rfl, rfl⟩
          rw [show (s2.sq l).length = m2 by rw [HP2.out.len, HM2.out, List.length_append, List.length_singleton]]
          go_wp2_with fail
          (repeat ((first | (refine segs_nil ?_) | (refine segs_go (stay_drew) ?_ ?_; focus (simp [isLoad]; done)) | (refine segs_load (stay_drew) ?_ ?_; focus (intro h; first | exact ⟨p, _, rfl, by simp⟩ | (simp [Region.wanted, yielded, undef] at h; done))) | fail); go_wp2_with fail))
          go_meet
          case rel => exact ⟨_, (still_refl w2).drewN 1, by rw [e9]⟩
        · have e9 : max most m2 = most := by omega
          refine wp_region_end ([4], [9, 35]) [p] rfl (by kernel_rfl) (by kernel_rfl) (by kernel_rfl) (cellsB_cons CP.out cellsB_nil) (by simp [segs, isEff, isLoad, askOps, asks, ptrEq, eqOrNe, isNil]; rfl) ?_
          (repeat ((first | (refine segs_nil ?_) | (refine segs_go (stay_drew) ?_ ?_; focus (simp [isLoad]; done)) | (refine segs_load (stay_drew) ?_ ?_; focus (intro h; first | exact ⟨p, _, rfl, by simp⟩ | (simp [Region.wanted, yielded, undef] at h; done))) | fail); go_wp2_with fail))
          refine ((llen_f s2 _ (HP2.out.lw.still ((still_refl w2).drewN 1)) l HP2.out.kl)).mono ?_
          rintro e w4 ⟨rfl, rfl⟩
          rw [show (s2.sq l).length = m2 by rw [HP2.out.len, HM2.out, List.length_append, List.length_singleton]]
          go_wp2_with fail
          (repeat ((first | (refine segs_nil ?_) | (refine segs_go (stay_drew) ?_ ?_; focus (simp [isLoad]; done)) | (refine segs_load (stay_drew) ?_ ?_; focus (intro h; first | exact ⟨p, _, rfl, by simp⟩ | (simp [Region.wanted, yielded, undef] at h; done))) | fail); go_wp2_with fail))
          go_meet
          case rel => exact ⟨_, (still_refl w2).drewN 1, by rw [e9]⟩
    case rest =>
      obtain ⟨w4, k4, rfl⟩ := hcut
      have P4 := HP2.out.still k4
      have K4 := Lib.hid k4
      clear k4 d0 d1 d2' fp2 CP
      go_wp2_with fail
      go_ret2
      have k5 : Kept (fun y => y = p) w4 (w4.setCell ⟨p, 2, none⟩ (.int .i64 (max most m2 : Nat))) := Kept.setCell (S := fun y => y = p) (Kept.refl _ _) (fun _ => rfl) _
      have hz1 := K1.out.size
      refine ⟨rfl, (((K1.out.mono (fun _ _ f => f.elim)).step K2.out (fun y hy h9 => .inl h9)).of_still K4.out).step k5 (fun i _ e => .inr (.inl e)), s2, ⟨?_, P4.ch.kept k5 (fun e => P4.pc e.symm), P4.lw.kept k5 (fun x hx e => hx (by have h9 : x = p := e; rw [h9]; exact P4.sp)), P4.kl, P4.sp, P4.sc, P4.vals, P4.n1⟩, fun y hy => N2.out y (by omega)⟩
      rw [← HM2.out]
      exact P4.blk.set' rfl


/-- Put, full or not -/
theorem pput_any_f {s : LS} {p c l N : Nat} {xs : List FiringV} {most : Nat} (w : World) (h : PW_f s w p c l N xs most false) (v : FiringV) (hx : xs.length < 100000) (hm : most < 100000) :
    Calls Try.prog 13 #[.pointer (some ⟨p, 0, none⟩), v.v] w fun e w' => e = .returned (.tuple #[.bool (decide (N ≤ xs.length)), .int .i64 0]) ∧ Kept (fun y => s.kd y ≠ 0 ∨ y = p ∨ y = c) w w' ∧ ∃ s', PW_f s' w' p c l N (xs ++ [v]) (max most (xs.length + 1 - N)) false ∧ (∀ y, y < w.heap.size → s'.kd y = s.kd y) := by
  by_cases hN : N ≤ xs.length
  · rw [decide_eq_true hN]
    exact pput_f w h v hx hm hN
  · rw [decide_eq_false hN]
    refine (pput_room_f w h v (by omega)).mono ?_
    rintro e w1 ⟨rfl, k1, P1⟩
    refine ⟨rfl, k1.mono (fun y _ hy => .inr (.inr hy)), s, ?_, fun _ _ => rfl⟩
    rw [show max most (xs.length + 1 - N) = most by omega]
    exact P1
set_option maxRecDepth 100000 in
set_option maxHeartbeats 2000000 in
theorem ptake_spill_f {s : LS} {p c l N : Nat} {x : FiringV} {rest : List FiringV} {most : Nat} {shut : Bool} (w : World) (h : PW_f s w p c l N (x :: rest) most shut) (hx : rest.length < 100000) (hN : N ≤ rest.length) :
    Calls Try.prog 58 #[.pointer (some ⟨p, 0, none⟩)] w fun e w' => e = .returned (.tuple #[x.v, .int .i64 0]) ∧ Kept (fun y => s.kd y ≠ 0 ∨ y = p ∨ y = c) w w' ∧ ∃ s', PW_f s' w' p c l N rest most shut ∧ s'.kd = s.kd := by
  obtain ⟨w0, hw0⟩ : ∃ w0, w0 = (w.alloc zoF).alloc zoF := ⟨_, rfl⟩
  have k0 : Still w w0 := by rw [hw0]; exact ((still_refl w).alloc _).alloc _
  have h0 := h.still k0
  have c0 : w0.cell? ⟨p, 0, none⟩ = some (.chan (some c)) := h0.blk.cell 0
  have c0' := c0
  rw [hw0] at c0'
  have hwl := hw0
  simp only [zoF] at c0' hwl
  obtain ⟨b1, b2, b3⟩ := buf_head_f x rest h.n1
  obtain ⟨sn, rn, hc⟩ := h0.ch
  obtain ⟨B, hB⟩ : ∃ B, B = (((x :: rest).take N).map pv_f).toArray := ⟨_, rfl⟩
  rw [← hB] at hc b1 b2 b3
  obtain ⟨B', hB'⟩ : ∃ B', B' = ((rest.take (N - 1)).map pv_f).toArray := ⟨_, rfl⟩
  rw [← hB'] at b3
  have k1 : Kept (fun y => y = c) w0 (w0.setChan c N B' false sn (rn + 1) false) := kept_setChan (S := fun y => y = c) (Kept.refl _ _) (fun _ => rfl) _ _ _ _ _ _
  have hc1 : (w0.setChan c N B' false sn (rn + 1) false).heap[c]? = some (.chan N B' false sn (rn + 1) false) := heap_setChan _ _ _ _ _ _ _ _ h0.ch.lt
  have bp1 := h0.blk.kept k1 h0.pc
  have lw1 : LW_f s (w0.setChan c N B' false sn (rn + 1) false) := h0.lw.kept k1 (fun y hy e => hy (by have h9 : y = c := e; rw [h9]; exact h0.sc))
  have hcw : c < w.heap.size := h.ch.lt
  have HPW := Lib.hid h.blk.lt
  have HFR := Lib.hid (h.lw.fresh w.heap.size (Nat.le_refl _))
  obtain ⟨A, hA⟩ : ∃ A, A = w.heap.size := ⟨_, rfl⟩
  have bz0 : Blk w0 A #[.int .u64 0, .int .u64 0, .int .u64 0, .int .u64 0] 40 := by rw [hw0, hA]; exact (Blk.new w _ _).alloc _
  have bz1 := bz0.kept k1 (by show A ≠ c; omega)
  have H := Lib.hid h0
  have HC1 := Lib.hid hc1
  have K1 := Lib.hid (((k0.mono (T := fun y => y = c) (fun _ _ f => f.elim)).step k1 (fun _ _ e => e)))
  have HZ := Lib.hid bz1
  have BP1 := Lib.hid bp1
  have LW1 := Lib.hid lw1
  have HWL := Lib.hid hwl
  have HC := Lib.hid hc
  have hAb : A < w0.heap.size := bz0.lt
  have HA := Lib.hid hA
  have HB' := Lib.hid hB'
  rw [← hA] at HPW HFR
  clear bz0 bz1 bp1 lw1 hc1 k1 h0 hwl hw0 c0 k0 hc hA hB' hB h
  refine calls_of_fin Try.func58 rfl fun cs => ?_
  simp only [Try.ntmps58, List.size_toArray, List.length_cons, List.length_nil, Nat.reduceAdd, Nat.reduceSub, Array.replicate_succ, Array.replicate_zero, List.push_toArray, List.append_toArray, List.nil_append, List.cons_append]
  iterate 4 (refine Fin.seq ?_; refine Fin.code Try.func58 fun K hK => ?_; go_wp2_with fail)
  rw [← HWL.out, ← HA.out]
  refine Fin.seq ?_
  refine Fin.region ?_
  refine Fin.sel_recv rfl rfl (c := c) (z := .agg #[.int .u64 0, .int .u64 0, .int .u64 0, .int .u64 0]) (by simp [go_sem, execOp, rcase, Act.eval]) HC.out b2 ?_
  rw [b1, b3]
  simp only [Act.put, List.setIfInBounds_toArray, List.set_cons_succ, List.set_cons_zero, List.getElem_toArray, List.getElem_cons_zero, List.getElem_cons_succ]
  refine Fin.val (v := .int .i64 0) rfl rfl (by simp [go_sem, execOp, Act.eval, Act.put]) ?_
  simp only [Act.put, List.setIfInBounds_toArray, List.set_cons_succ, List.set_cons_zero, List.getElem_toArray, List.getElem_cons_zero, List.getElem_cons_succ]
  refine Fin.val (v := .bool true) rfl rfl (by simp [go_sem, execOp, Act.eval, Act.put]) ?_
  simp only [Act.put, List.setIfInBounds_toArray, List.set_cons_succ, List.set_cons_zero, List.getElem_toArray, List.getElem_cons_zero, List.getElem_cons_succ]
  refine Fin.rend ?_
  refine Fin.last Try.func58 ?_
  generalize w0.setChan c N B' false sn (rn + 1) false = w1 at *
  clear c0' b1 b2 b3
  obtain ⟨vi, vg, vd, vt⟩ := x
  simp only [FiringV.v]
  obtain ⟨w2, hw2⟩ : ∃ w2, w2 = w1.alloc (.cells #[.int .u64 vi, .int .u64 vg, .int .u64 vd, .int .u64 vt] 40) := ⟨_, rfl⟩
  have k2 : Still w1 w2 := by rw [hw2]; exact (still_refl w1).alloc _
  have b2 : Blk w2 w1.heap.size #[.int .u64 vi, .int .u64 vg, .int .u64 vd, .int .u64 vt] 40 := by rw [hw2]; exact Blk.new _ _ _
  obtain ⟨D, hD⟩ : ∃ D, D = w1.heap.size := ⟨_, rfl⟩
  rw [← hD] at b2
  have lw2 := LW1.out.still k2
  have bp2 := BP1.out.still k2
  have z2 := HZ.out.still k2
  have hc2 : w2.heap[c]? = some (.chan N B' false sn (rn + 1) false) := (k2.block c (lt_of_block HC1.out) (fun f => f)).trans HC1.out
  have hf := lfirst_f s w2 lw2 l H.out.kl
  have hvals := H.out.vals
  have hN1 := H.out.n1
  obtain ⟨M, rfl⟩ : ∃ M, N = M + 1 := ⟨N - 1, by omega⟩
  obtain ⟨v1, more, hm⟩ : ∃ v1 more, rest.drop M = v1 :: more := by
    cases hh : rest.drop M with
    | nil => have := congrArg List.length hh; simp at this; omega
    | cons a b => exact ⟨a, b, rfl⟩
  rw [List.drop_succ_cons, hm] at hvals
  obtain ⟨y, ys, hs⟩ : ∃ y ys, s.sq l = y :: ys := by
    cases hq : s.sq l with
    | nil => rw [hq] at hvals; simp [valsOf_f] at hvals
    | cons y ys => exact ⟨y, ys, rfl⟩
  rw [hs] at hvals hf
  have hvy : (s.nd y).val = v1.v := by have := congrArg (fun l => l.head?) hvals; simpa [valsOf_f] using this
  have hvys : valsOf_f s ys = more.map pv_f := by have := congrArg List.tail hvals; simpa [valsOf_f] using this
  have hym : y ∈ s.sq l := by rw [hs]; simp
  have hky := (H.out.lw.inv.mem l y H.out.kl hym).1
  have hlsq : (s.sq l).length < 200000 := by rw [H.out.len]; simp only [List.length_cons]; omega
  have hun := oUnlink_f s w2 lw2 l y H.out.kl hky (by omega)
  rw [if_pos hym] at hun
  have hf' : Calls Try.prog 74 #[.pointer (some ⟨l, 0, none⟩)] w2 fun e w' => e = .returned (.pointer (some ⟨y, 0, none⟩)) ∧ w2 = w' := hf
  have d1 : w2.cell? ⟨p, 1, none⟩ = some (.pointer (some ⟨l, 0, none⟩)) := bp2.cell 1
  have HUN := Lib.hid hun
  have HS := Lib.hid hs
  have HM := Lib.hid hm
  have HVY := Lib.hid hvy
  have HVYS := Lib.hid hvys
  have HKY := Lib.hid hky
  have HW2 := Lib.hid hw2
  have K2 := Lib.hid k2
  have Z2 := Lib.hid z2
  have B2 := Lib.hid b2
  have BP2 := Lib.hid bp2
  have HC2 := Lib.hid hc2
  have HD := Lib.hid hD
  clear hf hvals hs hm hvy hvys hym hun hky hw2 k2 z2 b2 bp2 lw2 hc2 hD hlsq
  go_upto_region 8 with fail
  rw [← HW2.out, ← HD.out]
  go_wp2_with fail
  refine hf'.mono ?_
  rintro e w3 ⟨rfl, rfl⟩
  go_wp2_with fail
  refine HUN.out.mono ?_
  rintro e w3 ⟨rfl, k3, s3, h3, d3, q3, v3⟩
  have hy3 := h3.nodes y (by rw [d3]; exact HKY.out)
  have e3 : (s3.nd y).val = v1.v := (congrFun v3 y).trans HVY.out
  rw [e3] at hy3
  rw [FC_v0, FC_v1, FC_v2, FC_v3] at hy3
  have g0 : w3.cell? ⟨y, 0, none⟩ = some (.int .u64 v1.id) := hy3.cell 0
  have g1 : w3.cell? ⟨y, 1, none⟩ = some (.int .u64 v1.gen) := hy3.cell 1
  have g2 : w3.cell? ⟨y, 2, none⟩ = some (.int .u64 v1.dl) := hy3.cell 2
  have g3 : w3.cell? ⟨y, 3, none⟩ = some (.int .u64 v1.tick) := hy3.cell 3
  have bp3 := BP2.out.kept k3 (by have := H.out.sp; omega)
  have hc3 := (k3.block c (lt_of_block HC2.out) (by have := H.out.sc; omega)).trans HC2.out
  have hkA : s.kd A = 0 := HFR.out
  have hkD : s.kd D = 0 := by rw [HD.out]; exact LW1.out.fresh _ (Nat.le_refl _)
  have z3 := Z2.out.kept k3 (by omega)
  have b3 := B2.out.kept k3 (by omega)
  have e0 : w3.cell? ⟨p, 0, none⟩ = some (.chan (some c)) := bp3.cell 0
  have hroom : B'.size < M + 1 := by rw [HB'.out]; simp; omega
  have hsend := psend_f w3 p c (M + 1) B' sn (rn + 1) v1 e0 hc3 hroom
  obtain ⟨w4, hw4⟩ : ∃ w4, w4 = (w3.alloc (boxF v1)).setChan c (M + 1) (B'.push v1.v) false (sn + 1) (rn + 1) false := ⟨_, rfl⟩
  have ka : Still w3 (w3.alloc (boxF v1)) := (still_refl w3).alloc _
  have k4 : Kept (fun y => y = c) w3 w4 := by rw [hw4]; exact (ka.mono (T := fun y => y = c) (fun _ _ f => f.elim)).step (kept_setChan (S := fun y => y = c) (Kept.refl _ _) (fun _ => rfl) _ _ _ _ _ _) (fun _ _ e => e)
  have hcl4 : w4.heap[c]? = some (.chan (M + 1) (B'.push v1.v) false (sn + 1) (rn + 1) false) := by rw [hw4]; exact heap_setChan _ _ _ _ _ _ _ _ (Nat.lt_of_lt_of_le (lt_of_block hc3) ka.size)
  rw [← hw4] at hsend
  clear hw4 ka
  have b4 := b3.kept k4 (by have := K1.out.size; have := HD.out; show D ≠ c; omega)
  have z4 := z3.kept k4 (by have := HA.out; show A ≠ c; omega)
  have j0 : w4.cell? ⟨A, 0, none⟩ = some (.int .u64 0) := z4.cell 0
  have j1 : w4.cell? ⟨A, 1, none⟩ = some (.int .u64 0) := z4.cell 1
  have j2 : w4.cell? ⟨A, 2, none⟩ = some (.int .u64 0) := z4.cell 2
  have j3 : w4.cell? ⟨A, 3, none⟩ = some (.int .u64 0) := z4.cell 3
  have i0 : w4.cell? ⟨D, 0, none⟩ = some (.int .u64 vi) := b4.cell 0
  have i1 : w4.cell? ⟨D, 1, none⟩ = some (.int .u64 vg) := b4.cell 1
  have i2 : w4.cell? ⟨D, 2, none⟩ = some (.int .u64 vd) := b4.cell 2
  have i3 : w4.cell? ⟨D, 3, none⟩ = some (.int .u64 vt) := b4.cell 3
  have f0 := z4.free 0
  have f1 := z4.free 1
  have f2 := z4.free 2
  have f3 := z4.free 3
  have HSEND := Lib.hid hsend
  have Z4 := Lib.hid z4
  have HH3 := Lib.hid h3
  have K3 := Lib.hid k3
  have K4 := Lib.hid k4
  have D3 := Lib.hid d3
  have Q3 := Lib.hid q3
  have V3 := Lib.hid v3
  have BP3 := Lib.hid bp3
  have HC4 := Lib.hid hcl4
  clear hsend z4 h3 k3 k4 d3 q3 v3 bp3 hc3 hcl4 hy3 e3 hf' d1 z3 b3 b4 hroom hkA hkD
  obtain ⟨ui, ug, ud, ut⟩ := v1
  simp only [FiringV.v] at HSEND g0 g1 g2 g3
  go_wp2_with fail
  refine HSEND.out.mono ?_
  rintro e w5 ⟨rfl, rfl⟩
  go_wp2_with fail
  obtain ⟨w6, hw6, k6, b6⟩ := boxf_set Z4.out vi vg vd vt
  rw [← hw6]
  have p0 : w6.cell? ⟨A, 0, none⟩ = some (.int .u64 vi) := b6.cell 0
  have p1 : w6.cell? ⟨A, 1, none⟩ = some (.int .u64 vg) := b6.cell 1
  have p2 : w6.cell? ⟨A, 2, none⟩ = some (.int .u64 vd) := b6.cell 2
  have p3 : w6.cell? ⟨A, 3, none⟩ = some (.int .u64 vt) := b6.cell 3
  refine bodyPost_ret (v := .tuple #[.agg #[.int .u64 vi, .int .u64 vg, .int .u64 vd, .int .u64 vt], .int .i64 0]) (by simp [results, Try.f58, go_sem, p0, p1, p2, p3]) rfl ?_
  have hA := HA.out
  have hpA : p ≠ A := fun e => by have := HPW.out; omega
  have hcA : c ≠ A := fun e => by omega
  have hkA : s3.kd A = 0 := by rw [D3.out]; exact HFR.out
  have hlt : M < rest.length := by omega
  have hgM : rest[M]? = some ⟨ui, ug, ud, ut⟩ := by rw [← List.head?_drop, HM.out]; rfl
  have P5 : PW_f s3 w5 p c l (M + 1) rest most shut := ⟨BP3.out.kept K4.out H.out.pc, ⟨sn + 1, rn + 1, by
      rw [HC4.out, HB'.out, Nat.add_sub_cancel, List.take_add_one, hgM]
      simp⟩, HH3.out.kept K4.out (fun z hz e => hz (by have h9 : z = c := e; rw [h9, D3.out]; exact H.out.sc)), by rw [D3.out]; exact H.out.kl, by rw [D3.out]; exact H.out.sp, by rw [D3.out]; exact H.out.sc, by
      rw [Q3.out, upd_same, HS.out, List.erase_cons_head, show rest.drop (M + 1) = more by rw [← List.tail_drop, HM.out]; rfl, ← HVYS.out]
      exact List.map_congr_left fun z _ => congrFun V3.out z, hN1⟩
  refine ⟨rfl, ((((K1.out.mono (T := fun y => s.kd y ≠ 0 ∨ y = p ∨ y = c) (fun _ _ e => .inr (.inr e))).step K2.out (fun _ _ f => f.elim)).step K3.out (fun i _ hi => .inl hi)).step K4.out (fun i _ e => .inr (.inr e))).step k6 (fun i hi e => absurd hi (by omega)), s3, P5.kept k6 ?_, D3.out⟩
  rintro z (h9 | h9 | h9) e
  · exact h9 (by have h8 : z = A := e; rw [h8]; exact hkA)
  · exact hpA (h9 ▸ e)
  · exact hcA (h9 ▸ e)
theorem ptake_any_f {s : LS} {p c l N : Nat} {x : FiringV} {rest : List FiringV} {most : Nat} {shut : Bool} (w : World) (h : PW_f s w p c l N (x :: rest) most shut) (hx : rest.length < 100000) :
    Calls Try.prog 58 #[.pointer (some ⟨p, 0, none⟩)] w fun e w' => e = .returned (.tuple #[x.v, .int .i64 0]) ∧ Kept (fun y => s.kd y ≠ 0 ∨ y = p ∨ y = c) w w' ∧ ∃ s', PW_f s' w' p c l N rest most shut ∧ s'.kd = s.kd := by
  by_cases hN : N ≤ rest.length
  · exact ptake_spill_f w h hx hN
  · refine (ptake_room_f w h (by omega)).mono ?_
    rintro e w1 ⟨rfl, k1, P1⟩
    exact ⟨rfl, k1.mono (fun y _ hy => .inr (.inr hy)), s, P1, rfl⟩
end Go.Proofs.Ytbikganlloopbaa
