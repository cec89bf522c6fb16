/-
  What stands here: an entry is placed. Under no condition but that the world holds the wheel.
-/
import Derived.Test.YthamdbfilpegjaaWheelNode
import Derived.Deep.CutRange
import Derived.Deep.CutBlock
import Derived.Deep.RegionWith
namespace Go.Proofs.Ythamdbfilpegjaa
set_option linter.unusedVariables false
set_option linter.unusedSimpArgs false
open Go.RowKit Go.Proofs
set_option maxHeartbeats 1000000 in
set_option maxRecDepth 100000 in
theorem wplace_t {s : LS} {v : Nat} {lv : Nat → Nat} {sl : Nat → Nat → Nat} {bd : Nat} {S : WSt} {L : List Nat} {n : Nat} {e : Nat} (w : World) (h : WB_t s v lv sl bd S (e :: L) n w) (hbig : nAll S.pl < 90000) :
    Calls Try.prog 47 #[.pointer (some ⟨v, 0, none⟩), .pointer (some ⟨e, 0, none⟩)] w fun r w' => r = .returned (.tuple #[]) ∧ ∃ s' S', WB_t s' v lv sl bd S' L n w' ∧ WSame S S' ∧ S'.pl = putAt S.pl (plc (S.due e) S.now) e ∧ (∀ y, y < w.heap.size → s'.kd y = s.kd y) ∧ (∀ y, y < w.heap.size → LV s' y = LV s y) ∧ Kept (fun y => s.kd y ≠ 0) w w' := by
  obtain ⟨ke, be, hdue, hnot⟩ := h.hang e (by simp)
  have he2 : w.cell? ⟨e, 6, none⟩ = some (.int .u64 (S.due e)) := Blk.cell be 6
  have hv0 : w.cell? ⟨v, 0, none⟩ = some (.int .u64 S.now) := h.blk.cell 0
  have CE := Lib.hid (Blk.cells be)
  have CV := Lib.hid h.blk.cells
  have f4 := Blk.free be 8
  have hel := Blk.lt be
  have H := Lib.hid h
  have hnow := h.now
  have HBIG := Lib.hid hbig
  clear h hbig
  go_enter Try.func47, Try.ntmps47
  go_upto_region 0 with fail
  refine wp_region_end ([4], [9, 59, 67]) [e, v] rfl (by kernel_rfl) (by kernel_rfl) (by kernel_rfl) (cellsB_cons CE.out (cellsB_cons CV.out cellsB_nil)) (by simp [segs, isEff, isLoad, askOps, asks, ptrEq, eqOrNe, isNil]; rfl) ?_
  (repeat ((first | (refine segs_nil ?_) | (refine segs_go (stay_drew) ?_ ?_; focus (simp [isLoad]; done)) | (refine segs_load (stay_drew) ?_ ?_; focus (intro h; first | exact ⟨e, _, rfl, by simp⟩ | exact ⟨v, _, rfl, by simp⟩ | (simp [Region.wanted, yielded, undef] at h; done))) | fail); go_wp2_with fail))
  refine (apart_any _ _ (by omega) (by omega) _).mono ?_
  rintro r w1 ⟨k, hk, rfl, k1⟩
  have HS1 := Lib.hid (StayB.stil (ds := [e, v]) stay_drew (cellsB_cons CE.out (cellsB_cons CV.out cellsB_nil)) k1)
  have H1 := Lib.hid ((H.out.still ((still_refl w).drewN 1)).still k1)
  have hk0 := hk.1
  have hk1 := hk.2.1
  have HK := Lib.hid hk
  clear hk f4 he2 hv0
  have be1 : Blk w1 e _ _ := (H1.out.hang e (by simp)).2.1
  have f4 := be1.free 8
  have bx : Blk ((w1.setCell ⟨e, 8, none⟩ (.int .i64 (max 0 k))).alloc (.cells #[ptrN e, .pointer none, .pointer none, .pointer none] 114)) e (ecl_t (S.dl e) (S.val e) (S.due e) (ptrN v) (max 0 k) (S.slot e) (S.nv e)) 105 := Blk.alloc (Blk.set' be1 rfl) _
  have f6 := bx.free 10
  have c4 := be1.cell 8
  have c6 := bx.cell 10
  obtain ⟨w3, hw3⟩ : ∃ w3, w3 = ((w1.setCell ⟨e, 8, none⟩ (.int .i64 (max 0 k))).alloc (.cells #[.pointer (some ⟨e, 0, none⟩), .pointer none, .pointer none, .pointer none] 114)).setCell ⟨e, 10, none⟩ (.pointer (some ⟨w1.heap.size, 0, none⟩)) := ⟨_, rfl⟩
  have HW3 := Lib.hid hw3
  have H3 := Lib.hid (H1.out.made (a := max 0 k) rfl rfl hw3)
  have KW := Lib.hid (show Kept (fun y => y = e) w w3 by
    rw [hw3]
    exact Kept.setCell (S := fun y => y = e) (Kept.alloc (Kept.setCell (S := fun y => y = e) (Kept.of_still (S := fun y => y = e) ((Kept.refl _ w).drewN 1) k1) (fun _ => rfl) _) _) (fun _ => rfl) _)
  have KX := Lib.hid (H1.out.lw.fresh w1.heap.size (by omega))
  have hx1 : w.heap.size ≤ w1.heap.size := k1.size
  clear hw3
  clear be1 bx
  go_wp2_with fail
  (repeat ((first | (refine segs_nil ?_) | (refine segs_go (HS1.out) ?_ ?_; focus (simp [isLoad]; done)) | (refine segs_load (HS1.out) ?_ ?_; focus (intro h; first | exact ⟨e, _, rfl, by simp⟩ | exact ⟨v, _, rfl, by simp⟩ | (simp [Region.wanted, yielded, undef] at h; done))) | fail); go_upto_region 1 with fail))
  go_upto_region 2 with fail
  rw [← HW3.out]
  generalize w1.heap.size = x at *
  obtain ⟨m, hm⟩ : ∃ m, m = max 0 k := ⟨_, rfl⟩
  rw [← hm] at H3 ⊢
  obtain ⟨S1, hS1⟩ : ∃ S1 : WSt, S1 = { S with node := upd S.node e x, lev := upd S.lev e m, nv := upd S.nv e (ptrN x) } := ⟨_, rfl⟩
  obtain ⟨s1, hs1⟩ : ∃ s1 : LS, s1 = s.node x (ptrN e) := ⟨_, rfl⟩
  rw [← hS1, ← hs1] at H3
  have q1 : S1.lev e = m := by rw [hS1]; exact upd_same _ _ _
  have q2 : S1.node e = x := by rw [hS1]; exact upd_same _ _ _
  have q3 : S1.nv e = ptrN x := by rw [hS1]; exact upd_same _ _ _
  have Q3 := Lib.hid (show WSame S S1 by rw [hS1]; exact ⟨rfl, rfl, rfl, rfl⟩)
  have Q4 := Lib.hid (show S1.pl = S.pl by rw [hS1])
  have Q5 := Lib.hid (show s1.kd x = 2 by rw [hs1]; exact upd_same _ _ _)
  have Q6 := Lib.hid (show LV s1 = upd (LV s) x (ptrN e) by rw [hs1]; exact LS.node_val _ _ _)
  have Q7 := Lib.hid (show ∀ y, y ≠ x → s1.kd y = s.kd y from fun y hy => by rw [hs1]; exact upd_ne _ _ hy)
  have Q8 := Lib.hid (show s1.sq = s.sq by rw [hs1]; rfl)
  have Q9 := Lib.hid (show ∀ l', s1.kd l' = 1 → x ∉ s1.sq l' from fun l' h1 h2 => by
    have := (H3.out.lw.inv.mem l' x h1 h2)
    rw [Q8.out] at h2
    have hl' : l' ≠ x := fun e9 => by rw [e9, Q5.out] at h1; cases h1
    rw [Q7.out l' hl'] at h1
    have := (H1.out.lw.inv.mem l' x h1 h2).1
    rw [KX.out] at this; cases this)
  have be3 : Blk w3 e (ecl_t (S1.dl e) (S1.val e) (S1.due e) (ptrN v) m (S1.slot e) (ptrN x)) 105 := by
    have := (H3.out.hang e (by simp)).2.1
    unfold EB_t at this
    rwa [q1, q3] at this
  have c4 : w3.cell? ⟨e, 8, none⟩ = some (.int .i64 m) := be3.cell 8
  have c6 : w3.cell? ⟨e, 10, none⟩ = some (.pointer (some ⟨x, 0, none⟩)) := be3.cell 10
  have c2 : w3.cell? ⟨e, 6, none⟩ = some (.int .u64 (S1.due e)) := be3.cell 6
  have C3E := Lib.hid be3.cells
  have C3V := Lib.hid H3.out.blk.cells
  have hdue1 := (H3.out.hang e (by simp)).2.2.1
  have B3 := Lib.hid be3
  have KE := Lib.hid (H3.out.hang e (by simp)).1
  have QN := Lib.hid hS1
  have QS := Lib.hid hs1
  have APART := Lib.hid (plc_apart HK.out)
  have hm0 : 0 ≤ m := by omega
  have hm10 : m ≤ 10 := by omega
  rw [← hm] at APART
  have HM := Lib.hid hm
  clear f4 f6 HW3 be3 hm hk0 hk1 HK H1 H CE CV HS1 hS1 hs1 hdue
  by_cases hb : 4 ≤ m
  · have c2v : w3.cell? ⟨v, 5, none⟩ = some (.pointer (some ⟨bd, 0, none⟩)) := H3.out.blk.cell 5
    go_upto_region 3 with fail
    refine wp_region_end ([4], [9, 59, 67]) [e, v] rfl (by kernel_rfl) (by kernel_rfl) (by kernel_rfl) (cellsB_cons C3E.out (cellsB_cons C3V.out cellsB_nil)) (by simp [segs, isEff, isLoad, askOps, asks, ptrEq, eqOrNe, isNil]; rfl) ?_
    (repeat ((first | (refine segs_nil ?_) | (refine segs_go (stay_drew) ?_ ?_; focus (simp [isLoad]; done)) | (refine segs_load (stay_drew) ?_ ?_; focus (intro h; first | exact ⟨e, _, rfl, by simp⟩ | exact ⟨v, _, rfl, by simp⟩ | (simp [Region.wanted, yielded, undef] at h; done))) | fail); go_wp2_with fail))
    refine (kPut_t s1 _ (H3.out.lw.still ((still_refl w3).drewN 1)) bd x (by have := H3.out.kl 256 (by omega); rwa [lq_bd] at this) Q5.out Q9.out (by have := H3.out.len (q := 256) (by omega); rw [lq_bd] at this; rw [this, Q4.out]; have := le_nAll S.pl (q := 256) (by omega); have := HBIG.out; omega)).mono ?_
    rintro r w4 ⟨rfl, k4, s4, l4, kd4, sq4, lv4⟩
    have k4' : Kept (fun y => s1.kd y = 1 ∨ s1.kd y = 2) w3 w4 := ((Kept.refl _ w3).drewN 1).trans k4
    have hex : e ≠ x := by omega
    have hT : ∀ y, s1.kd y = 5 ∨ (s1.kd y = 6 ∧ y ≠ e) → ¬ (s1.kd y = 1 ∨ s1.kd y = 2) := fun y hy => by omega
    have be4 : Blk w4 e (ecl_t (S1.dl e) (S1.val e) (S1.due e) (ptrN v) m (S1.slot e) (ptrN x)) 105 := B3.out.kept k4' (by rw [KE.out]; omega)
    have F := Lib.hid (H3.out.turn (q0 := 256) (sn := S1.slot e) (by omega) l4 kd4 lv4 (by rw [lq_bd, q2]; exact sq4) k4' hT (fun i hi => (H3.out.lev i hi).carry k4' (by rw [(H3.out.lev i hi).kv]; omega) (by rw [kd4]) (fun _ _ => by rw [kd4]) (fun j hj => by
      rw [sq4]; exact upd_ne _ _ (fun e9 => by
        have := H3.out.inj (i * 64 + j) 256 (by omega) (by omega) (by rw [lq_lev sl bd hi hj, e9, lq_bd]); omega)))
      (by unfold EB_t; show Blk w4 e (ecl_t (S1.dl e) (S1.val e) (S1.due e) (ptrN v) (S1.lev e) (upd S1.slot e (S1.slot e) e) (S1.nv e)) _; rw [upd_same, q1, q3]; exact be4)
      (by rw [q2]; exact Q5.out) (by rw [q2, Q6.out, upd_same]) (by rw [q3, q2]) (by rw [q1]; exact hm0) (fun _ => by rw [q1]; exact hb) (fun h9 => by omega))
    have G := Lib.hid (show (∀ y, y < w.heap.size → s4.kd y = s.kd y) ∧ (∀ y, y < w.heap.size → LV s4 y = LV s y) ∧ Kept (fun y => s.kd y ≠ 0) w w4 by
      refine ⟨fun y hy => by rw [kd4, Q7.out y (by omega)], fun y hy => by rw [lv4, Q6.out, upd_ne _ _ (by omega)], ?_⟩
      have hk1 : s.kd e ≠ 0 := by rw [← Q7.out e hex, KE.out]; omega
      exact (KW.out.mono (fun y _ hy => by rw [hy]; exact hk1)).step k4' (fun y hy h9 => by rw [Q7.out y (by omega)] at h9; omega))
    clear k4 k4' l4 kd4 sq4 lv4 be4
    go_wp2_with fail
    refine bodyPost_ret (results_none rfl _ _ _) rfl ?_
    exact ⟨rfl, s4, _, F.out, ⟨Q3.out.now, Q3.out.due, Q3.out.dl, Q3.out.val⟩, by rw [APART.out.1 hb, ← Q4.out], G.out⟩
  · have hm4 : m < 4 := by omega
    obtain ⟨l, rfl⟩ : ∃ l : Nat, m = (l : Int) := ⟨m.toNat, by omega⟩
    have hl4 : l < 4 := by omega
    have f5 := B3.out.free 9
    go_upto_region 4 with fail
    refine wp_region_end ([4], [9, 59, 67]) [e, v] rfl (by kernel_rfl) (by kernel_rfl) (by kernel_rfl) (cellsB_cons C3E.out (cellsB_cons C3V.out cellsB_nil)) (by simp [segs, isEff, isLoad, askOps, asks, ptrEq, eqOrNe, isNil]; rfl) ?_
    (repeat ((first | (refine segs_nil ?_) | (refine segs_go (stay_drew) ?_ ?_; focus (simp [isLoad]; done)) | (refine segs_load (stay_drew) ?_ ?_; focus (intro h; first | exact ⟨e, _, rfl, by simp⟩ | exact ⟨v, _, rfl, by simp⟩ | (simp [Region.wanted, yielded, undef] at h; done))) | fail); go_wp2_with fail))
    refine (digit_any _ _ (by omega) _).mono ?_
    rintro r w4 ⟨rfl, k4⟩
    have k4' : Still w3 w4 := ((Kept.refl _ w3).drewN 1).trans k4
    have HS4 := Lib.hid (StayB.stil (ds := [e, v]) stay_drew (cellsB_cons C3E.out (cellsB_cons C3V.out cellsB_nil)) k4)
    rw [if_pos (by omega)]
    have hdd : dg (S1.due e) ((l : Int).toNat) = ((dg (S1.due e) l).toNat : Int) := by unfold dg; rw [Int.toNat_natCast]; omega
    have hdl : (dg (S1.due e) l).toNat < 64 := by unfold dg; omega
    have HD := Lib.hid hdd
    rw [hdd]
    clear hdd
    generalize (dg (S1.due e) l).toNat = D at *
    have be4 : Blk w4 e (ecl_t (S1.dl e) (S1.val e) (S1.due e) (ptrN v) l (S1.slot e) (ptrN x)) 105 := B3.out.still k4'
    have f5 := be4.free 9
    have g5 := be4.cell 9
    have be5 : Blk (w4.setCell ⟨e, 9, none⟩ (.int .i64 D)) e (ecl_t (S1.dl e) (S1.val e) (S1.due e) (ptrN v) l D (ptrN x)) 105 := Blk.set' be4 rfl
    obtain ⟨w5, hw5⟩ : ∃ w5, w5 = w4.setCell ⟨e, 9, none⟩ (.int .i64 D) := ⟨_, rfl⟩
    rw [← hw5] at be5
    have HW5 := Lib.hid hw5
    have k5 : Kept (fun y => y = e) w3 w5 := by rw [hw5]; exact Kept.setCell (S := fun y => y = e) (Kept.of_still (S := fun y => y = e) (Kept.refl _ w3) k4') (fun _ => rfl) _
    have BV5 := H3.out.blk.kept k5 (fun e9 => by have := KE.out; rw [← e9, H3.out.kv] at this; omega)
    have LV5 := Lib.hid (H3.out.lw.kept3 k5 (fun y hy e9 => by rw [e9, KE.out] at hy; omega))
    have LB5 := Lib.hid (show ∀ i, i < 4 → LvB_t s1 (lv i) (sl i) w5 from fun i hi => (H3.out.lev i hi).carry k5 (fun e9 => by have := KE.out; rw [← e9, (H3.out.lev i hi).kv] at this; omega) rfl (fun _ _ => rfl) (fun _ _ => rfl))
    have K5 := Lib.hid k5
    clear k4 k4' hw5 k5 c2 c4 c6
    go_wp2_with fail
    (repeat ((first | (refine segs_nil ?_) | (refine segs_go (HS4.out) ?_ ?_; focus (simp [isLoad]; done)) | (refine segs_load (HS4.out) ?_ ?_; focus (intro h; first | exact ⟨e, _, rfl, by simp⟩ | exact ⟨v, _, rfl, by simp⟩ | (simp [Region.wanted, yielded, undef] at h; done))) | fail); go_upto_region 5 with fail))
    rw [← HW5.out]
    have C5E := Lib.hid be5.cells
    have C5V := Lib.hid BV5.cells
    have c4 : w5.cell? ⟨e, 8, none⟩ = some (.int .i64 l) := be5.cell 8
    have c5 : w5.cell? ⟨e, 9, none⟩ = some (.int .i64 D) := be5.cell 9
    have c6 : w5.cell? ⟨e, 10, none⟩ = some (.pointer (some ⟨x, 0, none⟩)) := be5.cell 10
    have cl : w5.cell? ⟨v, 1 + l, none⟩ = some (.pointer (some ⟨lv l, 0, none⟩)) := by
      refine (BV5.cell (1 + l)).trans ?_
      obtain rfl | rfl | rfl | rfl : l = 0 ∨ l = 1 ∨ l = 2 ∨ l = 3 := by omega
      all_goals rfl
    have B5 := Lib.hid be5
    have BV := Lib.hid BV5
    clear f5 g5 be5 BV5
    clear HW5
    refine wp_region_end ([4], [9, 59, 67]) [e, v] rfl (by kernel_rfl) (by kernel_rfl) (by kernel_rfl) (cellsB_cons C5E.out (cellsB_cons C5V.out cellsB_nil)) (by simp [segs, isEff, isLoad, askOps, asks, ptrEq, eqOrNe, isNil]; rfl) ?_
    (repeat ((first | (refine segs_nil ?_) | (refine segs_go (stay_drew) ?_ ?_; focus (simp [isLoad]; done)) | (refine segs_load (stay_drew) ?_ ?_; focus (intro h; first | exact ⟨e, _, rfl, by simp⟩ | exact ⟨v, _, rfl, by simp⟩ | (simp [Region.wanted, yielded, undef] at h; done))) | fail); go_wp2_with fail))
    have hq0 : l * 64 + D < 257 := by omega
    have hlqD : lq sl bd (l * 64 + D) = sl l D := lq_lev sl bd hl4 hdl
    refine (lvput_t s1 (lv l) (sl l) D x _ (LV5.out.still ((still_refl w5).drewN 1)) ((LB5.out l hl4).still ((still_refl w5).drewN 1)) hdl Q5.out Q9.out (by have := H3.out.tot hl4; rw [Q4.out] at this; have := HBIG.out; omega)).mono ?_
    rintro r w6 ⟨rfl, k6, s6, l6, b6, kd6, sq6, lv6⟩
    have k6' : Kept (fun y => s1.kd y = 1 ∨ s1.kd y = 2 ∨ y = lv l) w5 w6 := ((Kept.refl _ w5).drewN 1).trans k6
    have hex : e ≠ x := by omega
    have klv : ∀ i, i < 4 → s1.kd (lv i) = 4 := fun i hi => (H3.out.lev i hi).kv
    have kT : Kept (fun y => y = e ∨ s1.kd y = 1 ∨ s1.kd y = 2 ∨ y = lv l) w3 w6 := (K5.out.mono (fun y _ hy => .inl hy)).step k6' (fun y _ hy => .inr hy)
    have hT : ∀ y, s1.kd y = 5 ∨ (s1.kd y = 6 ∧ y ≠ e) → ¬ (y = e ∨ s1.kd y = 1 ∨ s1.kd y = 2 ∨ y = lv l) := fun y hy h9 => by
      rcases h9 with h9 | h9 | h9 | h9
      · rcases hy with hy | hy
        · rw [h9, KE.out] at hy; cases hy
        · exact hy.2 h9
      · omega
      · omega
      · have := klv l hl4
        rw [← h9] at this; omega
    have be6 : Blk w6 e (ecl_t (S1.dl e) (S1.val e) (S1.due e) (ptrN v) l D (ptrN x)) 105 := B5.out.kept k6' (by
      rw [KE.out]; intro h9
      rcases h9 with h9 | h9 | h9
      · cases h9
      · cases h9
      · have := klv l hl4
        rw [← h9, KE.out] at this; cases this)
    have F := Lib.hid (H3.out.turn (q0 := l * 64 + D) (sn := (D : Int)) hq0 l6 kd6 lv6 (by rw [hlqD, q2]; exact sq6) kT hT (fun i hi => by
      by_cases hil : i = l
      · subst hil; exact b6
      · exact (LB5.out i hi).carry k6' (by
          rw [klv i hi]; intro h9
          rcases h9 with h9 | h9 | h9
          · cases h9
          · cases h9
          · exact hil (H3.out.linj i l hi hl4 h9)) (by rw [kd6]) (fun _ _ => by rw [kd6]) (fun j hj => by
            rw [sq6]; exact upd_ne _ _ (fun e9 => by
              have := H3.out.inj (i * 64 + j) (l * 64 + D) (by omega) (by omega) (by rw [lq_lev sl bd hi hj, e9, hlqD]); omega)))
      (by unfold EB_t; show Blk w6 e (ecl_t (S1.dl e) (S1.val e) (S1.due e) (ptrN v) (S1.lev e) (upd S1.slot e (D : Int) e) (S1.nv e)) _; rw [upd_same, q1, q3]; exact be6)
      (by rw [q2]; exact Q5.out) (by rw [q2, Q6.out, upd_same]) (by rw [q3, q2]) (by rw [q1]; exact hm0) (fun h9 => by omega) (fun _ => by rw [q1]; omega))
    have G := Lib.hid (show (∀ y, y < w.heap.size → s6.kd y = s.kd y) ∧ (∀ y, y < w.heap.size → LV s6 y = LV s y) ∧ Kept (fun y => s.kd y ≠ 0) w w6 by
      refine ⟨fun y hy => by rw [kd6, Q7.out y (by omega)], fun y hy => by rw [lv6, Q6.out, upd_ne _ _ (by omega)], ?_⟩
      have hk1 : s.kd e ≠ 0 := by rw [← Q7.out e hex, KE.out]; omega
      refine (KW.out.mono (fun y _ hy => by rw [hy]; exact hk1)).step kT (fun y hy h9 => ?_)
      rw [← Q7.out y (by omega)]
      rcases h9 with h9 | h9 | h9 | h9
      · rw [h9, KE.out]; omega
      · omega
      · omega
      · rw [h9, klv l hl4]; omega)
    have hpl : plc (S.due e) S.now = l * 64 + D := by
      have h9 := APART.out.2 hm4
      rw [← Q3.out.due, ← Q3.out.now]
      rw [← Q3.out.due] at h9
      have hdd := HD.out
      rw [hdd, ← Q3.out.now] at h9
      omega
    clear k6 k6' l6 b6 kd6 sq6 lv6 be6 kT hT
    go_wp2_with fail
    refine bodyPost_end (results_none rfl _ _ _) rfl ?_
    exact ⟨rfl, s6, _, F.out, ⟨Q3.out.now, Q3.out.due, Q3.out.dl, Q3.out.val⟩, by rw [hpl, ← Q4.out], G.out⟩

end Go.Proofs.Ythamdbfilpegjaa
