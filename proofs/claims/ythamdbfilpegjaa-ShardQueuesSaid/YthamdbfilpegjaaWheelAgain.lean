/-
  What stands here: all of a slot are placed anew. Under no condition but that the world holds the wheel.
-/
import Derived.Test.YthamdbfilpegjaaWheelTake
import Derived.Test.YthamdbfilpegjaaWheelPlace
namespace Go.Proofs.Ythamdbfilpegjaa
set_option linter.unusedVariables false
set_option linter.unusedSimpArgs false
open Go.RowKit Go.Proofs
set_option maxHeartbeats 1000000 in
set_option maxRecDepth 100000 in
theorem wagain_t {s : LS} {v : Nat} {lv : Nat → Nat} {sl : Nat → Nat → Nat} {bd : Nat} {S : WSt} {n l : Nat} (w : World) (h : WB_t s v lv sl bd S [] n w) (hl : l < 4) (hbig : nAll S.pl < 80000) :
    Calls Try.prog 50 #[.pointer (some ⟨v, 0, none⟩), .int .i64 (l : Int)] w fun r w' => r = .returned (.tuple #[]) ∧ ∃ s' S', WB_t s' v lv sl bd S' [] n w' ∧ WSame S S' ∧ S'.pl = agn S.due S.now (tkp S.now l) S.pl ∧ (∀ y, y < w.heap.size → s'.kd y = s.kd y) ∧ Kept (fun y => s.kd y ≠ 0) w w' := by
  have cl : w.cell? ⟨v, 1 + l, none⟩ = some (.pointer (some ⟨lv l, 0, none⟩)) := by
    refine (h.blk.cell (1 + l)).trans ?_
    obtain rfl | rfl | rfl | rfl : l = 0 ∨ l = 1 ∨ l = 2 ∨ l = 3 := by omega
    all_goals rfl
  have c0 : w.cell? ⟨v, 0, none⟩ = some (.int .u64 S.now) := h.blk.cell 0
  have CV := Lib.hid h.blk.cells
  have hnow := h.now
  have H := Lib.hid h
  have HBIG := Lib.hid hbig
  clear h hbig
  go_enter Try.func50, Try.ntmps50
  go_upto_region 0 with fail
  refine wp_region_text ([4], [9, 59, 67]) [v] (by kernel_rfl) (by kernel_rfl) (cellsB_cons CV.out cellsB_nil) (by simp [segs, isEff, isLoad, askOps, asks, ptrEq, eqOrNe, isNil]; rfl) ?_
  (repeat ((first | (refine segs_nil ?_) | (refine segs_go (stay_drew) ?_ ?_; focus (simp [isLoad]; done)) | (refine segs_load (stay_drew) ?_ ?_; focus (intro h; first | exact ⟨v, _, rfl, by simp⟩ | (simp [Region.wanted, yielded, undef] at h; done))) | fail); go_wp2_with fail))
  refine (digit_any _ _ (by omega) _).mono ?_
  rintro r w1 ⟨rfl, k1⟩
  have k1' : Still w w1 := ((Kept.refl _ w).drewN 1).trans k1
  have HS1 := Lib.hid (StayB.stil (ds := [v]) stay_drew (cellsB_cons CV.out cellsB_nil) k1)
  rw [if_pos (by omega)]
  have hdd : dg (S.now : Int) ((l : Int).toNat) = ((dg (S.now : Int) l).toNat : Int) := by unfold dg; rw [Int.toNat_natCast]; omega
  have hdl : (dg (S.now : Int) l).toNat < 64 := by unfold dg; omega
  have HT := Lib.hid (tkp_dg S.now hl)
  rw [hdd]
  clear hdd
  generalize (dg (S.now : Int) l).toNat = D at *
  have H1 := Lib.hid (H.out.still k1')
  go_wp2_with fail
  (repeat ((first | (refine segs_nil ?_) | (refine segs_go (HS1.out) ?_ ?_; focus (simp [isLoad]; done)) | (refine segs_load (HS1.out) ?_ ?_; focus (intro h; first | exact ⟨v, _, rfl, by simp⟩ | (simp [Region.wanted, yielded, undef] at h; done))) | fail); go_wp2_with fail))
  refine (lvtake_t s (lv l) (sl l) D w1 H1.out.lw (H1.out.lev l hl) hdl (by have := H1.out.tot hl; have := HBIG.out; omega)).mono ?_
  rintro r w2 ⟨⟨r, rfl, ho2⟩, k2, s2, l2, b2, kd2, sq2, lv2⟩
  have hq : lq sl bd (tkp S.now l) = sl l D := by rw [HT.out]; exact lq_lev sl bd hl hdl
  have klv : ∀ i, i < 4 → s.kd (lv i) = 4 := fun i hi => (H1.out.lev i hi).kv
  obtain ⟨t1, t2⟩ := H1.out.taken (q0 := tkp S.now l) (tkp_lt _ _) l2 kd2 lv2 (by rw [hq]; exact sq2) k2 (fun y hy h9 => by
      rcases h9 with h9 | h9 | h9
      · omega
      · omega
      · rw [h9, klv l hl] at hy; omega) (fun i hi => by
      by_cases hil : i = l
      · subst hil; exact b2
      · exact (H1.out.lev i hi).carry k2 (by
          rw [klv i hi]; intro h9
          rcases h9 with h9 | h9 | h9
          · cases h9
          · cases h9
          · exact hil (H1.out.linj i l hi hl h9)) (by rw [kd2]) (fun _ _ => by rw [kd2]) (fun j hj => by
            rw [sq2]; exact upd_ne _ _ (fun e9 => by
              have := H1.out.inj (i * 64 + j) (l * 64 + D) (by omega) (by omega) (by rw [lq_lev sl bd hi hj, e9, lq_lev sl bd hl hdl]); omega)))
  have hlen : (s.sq (sl l D)).length = (S.pl (tkp S.now l)).length := by rw [← hq]; exact H.out.len (tkp_lt _ _)
  have hsq : s.sq (sl l D) = (S.pl (tkp S.now l)).map S.node := by rw [← hq]; exact H.out.sq _ (tkp_lt _ _)
  have hrow : VRow (fun b => s2.kd b = 0 ∧ b < w2.heap.size) w2 r (ptrs ((S.pl (tkp S.now l)).map S.node)) := by
    rw [← hsq]
    refine (VRow.of_owns ho2).inside.mono (fun b hb => ⟨?_, hb.2⟩)
    rw [kd2]; exact H1.out.lw.fresh b hb.1
  have hnode : ∀ e, e ∈ S.pl (tkp S.now l) → S.node e < w2.heap.size := fun e he => by
    have := t1.lw.nodes _ (t2 e he).1
    exact Blk.lt this
  rw [List.append_nil] at t1
  have hle : (S.pl (tkp S.now l)).length ≤ nAll S.pl := le_nAll S.pl (tkp_lt _ _)
  have hcnt : nAll (upd S.pl (tkp S.now l) []) + (S.pl (tkp S.now l)).length = nAll S.pl := by have := nAll_upd S.pl (tkp_lt S.now l) []; simpa using this
  have K2 := Lib.hid (show Kept (fun y => s.kd y ≠ 0) w w2 from (lstill_kept k1').trans (k2.mono (fun y _ h9 => by
    rcases h9 with h9 | h9 | h9
    · omega
    · omega
    · rw [h9, klv l hl]; omega)))
  have KD2 := Lib.hid kd2
  obtain ⟨ra, rc, rfl⟩ := hrow.len
  rw [ptrs_len, List.length_map] at hrow ⊢
  generalize hq0 : tkp S.now l = q0 at *
  generalize hes : S.pl q0 = es at *
  generalize hP0 : upd S.pl q0 [] = P0 at *
  have HAG := Lib.hid (show agn S.due S.now (tkp S.now l) S.pl = plAll S.due S.now P0 es by rw [hq0, ← hP0, ← hes]; rfl)
  have T1 := Lib.hid t1
  have T2 := Lib.hid t2
  have ROW := Lib.hid hrow
  have NODE := Lib.hid hnode
  have hsz2 : w.heap.size ≤ w2.heap.size := K2.out.size
  clear t1 t2 hrow hnode ho2 k2 l2 b2 sq2 lv2 hsq hlen hq klv kd2 k1 k1' cl c0
  clear hq0 hes hP0 HT
  have hble := HBIG.out
  have HS2 : StayB [v] w w2 := fun b hb => by
    rw [List.mem_singleton.1 hb]
    exact (show w2.heap[v]? = _ from T1.out.blk).trans (show w.heap[v]? = _ from H.out.blk).symm
  clear HS1
  go_wp2_with fail
  refine segs_go HS2 (by simp [isLoad]) ?_
  go_wp2_with fail
  refine segs_nil ?_
  clear HS2
  go_wp2_with fail
  have hel : es.length ≤ 80000 := by omega
  go_loopw [5, 20] (fun _ i wr => ∃ (j : Nat) (si : LS) (Si : WSt), j ≤ es.length ∧ i = .int .i64 j ∧ WB_t si v lv sl bd Si (es.drop j) n wr ∧ WSame S Si ∧ Si.pl = plAll S.due S.now P0 (es.take j) ∧ (∀ y, y < w2.heap.size → si.kd y = s2.kd y) ∧ (∀ y, y < w2.heap.size → LV si y = LV s2 y) ∧ Kept (fun y => s.kd y ≠ 0) w wr ∧ Kept (fun y => s2.kd y ≠ 0) w2 wr) (fun _ i _ => es.length - (intOf i).toNat)
  case atStart => exact ⟨0, s2, _, Nat.zero_le _, rfl, T1.out, ⟨rfl, rfl, rfl, rfl⟩, rfl, fun _ _ => rfl, fun _ _ => rfl, K2.out, Kept.refl _ _⟩
  case round =>
    obtain ⟨j, si, Si, hj, rfl, hI, hsame, hpl, hkd, hlv, hkw, hk2⟩ := hrel
    have I := Lib.hid hI
    have SAME := Lib.hid hsame
    have PL := Lib.hid hpl
    have KD := Lib.hid hkd
    have LVS := Lib.hid hlv
    have KW := Lib.hid hkw
    have KK := Lib.hid hk2
    have hszr := hk2.size
    clear hI hsame hpl hkd hlv hkw hk2
    by_cases hjl : j < es.length
    · obtain ⟨e, he⟩ : ∃ e, e = es[j] := ⟨_, rfl⟩
      have hem : e ∈ es := by rw [he]; exact List.getElem_mem hjl
      have hrw := ROW.out.keep KK.out (fun b hb _ h9 => h9 hb.1)
      have hc0 := hrw.at_.2.2.2
      rw [ptrs_len, List.length_map] at hc0
      obtain ⟨b, o, rfl, hbl, hbq, hcell⟩ := hc0 (by omega)
      have c1 : wr.cell? ⟨b, o + j, none⟩ = some (.pointer (some ⟨S.node e, 0, none⟩)) := by
        rw [hcell j hjl]
        unfold ptrs
        rw [List.getElem?_map, List.getElem?_map, List.getElem?_eq_getElem hjl, he]; rfl
      obtain ⟨t3, t4⟩ := T2.out e hem
      have hnl := NODE.out e hem
      have hkx : si.kd (S.node e) = 2 := by rw [KD.out _ hnl]; exact t3
      have bX := I.out.lw.nodes _ hkx
      have c2 : wr.cell? ⟨S.node e, 0, none⟩ = some (.pointer (some ⟨e, 0, none⟩)) := (Blk.cell bX 0).trans (by
        show some ((si.nd (S.node e)).val) = _
        have := LVS.out _ hnl
        unfold LV at this t4
        rw [this, t4])
      have hdrop : es.drop j = e :: es.drop (j + 1) := by rw [List.drop_eq_getElem_cons hjl, he]
      have I' := I.out
      rw [hdrop] at I'
      have HI := Lib.hid I'
      have hEJ := Lib.hid he
      have hnl' : nAll Si.pl < 90000 := by
        rw [PL.out, nAll_all, List.length_take]; omega
      have HN := Lib.hid hnl'
      clear t3 t4 hkx bX hdrop I' hc0 hcell hrw he hnl'
      generalize S.node e = x at *
      go_wp2_with fail
      refine (wplace_t wr HI.out HN.out).mono ?_
      rintro r w4 ⟨rfl, s4, S4, b4, sm4, p4, kd4, lv4, k4⟩
      have B4 := Lib.hid b4
      have R4 := Lib.hid (show WSame S S4 ∧ S4.pl = plAll S.due S.now P0 (es.take (j + 1)) ∧ (∀ y, y < w2.heap.size → s4.kd y = s2.kd y) ∧ (∀ y, y < w2.heap.size → LV s4 y = LV s2 y) ∧ Kept (fun y => s.kd y ≠ 0) w w4 ∧ Kept (fun y => s2.kd y ≠ 0) w2 w4 by
        refine ⟨⟨sm4.now.trans SAME.out.now, sm4.due.trans SAME.out.due, sm4.dl.trans SAME.out.dl, sm4.val.trans SAME.out.val⟩, ?_, fun y hy => (kd4 y (by omega)).trans (KD.out y hy), fun y hy => (lv4 y (by omega)).trans (LVS.out y hy), ?_, ?_⟩
        · rw [p4, PL.out, SAME.out.due, SAME.out.now, List.take_succ_eq_append_getElem hjl, plAll_snoc, hEJ.out]
        · exact KW.out.step k4 (fun y hy h9 => by rw [KD.out y (by omega), KD2.out] at h9; exact h9)
        · exact KK.out.step k4 (fun y hy h9 => by rw [KD.out y hy] at h9; exact h9))
      clear b4 sm4 p4 kd4 lv4 k4
      go_wp2_with fail
      go_roundw
      case rel =>
        exact ⟨j + 1, s4, S4, by omega, by go_num, B4.out, R4.out⟩
      case measure => simp [intOf]; omega
    · obtain rfl : j = es.length := by omega
      go_wp2_with fail
      have I9 := I.out
      rw [List.drop_length] at I9
      refine bodyPost_end (results_none rfl _ _ _) rfl ?_
      refine ⟨rfl, si, Si, I9, SAME.out, ?_, fun y hy => (KD.out y (by omega)).trans (by rw [KD2.out]), KW.out⟩
      rw [PL.out, List.take_length]
      exact HAG.out.symm

end Go.Proofs.Ythamdbfilpegjaa
