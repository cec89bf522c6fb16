/-
  What stands here: a wheel advances. Under no condition but that the world holds it.
-/
import Derived.Test.YthamdbfilpegjaaWheelAgain
namespace Go.Proofs.Ythamdbfilpegjaa
set_option linter.unusedVariables false
set_option linter.unusedSimpArgs false
open Go.RowKit Go.Proofs
/-- what an advance leaves -/
structure WGo_t (s s' : LS) (v : Nat) (lv : Nat → Nat) (sl : Nat → Nat → Nat) (bd : Nat) (S S' : WSt) (n : Nat) (w w' : World) : Prop where
  wb : WB_t s' v lv sl bd S' [] n w'
  same : WSame S S'
  kd : ∀ y, y < w.heap.size → s'.kd y = s.kd y
  kept : Kept (fun y => s.kd y ≠ 0) w w'
set_option maxHeartbeats 1000000 in
set_option maxRecDepth 100000 in
theorem wadv_over_t {s : LS} {v : Nat} {lv : Nat → Nat} {sl : Nat → Nat → Nat} {bd : Nat} {S : WSt} {n : Nat} (w : World) (h : WB_t s v lv sl bd S [] n w) (ho : S.now = 18446744073709551615) :
    Calls Try.prog 28 #[.pointer (some ⟨v, 0, none⟩)] w fun r w' => r = .returned (.tuple #[.slice none 0 0, .int .i64 9]) ∧ Still w w' := by
  have c0 : w.cell? ⟨v, 0, none⟩ = some (.int .u64 S.now) := h.blk.cell 0
  rw [ho] at c0
  have hV : addV 18446744073709551615 1 = 0 := by unfold addV; rw [if_neg (by omega)]
  have hE : addE 18446744073709551615 1 = 9 := by unfold addE; rw [if_neg (by omega)]
  have hc := add_any 18446744073709551615 1 (by omega) (by omega)
  rw [hV, hE] at hc
  clear h ho
  go_enter Try.func28, Try.ntmps28
  go_wp2_with fail
  refine (hc _).mono ?_
  rintro e w1 ⟨rfl, k1⟩
  go_wp2_with fail
  go_ret2
  exact ⟨rfl, k1⟩
set_option maxHeartbeats 1000000 in
set_option maxRecDepth 100000 in
theorem wadv_t {s : LS} {v : Nat} {lv : Nat → Nat} {sl : Nat → Nat → Nat} {bd : Nat} {S : WSt} (w : World) (h : WB_t s v lv sl bd S [] (nAll S.pl) w) (hbig : nAll S.pl < 80000) (ho : S.now < 18446744073709551615) :
    Calls Try.prog 28 #[.pointer (some ⟨v, 0, none⟩)] w fun r w' => ∃ s' S' R, r = .returned (.tuple #[R, .int .i64 0]) ∧ WGo_t s s' v lv sl bd { S with now := S.now + 1 } S' (nAll (restOf S.due (S.now + 1) S.pl)) w w' ∧ S'.pl = restOf S.due (S.now + 1) S.pl ∧ VRow (fun b => w.heap.size ≤ b ∧ s'.kd b = 0) w' R (ptrs (outOf S.due (S.now + 1) S.pl)) ∧ ∀ e, e ∈ outOf S.due (S.now + 1) S.pl → s'.kd e = 6 := by
  have c0 : w.cell? ⟨v, 0, none⟩ = some (.int .u64 S.now) := h.blk.cell 0
  have f0 := h.blk.free 0
  obtain ⟨N, hN⟩ : ∃ N, N = S.now + 1 := ⟨_, rfl⟩
  rw [← hN]
  have hN64 : N < 18446744073709551616 := by omega
  have hV : addV S.now 1 = (N : Int) := by unfold addV; rw [if_pos (by omega)]; omega
  have hE : addE S.now 1 = 0 := by unfold addE; rw [if_pos (by omega)]
  have hc := add_any S.now 1 (by omega) (by omega)
  rw [hV, hE] at hc
  have HC := Lib.hid hc
  have HN := Lib.hid hN
  have H := Lib.hid h
  have HBIG := Lib.hid hbig
  clear h hc hV hE hbig f0 hN ho
  go_enter Try.func28, Try.ntmps28
  go_wp2_with fail
  refine (HC.out _).mono ?_
  rintro e w1 ⟨rfl, k1⟩
  have H1 := H.out.still k1
  have c0 : w1.cell? ⟨v, 0, none⟩ = some (.int .u64 S.now) := H1.blk.cell 0
  have f0 := H1.blk.free 0
  obtain ⟨w2, hw2⟩ : ∃ w2, w2 = w1.setCell ⟨v, 0, none⟩ (.int .u64 (N : Int)) := ⟨_, rfl⟩
  have HW2 := Lib.hid hw2
  have H2 := Lib.hid (H1.setNow (a := N) hN64 hw2)
  have K2 := Lib.hid (show Kept (fun y => s.kd y ≠ 0) w w2 by
    rw [hw2]
    exact Kept.setCell (S := fun y => s.kd y ≠ 0) (lstill_kept k1) (fun _ => by show s.kd v ≠ 0; rw [H.out.kv]; decide) _)
  clear H1 k1 hw2
  go_wp2_with (refine (zeros_any _ (by omega) _).mono ?_)
  rw [← HW2.out]
  clear HW2 f0 c0
  rintro e w3 ⟨z, hz, rfl, bel3⟩
  have k3 : Still w2 w3 := ⟨bel3.os, bel3.tape, bel3.output, bel3.size, fun k hk _ => bel3.block k hk⟩
  have H3 := Lib.hid (H2.out.still k3)
  have K3 := Lib.hid (K2.out.of_still k3)
  have HZ := Lib.hid hz
  have hz11 := hz.1
  clear H2 K2 k3 bel3 hz
  obtain ⟨b, hb⟩ : ∃ b, decide (4 ≤ z) = b := ⟨_, rfl⟩
  have hb' : decide (4 ≤ (z : Int)) = b := by rw [← hb, decide_eq_decide]; omega
  go_upto_if 33 with fail
  go_cut [8] from 33 to 47 (fun _ wx => ∃ s' S', WGo_t s s' v lv sl bd { S with now := N } S' (nAll S.pl) w wx ∧ S'.pl = stg S.due N S.pl 1)
  case first =>
    by_cases h4 : 4 ≤ z
    · have hbt : b = true := by rw [← hb]; exact decide_eq_true h4
      have htk : tkd N 4 = true := by rw [zeros_tkd HZ.out (by omega) (by omega)]; exact decide_eq_true h4
      have HTK := Lib.hid htk
      clear hb hb' htk
      subst hbt
      have c5 : w3.cell? ⟨v, 5, none⟩ = some (.pointer (some ⟨bd, 0, none⟩)) := H3.out.blk.cell 5
      have kbd : s.kd bd = 1 := by have := H.out.kl 256 (by omega); rwa [lq_bd] at this
      have hsq : s.sq bd = (S.pl 256).map S.node := by have := H.out.sq 256 (by omega); rwa [lq_bd] at this
      have hle : (S.pl 256).length ≤ nAll S.pl := le_nAll S.pl (by omega)
      have hval : ∀ e, e ∈ S.pl 256 → LV s (S.node e) = ptrN e := fun e he => (H.out.ent 256 e (by omega) he).2.2.2.1
      have HSQ := Lib.hid hsq
      have HVAL := Lib.hid hval
      have hbl := HBIG.out
      have KBD := Lib.hid kbd
      clear hval kbd
      go_wp2_with fail
      refine (ldrain_t s w3 H3.out.lw bd KBD.out (by rw [hsq, List.length_map]; omega) (fun x hx => by
        rw [hsq] at hx
        obtain ⟨e, he, rfl⟩ := List.mem_map.1 hx
        exact ⟨_, HVAL.out e he⟩)).mono ?_
      clear hsq
      rintro e w4 ⟨⟨r, rfl, hrow⟩, ⟨s4, l4, kd4, sq4, lv4⟩, k4⟩
      have lv4' : LV s4 = LV s := funext lv4
      have hk4 : Kept (fun y => s.kd y = 1 ∨ s.kd y = 2) w3 w4 := k4.mono (fun y hy h9 => by omega)
      have klv : ∀ i, i < 4 → s.kd (lv i) = 4 := fun i hi => (H3.out.lev i hi).kv
      obtain ⟨t1, t2⟩ := H3.out.taken (q0 := 256) (by omega) l4 kd4 lv4' (by rw [lq_bd]; exact sq4) hk4 (fun y hy h9 => by omega) (fun i hi => (H3.out.lev i hi).carry hk4 (by rw [klv i hi]; omega) (by rw [kd4]) (fun _ _ => by rw [kd4]) (fun j hj => by
            rw [sq4]; exact upd_ne _ _ (fun e9 => by
              have := H3.out.inj (i * 64 + j) 256 (by omega) (by omega) (by rw [lq_lev sl bd hi hj, e9, lq_bd]); omega)))
      have hvals : valsOf_t s (s.sq bd) = ptrs (S.pl 256) := by
        rw [HSQ.out]
        unfold valsOf_t ptrs
        rw [List.map_map]
        exact List.map_congr_left fun e he => HVAL.out e he
      rw [hvals] at hrow
      have hrow' : VRow (fun b => s4.kd b = 0 ∧ b < w4.heap.size) w4 r (ptrs (S.pl 256)) := by
        refine hrow.inside.mono (fun b hb => ⟨?_, hb.2⟩)
        rw [kd4]; exact H3.out.lw.fresh b hb.1
      have hcnt : nAll (upd S.pl 256 []) + (S.pl 256).length = nAll S.pl := by have := nAll_upd S.pl (q := 256) (by omega) []; simpa using this
      have hst : stg S.due N S.pl 1 = plAll S.due N (upd S.pl 256 []) (S.pl 256) := by
        show (if tkd N 4 then _ else _) = _
        rw [if_pos HTK.out]; rfl
      rw [List.append_nil] at t1
      obtain ⟨ra, rc, rfl⟩ := hrow'.len
      have K4 := Lib.hid (show Kept (fun y => s.kd y ≠ 0) w w4 from K3.out.trans (hk4.mono (fun y _ h9 => by omega)))
      have KD4 := Lib.hid kd4
      have S4 := Lib.hid hst
      rw [ptrs_len] at hrow' ⊢
      clear hst
      generalize hes : S.pl 256 = es at *
      generalize hP0 : upd S.pl 256 [] = P0 at *
      have T1 := Lib.hid t1
      have ROW := Lib.hid hrow'
      have hsz4 : w.heap.size ≤ w4.heap.size := K4.out.size
      have hel : es.length ≤ 80000 := by omega
      clear t1 t2 hrow hrow' l4 k4 sq4 lv4 lv4' hk4 klv kd4 hvals HVAL HSQ c5 hes hP0
      go_wp2_with fail
      go_loopw [8, 40] (fun _ i wr => ∃ (j : Nat) (si : LS) (Si : WSt), j ≤ es.length ∧ i = .int .i64 j ∧ WB_t si v lv sl bd Si (es.drop j) (nAll S.pl) wr ∧ WSame { S with now := N } Si ∧ Si.pl = plAll S.due N P0 (es.take j) ∧ (∀ y, y < w4.heap.size → si.kd y = s4.kd y) ∧ Kept (fun y => s.kd y ≠ 0) w wr ∧ Kept (fun y => s4.kd y ≠ 0) w4 wr) (fun _ i _ => es.length - (intOf i).toNat)
      case atStart => exact ⟨0, s4, _, Nat.zero_le _, rfl, T1.out, ⟨rfl, rfl, rfl, rfl⟩, rfl, fun _ _ => rfl, K4.out, Kept.refl _ _⟩
      case round =>
        obtain ⟨j, si, Si, hj, rfl, hI, hsame, hpl, hkd, hkw, hk2⟩ := hrel
        have I := Lib.hid hI
        have SAME := Lib.hid hsame
        have PL := Lib.hid hpl
        have KD := Lib.hid hkd
        have KW := Lib.hid hkw
        have KK := Lib.hid hk2
        have hszr := hk2.size
        clear hI hsame hpl hkd hkw hk2
        by_cases hjl : j < es.length
        · obtain ⟨e, he⟩ : ∃ e, e = es[j] := ⟨_, rfl⟩
          have hrw := ROW.out.keep KK.out (fun b hb _ h9 => h9 hb.1)
          have hc0 := hrw.at_.2.2.2
          rw [ptrs_len] at hc0
          obtain ⟨b, o, rfl, hbl, hbq, hcell⟩ := hc0 (by omega)
          have c1 : wr.cell? ⟨b, o + j, none⟩ = some (.pointer (some ⟨e, 0, none⟩)) := by
            rw [hcell j hjl]
            unfold ptrs
            rw [List.getElem?_map, List.getElem?_eq_getElem hjl, he]; rfl
          have hdrop : es.drop j = e :: es.drop (j + 1) := by rw [List.drop_eq_getElem_cons hjl, he]
          have I' := I.out
          rw [hdrop] at I'
          have HI := Lib.hid I'
          have hEJ := Lib.hid he
          have hnl' : nAll Si.pl < 90000 := by
            rw [PL.out, nAll_all, List.length_take]; omega
          have HNL := Lib.hid hnl'
          clear hdrop I' hc0 hcell hrw he hnl'
          go_wp2_with fail
          refine (wplace_t wr HI.out HNL.out).mono ?_
          rintro r w5 ⟨rfl, s5, S5, b5, sm5, p5, kd5, _, k5⟩
          have B5 := Lib.hid b5
          have R5 := Lib.hid (show WSame { S with now := N } S5 ∧ S5.pl = plAll S.due N P0 (es.take (j + 1)) ∧ (∀ y, y < w4.heap.size → s5.kd y = s4.kd y) ∧ Kept (fun y => s.kd y ≠ 0) w w5 ∧ Kept (fun y => s4.kd y ≠ 0) w4 w5 by
            refine ⟨⟨sm5.now.trans SAME.out.now, sm5.due.trans SAME.out.due, sm5.dl.trans SAME.out.dl, sm5.val.trans SAME.out.val⟩, ?_, fun y hy => (kd5 y (by omega)).trans (KD.out y hy), ?_, ?_⟩
            · rw [p5, PL.out, SAME.out.due, SAME.out.now, List.take_succ_eq_append_getElem hjl, plAll_snoc, hEJ.out]
            · exact KW.out.step k5 (fun y hy h9 => by rw [KD.out y (by omega), KD4.out] at h9; exact h9)
            · exact KK.out.step k5 (fun y hy h9 => by rw [KD.out y hy] at h9; exact h9))
          clear b5 sm5 p5 kd5 k5
          go_wp2_with fail
          go_roundw
          case rel =>
            exact ⟨j + 1, s5, S5, by omega, by go_num, B5.out, R5.out⟩
          case measure => simp [intOf]; omega
        · obtain rfl : j = es.length := by omega
          go_wp2_with fail
          go_meet
          have I9 := I.out
          rw [List.drop_length] at I9
          refine ⟨si, Si, ⟨I9, SAME.out, fun y hy => (KD.out y (by omega)).trans (by rw [KD4.out]), KW.out⟩, ?_⟩
          rw [PL.out, List.take_length]
          exact S4.out.symm
    · have hbt : b = false := by rw [← hb]; exact decide_eq_false h4
      have htk : ¬ tkd N 4 = true := by rw [zeros_tkd HZ.out (by omega) (by omega), decide_eq_true_eq]; exact h4
      have HTK := Lib.hid htk
      clear hb hb' htk
      subst hbt
      go_wp2_with fail
      go_meet
      exact ⟨s, _, ⟨H3.out, ⟨rfl, rfl, rfl, rfl⟩, fun _ _ => rfl, K3.out⟩, by show S.pl = if tkd N 4 then _ else _; rw [if_neg HTK.out]; rfl⟩
  case rest =>
    obtain ⟨s4, S4, hgo, hpl4⟩ := hcut
    have HG4 := Lib.hid hgo
    have HP4 := Lib.hid hpl4
    have HT := Lib.hid (show ∀ l, 1 ≤ l → l ≤ 4 → tkd N l = decide (l ≤ z) from fun l h1 h4 => zeros_tkd HZ.out h1 h4)
    obtain ⟨l0, hl0⟩ : ∃ l0, l0 = min z 3 := ⟨_, rfl⟩
    have hm : min (z : Int) 3 = (l0 : Int) := by omega
    have hskip : stg S.due N S.pl 1 = stg S.due N S.pl (4 - l0) := by
      have h9 : ∀ j, 1 ≤ j → j + l0 ≤ 4 → stg S.due N S.pl j = stg S.due N S.pl 1 := fun j => by
        induction j with
        | zero => intro h; omega
        | succ j ih =>
          intro h1 h2
          rcases Nat.eq_zero_or_pos j with h0 | h0
          · subst h0; rfl
          · show (if tkd N (4 - j) then _ else _) = _
            rw [HT.out (4 - j) (by omega) (by omega), if_neg (by rw [decide_eq_true_eq]; omega)]
            exact ih h0 (by omega)
      exact (h9 (4 - l0) (by omega) (by omega)).symm
    have HSK := Lib.hid hskip
    have HM := Lib.hid hl0
    have hl3 : l0 ≤ 3 := by omega
    clear hgo hpl4 hskip hb hb' hl0
    go_wp2_with fail
    go_loopw [9] (fun i wr => ∃ (l : Nat) (si : LS) (Si : WSt), l ≤ 3 ∧ i = .int .i64 l ∧ WGo_t s si v lv sl bd { S with now := N } Si (nAll S.pl) w wr ∧ Si.pl = stg S.due N S.pl (4 - l) ∧ l ≤ z) (fun i _ => (intOf i).toNat)
    case atStart => exact ⟨l0, s4, S4, hl3, rfl, HG4.out, by rw [HP4.out, HSK.out], by have := HM.out; omega⟩
    case round =>
      obtain ⟨l, si, Si, hl, rfl, hgo, hpl, hlz⟩ := hrel
      have G := Lib.hid hgo
      have PL := Lib.hid hpl
      clear hgo hpl
      by_cases hpos : 0 < l
      · have hnb : nAll Si.pl < 80000 := by rw [PL.out, nAll_stg]; exact HBIG.out
        have HNB := Lib.hid hnb
        clear hnb
        go_wp2_with fail
        refine (wagain_t wr G.out.wb (by omega) HNB.out).mono ?_
        rintro r w5 ⟨rfl, s5, S5, b5, sm5, p5, kd5, k5⟩
        have hsz := G.out.kept.size
        have B5 := Lib.hid (show WGo_t s s5 v lv sl bd { S with now := N } S5 (nAll S.pl) w w5 from ⟨b5, ⟨sm5.now.trans G.out.same.now, sm5.due.trans G.out.same.due, sm5.dl.trans G.out.same.dl, sm5.val.trans G.out.same.val⟩, fun y hy => (kd5 y (by omega)).trans (G.out.kd y hy), G.out.kept.step k5 (fun y hy h9 => by rw [G.out.kd y hy] at h9; exact h9)⟩)
        have P5 := Lib.hid (show S5.pl = stg S.due N S.pl (4 - (l - 1)) by
          rw [p5, G.out.same.due, G.out.same.now, PL.out, show 4 - (l - 1) = (4 - l) + 1 by omega]
          show _ = if tkd N (4 - (4 - l)) then _ else _
          rw [show 4 - (4 - l) = l by omega, HT.out l (by omega) (by omega), if_pos (by rw [decide_eq_true_eq]; exact hlz)])
        clear b5 sm5 p5 kd5 k5
        go_wp2_with fail
        go_roundw
        case rel => exact ⟨l - 1, s5, S5, by omega, by rw [show ((l : Int) - 1) = ((l - 1 : Nat) : Int) by omega], B5.out, P5.out, by omega⟩
        case measure => simp [intOf]; omega
      · obtain rfl : l = 0 := by omega
        have hcl : wr.cell? ⟨v, 1, none⟩ = some (.pointer (some ⟨lv 0, 0, none⟩)) := G.out.wb.blk.cell 1
        have CV := Lib.hid G.out.wb.blk.cells
        obtain ⟨l9, hl9⟩ : ∃ l9 : Nat, l9 = 0 := ⟨_, rfl⟩
        go_upto_region 19 with fail
        refine wp_region_text ([4], [9, 59, 67]) [v] (by kernel_rfl) (by kernel_rfl) (cellsB_cons CV.out cellsB_nil) (by simp [segs, isEff, isLoad, askOps, asks, ptrEq, eqOrNe, isNil]; rfl) ?_
        (repeat ((first | (refine segs_nil ?_) | (refine segs_go (stay_drew) ?_ ?_; focus (simp [isLoad]; done)) | (refine segs_load (stay_drew) ?_ ?_; focus (intro h; first | exact ⟨v, _, rfl, by simp⟩ | (simp [Region.wanted, yielded, undef] at h; done))) | fail); go_wp2_with fail))
        refine (digit_any _ _ (by omega) _).mono ?_
        rintro r w4 ⟨rfl, k4⟩
        have k4' : Still wr w4 := ((Kept.refl _ wr).drewN 1).trans k4
        have HS4 := Lib.hid (StayB.stil (ds := [v]) stay_drew (cellsB_cons CV.out cellsB_nil) k4)
        rw [if_pos (by omega)]
        have hdd : dg (N : Int) ((0 : Int).toNat) = ((N % 64 : Nat) : Int) := dg_nat0 N
        rw [hdd]
        clear hdd
        have hdl : N % 64 < 64 := by omega
        have HO := Lib.hid (show outOf S.due N S.pl = Si.pl (N % 64) by rw [PL.out]; rfl)
        have HR := Lib.hid (show restOf S.due N S.pl = upd Si.pl (N % 64) [] by rw [PL.out]; rfl)
        generalize N % 64 = D at *
        have H4 := Lib.hid (G.out.wb.still k4')
        have KWW := Lib.hid (G.out.kept.of_still k4')
        go_wp2_with fail
        (repeat ((first | (refine segs_nil ?_) | (refine segs_go (HS4.out) ?_ ?_; focus (simp [isLoad]; done)) | (refine segs_load (HS4.out) ?_ ?_; focus (intro h; first | exact ⟨v, _, rfl, by simp⟩ | (simp [Region.wanted, yielded, undef] at h; done))) | fail); go_wp2_with fail))
        refine (lvtake_t si (lv 0) (sl 0) D w4 H4.out.lw (H4.out.lev 0 (by omega)) hdl (by have := H4.out.tot (l := 0) (by omega); rw [PL.out, nAll_stg] at this; have := HBIG.out; omega)).mono ?_
        rintro r w5 ⟨⟨r, rfl, ho5⟩, k5, s5, l5, b5, kd5, sq5, lv5⟩
        have hlD : lq sl bd D = sl 0 D := by have := lq_lev sl bd (l := 0) (k := D) (by omega) hdl; rwa [Nat.zero_mul, Nat.zero_add] at this
        have klv : ∀ i, i < 4 → si.kd (lv i) = 4 := fun i hi => (H4.out.lev i hi).kv
        obtain ⟨t1, t2⟩ := H4.out.taken (q0 := D) (by omega) l5 kd5 lv5 (by rw [hlD]; exact sq5) k5 (fun y hy h9 => by
          rcases h9 with h9 | h9 | h9
          · omega
          · omega
          · rw [h9, klv 0 (by omega)] at hy; omega) (fun i hi => by
          by_cases hil : i = 0
          · subst hil; exact b5
          · exact (H4.out.lev i hi).carry k5 (by
              rw [klv i hi]; intro h9
              rcases h9 with h9 | h9 | h9
              · cases h9
              · cases h9
              · exact hil (H4.out.linj i 0 hi (by omega) h9)) (by rw [kd5]) (fun _ _ => by rw [kd5]) (fun j hj => by
                rw [sq5]; exact upd_ne _ _ (fun e9 => by
                  have := H4.out.inj (i * 64 + j) D (by omega) (by omega) (by rw [lq_lev sl bd hi hj, e9, hlD]); omega)))
        have hsq : si.sq (sl 0 D) = (Si.pl D).map Si.node := by rw [← hlD]; exact H4.out.sq _ (by omega)
        have hlen : (si.sq (sl 0 D)).length = (Si.pl D).length := by rw [hsq, List.length_map]
        have hrow : VRow (fun b => s5.kd b = 0 ∧ b < w5.heap.size) w5 r (ptrs ((Si.pl D).map Si.node)) := by
          rw [← hsq]
          refine (VRow.of_owns ho5).inside.mono (fun b hb => ⟨?_, hb.2⟩)
          rw [kd5]; exact H4.out.lw.fresh b hb.1
        have hle : (Si.pl D).length ≤ nAll S.pl := by have := le_nAll Si.pl (q := D) (by omega); rwa [PL.out, nAll_stg, ← PL.out] at this
        have hcnt : nAll (upd Si.pl D []) + (Si.pl D).length = nAll S.pl := by
          have := nAll_upd Si.pl (q := D) (by omega) []
          rw [List.length_nil, Nat.add_zero] at this
          rw [this, PL.out, nAll_stg]
        rw [List.append_nil] at t1
        have K5 := Lib.hid (show Kept (fun y => s.kd y ≠ 0) w w5 from KWW.out.step k5 (fun y hy h9 => by
          rw [← G.out.kd y hy]
          rcases h9 with h9 | h9 | h9
          · omega
          · omega
          · rw [h9, klv 0 (by omega)]; omega))
        have KD5 := Lib.hid kd5
        obtain ⟨ra, rc, rfl⟩ := hrow.len
        rw [ptrs_len, List.length_map] at hrow ⊢
        have HS5 : StayB [v] wr w5 := fun b hb => by
          rw [List.mem_singleton.1 hb]
          exact (show w5.heap[v]? = _ from t1.blk).trans (show wr.heap[v]? = _ from G.out.wb.blk).symm
        have T2 := Lib.hid t2
        have h6 : ∀ e, e ∈ Si.pl D → s5.kd e = 6 := fun e he => by rw [kd5]; exact (H4.out.ent D e (by omega) he).1
        have H6 := Lib.hid h6
        obtain ⟨S5, hS5⟩ : ∃ S5 : WSt, S5 = { Si with pl := upd Si.pl D [] } := ⟨_, rfl⟩
        have hSN : S5.node = Si.node := by rw [hS5]
        have hS5p : S5.pl = upd Si.pl D [] := by rw [hS5]
        have hsm5 : WSame { S with now := N } S5 := by rw [hS5]; exact ⟨G.out.same.now, G.out.same.due, G.out.same.dl, G.out.same.val⟩
        rw [← hS5] at t1
        generalize hes : Si.pl D = es at *
        have T1 := Lib.hid t1
        have ROW := Lib.hid hrow
        have SM5 := Lib.hid hsm5
        have FIN := Lib.hid (show outOf S.due N S.pl = es ∧ restOf S.due N S.pl = S5.pl ∧ nAll S5.pl + es.length = nAll S.pl by
          refine ⟨by rw [HO.out], by rw [HR.out, hS5p], by rw [hS5p]; exact hcnt⟩)
        obtain ⟨m, hm⟩ : ∃ m, m = nAll S.pl := ⟨_, rfl⟩
        have hmb : es.length ≤ m := by omega
        have hm8 : m < 80000 := by rw [hm]; exact HBIG.out
        rw [← hm] at T1 FIN
        have hsz5 : w.heap.size ≤ w5.heap.size := K5.out.size
        obtain ⟨i0, hi, hz0, hz1, hz2⟩ := info_parts infoElem_t
        clear hrow t1 t2 ho5 k5 l5 b5 sq5 lv5 hsq hlen klv kd5 k4 k4' hcl HS4 hcnt hle h6 hS5 hes hsm5 hS5p hm hlD hSN
        go_wp2_with fail
        refine segs_go HS5 (by simp [isLoad]) ?_
        go_wp2_with fail
        refine segs_nil ?_
        clear HS5
        go_wp2_with fail
        go_loopw [10, 12, 66] (fun ov _ i wx => ∃ j : Nat, j ≤ es.length ∧ i = .int .i64 j ∧ wx.ownsRow w5.heap.size 67 1 ov j (ptrs (es.take j)) ∧ WB_t s5 v lv sl bd S5 (es.drop j) (m - j) wx ∧ Kept (fun y => s5.kd y ≠ 0 ∨ w5.heap.size ≤ y) w5 wx) (fun _ _ i _ => es.length - (intOf i).toNat)
        case atStart => exact ⟨0, Nat.zero_le _, rfl, World.ownsRow_nil _ _ _ _, T1.out, Kept.refl _ _⟩
        case round =>
          obtain ⟨j, hj, rfl, hown, hwb, hkx⟩ := hrel
          have O := Lib.hid hown
          have I := Lib.hid hwb
          have KK := Lib.hid hkx
          have hszx := hkx.size
          clear hown hwb hkx
          by_cases hjl : j < es.length
          · obtain ⟨e, he⟩ : ∃ e, e = es[j] := ⟨_, rfl⟩
            have hem : e ∈ es := by rw [he]; exact List.getElem_mem hjl
            have hrw := ROW.out.keep KK.out (fun b hb hlt h9 => by
              rcases h9 with h9 | h9
              · exact h9 hb.1
              · omega)
            have hc0 := hrw.at_.2.2.2
            rw [ptrs_len, List.length_map] at hc0
            obtain ⟨b, o, rfl, hbl, hbq, hcell⟩ := hc0 (by omega)
            have c1 : wr.cell? ⟨b, o + j, none⟩ = some (.pointer (some ⟨Si.node e, 0, none⟩)) := by
              rw [hcell j hjl]
              unfold ptrs
              rw [List.getElem?_map, List.getElem?_map, List.getElem?_eq_getElem hjl, he]; rfl
            obtain ⟨t3, t4⟩ := T2.out e hem
            have bX := I.out.lw.nodes _ t3
            have c2 : wr.cell? ⟨Si.node e, 0, none⟩ = some (.pointer (some ⟨e, 0, none⟩)) := (Blk.cell bX 0).trans (congrArg some t4)
            have hdrop : es.drop j = e :: es.drop (j + 1) := by rw [List.drop_eq_getElem_cons hjl, he]
            have I' := I.out
            rw [hdrop] at I'
            have be := (I'.hang e (by simp)).2.1
            have ce := Blk.cell be 7
            have fe := Blk.free be 7
            have hex : e ≠ Si.node e := fun e9 => by have := (I'.hang e (by simp)).1; rw [e9] at this; omega
            obtain ⟨w6, hw6⟩ : ∃ w6, w6 = wr.setCell ⟨e, 7, none⟩ (.pointer none) := ⟨_, rfl⟩
            have I6 := I'.gone hw6
            obtain ⟨M, hM⟩ : ∃ M, M = m - j := ⟨_, rfl⟩
            rw [← hM] at I6
            have hM1 : 1 ≤ M := by omega
            have hM8 : M < 80000 := by omega
            have c6 : w6.cell? ⟨v, 6, none⟩ = some (.int .i64 M) := I6.blk.cell 6
            have f6 := I6.blk.free 6
            obtain ⟨w7, hw7⟩ : ∃ w7, w7 = w6.setCell ⟨v, 6, none⟩ (.int .i64 ((M : Int) - 1)) := ⟨_, rfl⟩
            have I7 := I6.setN (m := M - 1) (hw7.trans (by rw [show ((M : Int) - 1) = ((M - 1 : Nat) : Int) by omega]))
            have b7 := I7.lw.nodes _ t3
            have c7 : w7.cell? ⟨Si.node e, 0, none⟩ = some (.pointer (some ⟨e, 0, none⟩)) := (Blk.cell b7 0).trans (congrArg some t4)
            have k67 : Kept (fun y => s5.kd y ≠ 0) wr w7 := by
              rw [hw7, hw6]
              refine Kept.setCell (S := fun y => s5.kd y ≠ 0) (Kept.setCell (S := fun y => s5.kd y ≠ 0) (Kept.refl _ _) (fun _ => ?_) _) (fun _ => ?_) _
              · show s5.kd e ≠ 0; rw [(I'.hang e (by simp)).1]; decide
              · show s5.kd v ≠ 0; rw [I'.kv]; decide
            have HW6 := Lib.hid hw6
            have HW7 := Lib.hid hw7
            have I7H := Lib.hid I7
            have I6H := Lib.hid I6
            have K67 := Lib.hid k67
            have HEJ := Lib.hid he
            have HM := Lib.hid hM
            have hzz := k67.size
            have hfr : ∀ y, w5.heap.size ≤ y → s5.kd y = 0 := fun y hy => T1.out.lw.fresh y hy
            have HFR := Lib.hid hfr
            have hoa : (w7.alloc (.cells #[.pointer (some ⟨e, 0, none⟩)] 67)).ownsRow w5.heap.size 67 1 u10 j (ptrs (es.take j)) := owns_kept2 (owns_kept O.out k67 (fun b hb _ h9 => h9 (hfr b hb))) ((Kept.refl (fun _ => False) _).alloc _) (fun _ _ f => f)
            have hbz : w5.heap.size ≤ (w7.alloc (.cells #[.pointer (some ⟨e, 0, none⟩)] 67)).heap.size := by simp; omega
            clear t3 t4 bX b7 hdrop I' hc0 hcell hrw he be I7 I6 k67 hw6 hw7 hM hfr
            generalize Si.node e = x at *
            go_upto_region 23 with fail
            rw [← HW6.out]
            clear ce fe c1 c2
            go_upto_region 24 with fail
            rw [← HW7.out]
            clear c6 f6
            go_wp2_with (first | (at_builtin; refine wpList_append _ rfl _ _ 70 rfl w5.heap.size 67 i0 (.pointer none) 1 8 Try.underlying70 hi hz0 hz1 hz2 rfl (by decide) _ _ _ rfl (hoa) ⟨w7.heap.size, 0, none⟩ 1 1 [.pointer (some ⟨e, 0, none⟩)] rfl rfl (by intro j u hj; match j, hj with | 0, hj => simp at hj; subst hj; first | (simp [Addr.add]; done) | exact (Blk.newAt _ _ _ (by simp)).cell 0) (by intro u hu; simp at hu; subst hu; rfl) (by unfold maxLen; omega) (by omega) (by first | omega | (simp; omega) | simp) ?_) | fail)
            intro ov w8 hap
            have k8 : Kept (fun y => w5.heap.size ≤ y) w7 w8 := hap.kept (Kept.refl _ w7) (fun b _ hb => owns_block hoa b hb)
            have I8 := Lib.hid (I7H.out.kept k8 (fun y hy h9 => hy (HFR.out y h9)))
            have O8 := Lib.hid hap.owns
            have K8 := Lib.hid (show Kept (fun y => s5.kd y ≠ 0 ∨ w5.heap.size ≤ y) w5 w8 from (KK.out.step K67.out (fun y _ h9 => .inl h9)).step k8 (fun y _ h9 => .inr h9))
            clear hap hoa k8
            go_wp2_with fail
            go_roundw
            case rel =>
              refine ⟨j + 1, by omega, by go_num, ?_, ?_, K8.out⟩
              · have := O8.out
                rw [List.take_succ_eq_append_getElem hjl, show ptrs (es.take j ++ [es[j]]) = ptrs (es.take j) ++ [.pointer (some ⟨e, 0, none⟩)] by rw [HEJ.out]; unfold ptrs; rw [List.map_append]; rfl]
                exact this
              · rw [show m - (j + 1) = M - 1 by have := HM.out; omega]; exact I8.out
            case measure => simp [intOf]; omega
          · obtain rfl : j = es.length := by omega
            go_wp2_with fail
            go_ret2
            have I9 := I.out
            rw [List.drop_length] at I9
            have O9 := O.out
            rw [List.take_length] at O9
            obtain ⟨f1, f2, f3⟩ := FIN.out
            have hfr : ∀ y, w5.heap.size ≤ y → s5.kd y = 0 := fun y hy => T1.out.lw.fresh y hy
            refine ⟨s5, S5, _, rfl, ⟨by rw [f2, show nAll S5.pl = m - es.length by omega]; exact I9, SM5.out, fun y hy => by rw [KD5.out]; exact G.out.kd y hy, K5.out.step KK.out (fun y hy h9 => ?_)⟩, f2.symm, ?_, fun e he => H6.out e (by rw [f1] at he; exact he)⟩
            · rcases h9 with h9 | h9
              · rw [KD5.out, G.out.kd y hy] at h9; exact h9
              · omega
            · rw [f1]
              exact (VRow.of_owns O9).mono (fun b hb => ⟨by omega, hfr b hb⟩)

end Go.Proofs.Ythamdbfilpegjaa
