/-
  What stands here: the walk of ListActs. Under no condition but that its arguments fit their types.
-/
import Derived.Test.YtdpcgemmbpbpoaaListActsO
import Derived.Test.YtdpcgemmbpbpoaaListValuesWalk
import Derived.Laws.AppendOwnNone
namespace Go.Proofs.Ytdpcgemmbpbpoaa
set_option linter.unusedVariables false
set_option linter.unusedSimpArgs false
open Go.RowKit Go.Proofs

set_option maxHeartbeats 4000000 in
set_option maxRecDepth 100000 in
theorem listActs_walk (a0 : Option Addr) (len0 cap0 : Nat) (f0_0 : Nat → Int) (f0_1 : Nat → Int) (f0_2 : Nat → Int) (f0_3 : Nat → Int) (w : World) (w0 : (len0 ≤ cap0 ∧ cap0 ≤ maxLen) ∧ (0 < len0 → ∃ b o, a0 = some ⟨b, o, none⟩ ∧ b < w.heap.size ∧ ∀ i, i < len0 → w.cell? ⟨b, o + i * 4, none⟩ = some (.int .i64 (f0_0 i)) ∧ (Lit.int .i64 (f0_0 i)).wf = true ∧ w.cell? ⟨b, o + i * 4 + 1, none⟩ = some (.int .i64 (f0_1 i)) ∧ (Lit.int .i64 (f0_1 i)).wf = true ∧ w.cell? ⟨b, o + i * 4 + 2, none⟩ = some (.int .i64 (f0_2 i)) ∧ (Lit.int .i64 (f0_2 i)).wf = true ∧ w.cell? ⟨b, o + i * 4 + 3, none⟩ = some (.int .i64 (f0_3 i)) ∧ (Lit.int .i64 (f0_3 i)).wf = true)) :
    Calls Try.prog 4 #[.slice a0 len0 cap0] w fun e w' => e = .returned (.bool true) ∧ Below w.heap.size w w' := by
  obtain ⟨⟨hle1, hle⟩, hacts⟩ := w0
  unfold maxLen at hle
  have HR := Lib.hid hacts
  clear hacts
  obtain ⟨i0, hi, hz0, hz1, hz2⟩ := info_parts infoNode
  obtain ⟨j0, hj, hj0, hj1, hj2⟩ := info_parts (infoElem)
  by_cases h100 : 60 < len0
  · go_enter Try.func4, Try.ntmps4
    go_wp2_with fail
    refine (alive_any w).mono ?_
    rintro e w1 ⟨rfl, k1⟩
    go_wp2_with fail
    go_ret
    exact ⟨rfl, k1⟩
  go_enter Try.func4, Try.ntmps4
  go_wp2_with fail
  refine (alive_any w).mono ?_
  rintro e w1 ⟨rfl, k1⟩
  go_wp2_with fail
  refine (oNew_i LS.zero w1 (LW_i.zero w1)).mono ?_
  rintro e w2 ⟨rfl, z2, k2, s2, h2, n2, l2, q2, v2⟩
  generalize hL0 : w1.heap.size + 1 = b0 at *
  go_wp2_with fail
  refine (oNew_i s2 w2 h2).mono ?_
  rintro e w3 ⟨rfl, z3, k3, s3, h3, n3, l3, q3, v3⟩
  generalize hL1 : w2.heap.size + 1 = b1 at *
  go_wp2_with fail
  refine (oNew_i s3 w3 h3).mono ?_
  rintro e w4 ⟨rfl, z4, k4, s4, h4, n4, l4, q4, v4⟩
  generalize hL2 : w3.heap.size + 1 = b2 at *
  go_wp2_with fail
  have S0 := Lib.hid (LA.start (a := b0) (b := b1) (c := b2) k1 (Kept.of_still (Kept.of_still k2 k3) k4) h4 (fun y hy => by rw [n4 y (by omega), n3 y (by omega), n2 y hy]; rfl) (by rw [n4 b0 (by omega), n3 b0 (by omega)]; exact l2) (by rw [n4 b1 (by omega)]; exact l3) l4 (by omega) (by omega) (fun y => by
    rw [q4, q3, q2]
    unfold upd LS.zero
    repeat' split
    all_goals rfl))
  obtain ⟨lb, hlb⟩ : ∃ lb, lb = lb3 b0 b1 b2 := ⟨_, rfl⟩
  rw [← hlb] at S0
  have HLB := Lib.hid hlb
  clear hlb k1 h2 h3 h4 k2 k3 k4 n2 n3 n4 l2 l3 l4 q2 q3 q4 v2 v3 v4 z2 z3 z4
  generalize (w4.alloc (Obj.cells #[Value.pointer (some { block := b0, off := 0 }), Value.pointer (some { block := b1, off := 0 }), Value.pointer (some { block := b2, off := 0 })] 39)).alloc (Obj.cells #[Value.slice none 0 0, Value.slice none 0 0, Value.slice none 0 0, Value.slice none 0 0] 43) = w6 at *
  generalize hRR : w4.heap.size + 1 = R' at *
  generalize w4.heap.size = T' at *
  clear hL0 hL1 hL2 hRR
  go_loopw [4, 6] (fun nv i wr => ∃ (k : Nat) (s : LS) (ns : List Nat) (L : Nat → List Int), k ≤ len0 ∧ i = .int .i64 k ∧ LA w.heap.size T' R' lb k nv ns s L w wr) (fun _ i _ => len0 - (intOf i).toNat)
  case atStart => exact ⟨0, _, _, _, Nat.zero_le _, rfl, S0.out⟩
  case round =>
    obtain ⟨k, s, ns, L, hk, rfl, hS⟩ := hrel
    have S := Lib.hid hS
    have hz := hS.size
    have hbel := hS.bel
    clear hS S0
    by_cases hlk : k < len0
    · obtain ⟨ab, ao, ha, hab, hac⟩ := HR.out (by omega)
      obtain ⟨q0, x0, q1, x1, q2, x2, q3, x3⟩ := hac k hlk
      have hix := run_indexAt_at (P := Try.prog) (t := 38) (cap := cap0) (s := 4) ha Try.underlying38 (fun _ => by kernel_rfl) hlk
      clear hac ha
      have e0 := (hbel.cell (p := ⟨ab, ao + k * 4, none⟩) hab).trans q0
      have e1 := (hbel.cell (p := ⟨ab, ao + k * 4 + 1, none⟩) hab).trans q1
      have e2 := (hbel.cell (p := ⟨ab, ao + k * 4 + 2, none⟩) hab).trans q2
      have e3 := (hbel.cell (p := ⟨ab, ao + k * 4 + 3, none⟩) hab).trans q3
      replace x1 := bd_i64 x1
      replace x2 := bd_i64 x2
      have X3 := Lib.hid x3
      clear q0 q1 q2 q3 x0 x3
      generalize f0_0 k = kind at *
      generalize f0_1 k = li at *
      generalize f0_2 k = ni at *
      generalize f0_3 k = vi at *
      obtain ⟨A, hAA⟩ : ∃ A, wr.heap.size = A := ⟨_, rfl⟩
      have SA := Lib.hid (S.out.act (kind := kind) (li := li) (ni := ni) (vi := vi) hAA)
      obtain ⟨j, hj9⟩ : ∃ q : Nat, (q : Int) = (max 0 li) % 3 := ⟨((max 0 li) % 3).toNat, by have := Int.emod_nonneg (max 0 li) (show (3 : Int) ≠ 0 by omega); omega⟩
      have hj3 : j < 3 := by have := Int.emod_lt_of_pos (max 0 li) (show (0 : Int) < 3 by omega); omega
      obtain ⟨o, ho9⟩ : ∃ q : Nat, (q : Int) = (max 0 ni) % 3 := ⟨((max 0 ni) % 3).toNat, by have := Int.emod_nonneg (max 0 ni) (show (3 : Int) ≠ 0 by omega); omega⟩
      have ho3 : o < 3 := by have := Int.emod_lt_of_pos (max 0 ni) (show (0 : Int) < 3 by omega); omega
      have HJ := Lib.hid hj9
      have HO := Lib.hid ho9
      have HT := Lib.hid S.out.t
      have HLN := Lib.hid S.out.len
      have HSM := Lib.hid S.out.sum
      clear hbel hj9 ho9
      obtain ⟨W1, hW1⟩ : ∃ W1, W1 = wr.alloc (.cells (actC kind li ni vi) 45) := ⟨_, rfl⟩
      have HW1 := Lib.hid hW1
      rw [← hW1] at SA
      clear hW1
      have bA := SA.out.blk
      have c0 := bA.cell 0
      have c1 := bA.cell 1
      have c2 := bA.cell 2
      have c3 := bA.cell 3
      have CA := Lib.hid bA.cells
      clear bA
      go_upto_region 12 with fail
      rw [show wr.alloc (.cells #[.int .i64 kind, .int .i64 li, .int .i64 ni, .int .i64 vi] 45) = W1 from HW1.out.symm]
      go_cut [8, 9] from 39 to 46 (fun jv ov wx => jv = .int .i64 j ∧ ov = .int .i64 o ∧ Still W1 wx)
      case first =>
        as_aux_lemma =>
          by_cases h0 : 0 < li
          · have hj9 : li % 3 = j := by have := HJ.out; rw [show max 0 li = li by omega] at this; exact this.symm
            by_cases h1 : 0 < ni
            · have ho9 : ni % 3 = o := by have := HO.out; rw [show max 0 ni = ni by omega] at this; exact this.symm
              go_region
              go_wp2_with fail
              go_meet
              case rel => exact ⟨by rw [← hj9], by rw [← ho9], (still_refl _).drewN 1⟩
            · have ho9 : o = 0 := by have := HO.out; rw [show max 0 ni = 0 by omega] at this; simpa using this
              subst ho9
              go_region
              go_wp2_with fail
              go_meet
              case rel => exact ⟨by rw [← hj9], rfl, (still_refl _).drewN 1⟩
          · have hj9 : j = 0 := by have := HJ.out; rw [show max 0 li = 0 by omega] at this; simpa using this
            subst hj9
            by_cases h1 : 0 < ni
            · have ho9 : ni % 3 = o := by have := HO.out; rw [show max 0 ni = ni by omega] at this; exact this.symm
              go_region
              go_wp2_with fail
              go_meet
              case rel => exact ⟨rfl, by rw [← ho9], (still_refl _).drewN 1⟩
            · have ho9 : o = 0 := by have := HO.out; rw [show max 0 ni = 0 by omega] at this; simpa using this
              subst ho9
              go_region
              go_wp2_with fail
              go_meet
              case rel => exact ⟨rfl, rfl, (still_refl _).drewN 1⟩
      case rest =>
        obtain ⟨rfl, rfl, hst⟩ := hcut
        have SC := Lib.hid (SA.out.still hst)
        clear SA S hst HJ HO HW1 c0 c1 c2 c3 CA
        generalize hw9 : W1 = W1' at *
        clear hw9
        have c0 := SC.out.blk.cell 0
        have c1 := SC.out.blk.cell 1
        have c2 := SC.out.blk.cell 2
        have c3 := SC.out.blk.cell 3
        go_upto_if 49 with fail
        go_cut [4] from 49 to 97 (fun nv wx => ∃ (s : LS) (ns : List Nat) (L : Nat → List Int), LB w.heap.size T' R' A lb nv ns s L kind li ni vi w wx ∧ TieL lb s ns L ∧ ns.length ≤ k + 1 ∧ sum3 L ≤ k + 1 ∧ (kind ≠ 0 → sum3 L ≤ k))
        case first =>
          as_aux_lemma =>
            by_cases hk0 : kind = 0
            · have hb0 : (kind == 0) = true := by rw [beq_iff_eq]; exact hk0
              have HK0 := Lib.hid hk0
              clear hk0
              have hT3 := SC.out.threeAt hj3
              have CT := Lib.hid SC.out.blkT.cells
              have CA := Lib.hid SC.out.blk.cells
              go_upto_region 14 with fail
              refine wp_region_text ([4], [9, 28]) [T', A] (by kernel_rfl) (by kernel_rfl) (cellsB_cons CT.out (cellsB_cons CA.out cellsB_nil)) (by simp [segs, isEff, isLoad, askOps, asks, ptrEq, eqOrNe, isNil]; rfl) ?_
              (repeat ((first | (refine segs_nil ?_) | (refine segs_go (stay_drew) ?_ ?_; focus (simp [isLoad]; done)) | (refine segs_load (stay_drew) ?_ ?_; focus (intro h; first | exact ⟨T', _, rfl, by simp⟩ | exact ⟨A, _, rfl, by simp⟩ | (simp [Region.wanted, yielded] at h; done))) | fail); go_wp2_with fail))
              have SD := Lib.hid (SC.out.still ((still_refl wc).drewN 1))
              refine (oPush_i s _ SD.out.lw (lb j) vi (SD.out.kl j hj3) (by rw [HT.out.lens hj3]; have := sum3_le L hj3; have := HSM.out; omega)).mono ?_
              rintro e w2 ⟨rfl, z2, k2, s2, h2, n2, d2, q2, v2⟩
              obtain ⟨x, hx⟩ : ∃ x, wc.heap.size = x := ⟨_, rfl⟩
              rw [show (wc.drewN 1).heap.size = x from hx] at z2 d2 q2 v2
              obtain ⟨S2, hA2, _, hT2, _⟩ := SD.out.list h2 k2 n2 (SD.out.others hj3 q2)
              have hnx : x ∉ ns := fun h9 => by have := (SC.out.lw.nodes x (SC.out.kx x h9)).lt; omega
              have T2 := Lib.hid (HT.out.push (j := j) (v := vi) hj3 hnx SC.out.inj q2 v2)
              have bx := h2.nodes x d2
              have hv2 : (s2.nd x).val = .int .i64 vi := by
                have : LV s2 x = .int .i64 vi := by rw [v2, upd_same]
                exact this
              rw [hv2] at bx
              have cx0 := bx.cell 0
              have HS2 := Lib.hid (show StayB [T', A] wc w2 from fun b hb => by
                simp only [List.mem_cons, List.not_mem_nil, or_false] at hb
                rcases hb with rfl | rfl
                · exact hT2
                · exact hA2)
              have S2h := Lib.hid S2
              have D2 := Lib.hid d2
              have HNX := Lib.hid hnx
              have c32 := S2.blk.cell 3
              have CA2 := Lib.hid S2.blk.cells
              have CX := Lib.hid bx.cells
              clear h2 k2 n2 q2 v2 d2 hv2 bx hA2 hT2 S2 SD hnx c0 c1 c2 c3 hT3 CT CA
              go_wp2_with fail
              try rw [hx]
              (repeat ((first | (refine segs_nil ?_) | (refine segs_go (HS2.out) ?_ ?_; focus (simp [isLoad]; done)) | (refine segs_load (HS2.out) ?_ ?_; focus (intro h; first | exact ⟨T', _, rfl, by simp⟩ | exact ⟨A, _, rfl, by simp⟩ | (simp [Region.wanted, yielded] at h; done))) | fail); go_wp2_with fail))
              refine wp_region_text ([4], [9, 28]) [x, A] (by kernel_rfl) (by kernel_rfl) (cellsB_cons CX.out (cellsB_cons CA2.out cellsB_nil)) (by simp [segs, isEff, isLoad, askOps, asks, ptrEq, eqOrNe, isNil]; rfl) ?_
              have S3 := Lib.hid (S2h.out.still ((still_refl w2).drewN 1))
              have hln := HLN.out
              have hoa := S3.out.owns (W1 := (w2.drewN 1).alloc (.cells #[.pointer (some ⟨x, 0, none⟩)] 28)) ((still_refl _).alloc _)
              (repeat ((first | (refine segs_nil ?_) | (refine segs_go (stay_drew) ?_ ?_; focus (simp [isLoad]; done)) | (refine segs_load (stay_drew) ?_ ?_; focus (intro h; first | exact ⟨x, _, rfl, by simp⟩ | exact ⟨A, _, rfl, by simp⟩ | (simp [Region.wanted, yielded] at h; done))) | fail); go_upto_region 17 with fail))
              go_wp2_with (first | (at_builtin; refine wpList_append _ rfl _ _ 27 rfl 0 28 i0 (.pointer none) 1 8 Try.underlying27 hi hz0 hz1 hz2 rfl (by decide) _ _ _ rfl (hoa) ⟨w2.drew.heap.size, 0, none⟩ 1 1 [.pointer (some ⟨x, 0, none⟩)] rfl rfl (by intro j u hj; match j, hj with | 0, hj => simp at hj; subst hj; first | (simp [Addr.add]; done) | exact (Blk.newAt _ _ _ (by simp)).cell 0) (by intro u hu; simp at hu; subst hu; rfl) (by unfold maxLen; omega) (by omega) (by first | omega | (simp; omega) | simp) ?_) | fail)
              intro nv' w4 hap
              have S4 := Lib.hid (S3.out.more ((still_refl _).alloc _) hap D2.out HNX.out)
              obtain ⟨na, nc, rfl⟩ := owns_slice hap.owns
              clear hap hoa CX c32 CA2 cx0
              obtain ⟨ra, rcp, hrc, hrf, hro, _, hrn, _, _, _⟩ := S4.out.slot (j := 3) (by omega)
              have c34 := S4.out.blk.cell 3
              have CA4 := Lib.hid S4.out.blk.cells
              have CR4 := Lib.hid (cells_of_cell hrc)
              have HRN := Lib.hid hrn
              have HRO := Lib.hid hro
              have hl3 : (L 3).length ≤ 1000 := by rw [HT.out.len]; have := HLN.out; omega
              clear hrn hro
              go_upto_region 18 with fail
              refine wp_region_end ([4], [9, 28]) [R', A] rfl (by kernel_rfl) (by kernel_rfl) (by kernel_rfl) (cellsB_cons CR4.out (cellsB_cons CA4.out cellsB_nil)) (by simp [segs, isEff, isLoad, askOps, asks, ptrEq, eqOrNe, isNil]; rfl) ?_
              (repeat ((first | (refine segs_nil ?_) | (refine segs_go (stay_drew) ?_ ?_; focus (simp [isLoad]; done)) | (refine segs_load (stay_drew) ?_ ?_; focus (intro h; first | exact ⟨R', _, rfl, by simp⟩ | exact ⟨A, _, rfl, by simp⟩ | (simp [Region.wanted, yielded] at h; done))) | fail); go_wp2_with fail))
              have hcc4 := cellsB_cons CR4.out (cellsB_cons CA4.out cellsB_nil)
              have hs4 := StayB.ofk hcc4 (((still_refl w4).drewN 1).alloc (.cells #[.int .i64 vi] 3))
              have hoa := HRO.out ((w4.drewN 1).alloc (.cells #[.int .i64 vi] 3)) (((still_refl w4).drewN 1).alloc _)
              refine segs_go hs4 (by simp [isLoad]) ?_
              go_wp2_with (first | (at_builtin; refine wpList_append _ rfl _ _ 26 rfl 0 3 j0 (.int .i64 0) 1 8 Try.underlying26 hj hj0 hj1 hj2 rfl (by decide) _ _ _ rfl (hoa) ⟨w4.drew.heap.size, 0, none⟩ 1 1 [.int .i64 vi] rfl rfl (by intro j u hj; match j, hj with | 0, hj => simp at hj; subst hj; first | (simp [Addr.add]; done) | exact (Blk.newAt _ _ _ (by simp)).cell 0) (by intro u hu; simp at hu; subst hu; rfl) (by unfold maxLen; omega) (by omega) (by first | omega | (simp; omega) | simp) ?_) | fail)
              intro v' w5 hap
              obtain ⟨f5, ⟨cv, g5⟩, hA5, hR5, hL5⟩ := HRN.out ((w4.drewN 1).alloc (.cells #[.int .i64 vi] 3)) w5 v' [vi] (((still_refl w4).drewN 1).alloc _) hap
              obtain ⟨va, vc, rfl⟩ := owns_slice hap.owns
              have HS5 := Lib.hid (show StayB [R', A] w4 w5 from fun b hb => by
                simp only [List.mem_cons, List.not_mem_nil, or_false] at hb
                rcases hb with rfl | rfl
                · exact hR5
                · exact hA5)
              have S5 := Lib.hid hL5
              clear hap hoa hL5 hs4 hcc4 hA5 hR5
              go_wp2_with fail
              (repeat ((first | (refine segs_nil ?_) | (refine segs_go (HS5.out) ?_ ?_; focus (simp [isLoad]; done)) | (refine segs_load (HS5.out) ?_ ?_; focus (intro h; first | exact ⟨R', _, rfl, by simp⟩ | exact ⟨A, _, rfl, by simp⟩ | (simp [Region.wanted, yielded] at h; done))) | fail); go_wp2_with fail))
              generalize w5.setCell ⟨R', 3, none⟩ (.slice va ((L 3).length + 1) vc) = w6 at *
              clear f5 g5 hrc hrf CR4 CA4 c34 HRN HRO HS5
              have hsl := S5.out.slot (j := j) (by omega)
              rw [show upd L 3 (L 3 ++ [vi]) j = L j from upd_ne _ _ (by omega)] at hsl
              obtain ⟨ra6, rcp6, hrc, hrf, hro, _, hrn, _, _, _⟩ := hsl
              have CA6 := Lib.hid S5.out.blk.cells
              have CR6 := Lib.hid (cells_of_cell hrc)
              have HRN := Lib.hid hrn
              have HRO := Lib.hid hro
              have hljs : (L j).length ≤ 1000 := by have := sum3_le L hj3; have := HSM.out; omega
              clear hrn hro
              refine wp_region_end ([4], [9, 28]) [R', A] rfl (by kernel_rfl) (by kernel_rfl) (by kernel_rfl) (cellsB_cons CR6.out (cellsB_cons CA6.out cellsB_nil)) (by simp [segs, isEff, isLoad, askOps, asks, ptrEq, eqOrNe, isNil]; rfl) ?_
              (repeat ((first | (refine segs_nil ?_) | (refine segs_go (stay_drew) ?_ ?_; focus (simp [isLoad]; done)) | (refine segs_load (stay_drew) ?_ ?_; focus (intro h; first | exact ⟨R', _, rfl, by simp⟩ | exact ⟨A, _, rfl, by simp⟩ | (simp [Region.wanted, yielded] at h; done))) | fail); go_wp2_with fail))
              have hcc6 := cellsB_cons CR6.out (cellsB_cons CA6.out cellsB_nil)
              have hs6 := StayB.ofk hcc6 (((still_refl w6).drewN 1).alloc (.cells #[.int .i64 (ns.length : Int)] 3))
              have hoa := HRO.out ((w6.drewN 1).alloc (.cells #[.int .i64 (ns.length : Int)] 3)) (((still_refl w6).drewN 1).alloc _)
              refine segs_go hs6 (by simp [isLoad]) ?_
              go_wp2_with (first | (at_builtin; refine wpList_append _ rfl _ _ 26 rfl 0 3 j0 (.int .i64 0) 1 8 Try.underlying26 hj hj0 hj1 hj2 rfl (by decide) _ _ _ rfl (hoa) ⟨w6.drew.heap.size, 0, none⟩ 1 1 [.int .i64 (ns.length : Int)] rfl rfl (by intro j u hj; match j, hj with | 0, hj => simp at hj; subst hj; first | (simp [Addr.add]; done) | exact (Blk.newAt _ _ _ (by simp)).cell 0) (by intro u hu; simp at hu; subst hu; rfl) (by unfold maxLen; omega) (by omega) (by first | omega | (simp; omega) | simp) ?_) | fail)
              intro v' w7 hap
              obtain ⟨f7, ⟨cv, g7⟩, hA7, hR7, hL7⟩ := HRN.out ((w6.drewN 1).alloc (.cells #[.int .i64 (ns.length : Int)] 3)) w7 v' [(ns.length : Int)] (((still_refl w6).drewN 1).alloc _) hap
              obtain ⟨va7, vc7, rfl⟩ := owns_slice hap.owns
              have HS7 := Lib.hid (show StayB [R', A] w6 w7 from fun b hb => by
                simp only [List.mem_cons, List.not_mem_nil, or_false] at hb
                rcases hb with rfl | rfl
                · exact hR7
                · exact hA7)
              have S7 := Lib.hid hL7
              clear hap hoa hL7 hs6 hcc6 hA7 hR7
              go_wp2_with fail
              (repeat ((first | (refine segs_nil ?_) | (refine segs_go (HS7.out) ?_ ?_; focus (simp [isLoad]; done)) | (refine segs_load (HS7.out) ?_ ?_; focus (intro h; first | exact ⟨R', _, rfl, by simp⟩ | exact ⟨A, _, rfl, by simp⟩ | (simp [Region.wanted, yielded] at h; done))) | fail); go_wp2_with fail))
              go_meet
              case rel =>
                refine ⟨s2, ns ++ [x], _, S7.out, T2.out, by rw [List.length_append, List.length_singleton]; omega, ?_, fun h9 => absurd HK0.out h9⟩
                have h1 := sum3_upd (upd L 3 (L 3 ++ [vi])) hj3 (L j ++ [(ns.length : Int)])
                rw [sum3_three, upd_ne _ _ (show j ≠ 3 by omega), List.length_append, List.length_singleton] at h1
                have := HSM.out
                omega
            · have hb0 : (kind == 0) = false := by rw [beq_eq_false_iff_ne]; exact hk0
              have HK0 := Lib.hid hk0
              clear hk0
              go_wp2_with fail
              go_meet
              case rel => exact ⟨s, ns, L, SC.out, HT.out, Nat.le_succ_of_le HLN.out, Nat.le_succ_of_le HSM.out, fun _ => HSM.out⟩
        case rest =>
          as_aux_lemma =>
            obtain ⟨s5, ns5, L5, hS5, hT5, hn5, hs5, hs5'⟩ := hcut
            clear SC HT HLN HSM c0 c1 c2 c3
            obtain ⟨na, nc, hnv⟩ := hS5.form
            subst hnv
            have SC := Lib.hid hS5
            have HT := Lib.hid hT5
            have HSM := Lib.hid hs5
            have HSP := Lib.hid hs5'
            clear hS5 hT5 hs5 hs5'
            have c0 := SC.out.blk.cell 0
            have c2 := SC.out.blk.cell 2
            go_upto_if 100 with fail
            go_cut [11] from 100 to 106 (fun nn wx => wx = wc ∧ ∃ z : Int, nn = .int .i64 z ∧ ((ns5.length = 0 ∧ z = -1) ∨ ∃ n : Nat, n < ns5.length ∧ z = n))
            case first =>
              as_aux_lemma =>
                by_cases hn0 : ns5.length = 0
                · go_wp2_with fail
                  go_meet
                  case rel => exact ⟨rfl, _, rfl, .inl ⟨hn0, rfl⟩⟩
                · by_cases h0 : 0 < ni
                  · go_wp2_with fail

                    go_meet
                    case rel => exact ⟨rfl, _, rfl, .inr ⟨(ni % ns5.length).toNat, by have := Int.emod_lt_of_pos ni (show (0 : Int) < ns5.length by omega); have := Int.emod_nonneg ni (show (ns5.length : Int) ≠ 0 by omega); omega, by have := Int.emod_nonneg ni (show (ns5.length : Int) ≠ 0 by omega); omega⟩⟩
                  · go_wp2_with fail
                    go_meet
                    case rel => exact ⟨rfl, _, rfl, .inr ⟨0, by omega, rfl⟩⟩
            case rest =>
              obtain ⟨rfl, z, rfl, hzn⟩ := hcut
              have HZN := Lib.hid hzn
              clear hzn
              go_upto_block 2 with fail
              go_cut [] from 107 to 246 (fun wx => ∃ (s : LS) (L : Nat → List Int), LB w.heap.size T' R' A lb (.slice na ns5.length nc) ns5 s L kind li ni vi w wx ∧ TieL lb s ns5 L ∧ sum3 L ≤ k + 1)
              case first =>
                have hL4 : ∀ q, q < 4 → (L5 q).length ≤ 1000 := fun q hq => by
                  have := HSM.out
                  by_cases e : q = 3
                  · rw [e, HT.out.len]; omega
                  · have := sum3_le L5 (show q < 3 by omega); omega
                have HL4 := Lib.hid hL4
                clear hL4
                by_cases h1 : kind = 1 ∧ 0 ≤ z
                · as_aux_lemma =>
                    obtain ⟨hk1, hz0⟩ := h1
                    obtain ⟨n, hn5', rfl⟩ : ∃ n : Nat, n < ns5.length ∧ z = n := by
                      rcases HZN.out with ⟨_, rfl⟩ | h
                      · omega
                      · exact h
                    have hb1 : (kind == 1) = true := by rw [beq_iff_eq]; exact hk1
                    have HK1 := Lib.hid hk1
                    have HSP1 := Lib.hid (HSP.out (by omega))
                    clear hk1
                    have hT3 := SC.out.threeAt hj3
                    have CT := Lib.hid SC.out.blkT.cells
                    obtain ⟨g, rfl, hgc, hgl, hg0, hkx, hxm⟩ := SC.out.at_ hn5'
                    have HG0 := Lib.hid hg0
                    have HXM := Lib.hid hxm
                    clear hg0 hxm
                    obtain ⟨x, hx⟩ : ∃ x, ns5.getD n 0 = x := ⟨_, rfl⟩
                    rw [hx] at hgc hkx HXM
                    have HX := Lib.hid hx
                    clear hx
                    have CG := Lib.hid (cells_of_cell hgc)
                    go_upto_region 24 with fail
                    refine wp_region_text ([4], [9, 28]) [T', g] (by kernel_rfl) (by kernel_rfl) (cellsB_cons CT.out (cellsB_cons CG.out cellsB_nil)) (by simp [segs, isEff, isLoad, askOps, asks, ptrEq, eqOrNe, isNil]; rfl) ?_
                    (repeat ((first | (refine segs_nil ?_) | (refine segs_go (stay_drew) ?_ ?_; focus (simp [isLoad]; done)) | (refine segs_load (stay_drew) ?_ ?_; focus (intro h; first | exact ⟨T', _, rfl, by simp⟩ | exact ⟨g, _, rfl, by simp⟩ | (simp [Region.wanted, yielded] at h; done))) | fail); go_wp2_with fail))
                    have SD := Lib.hid (SC.out.still ((still_refl wc).drewN 1))
                    by_cases hmem : ∃ q, q < 3 ∧ x ∈ s5.sq (lb q)
                    · obtain ⟨q, hq3, hxq⟩ := hmem
                      refine (oPutNo_i s5 _ SD.out.lw (lb j) x (lb q) (SD.out.kl j hj3) hkx (SD.out.kl q hq3) hxq).mono ?_
                      rintro e w3 ⟨rfl, rfl⟩
                      have hnq : (n : Int) ∈ L5 q := (HT.out.mem SC.out.nd hq3 hn5').1 (by rw [HX.out]; exact hxq)
                      have HNQ := Lib.hid hnq
                      clear hxq hnq
                      go_wp2_with fail
                      (repeat ((first | (refine segs_nil ?_) | (refine segs_go (stay_drew) ?_ ?_; focus (simp [isLoad]; done)) | (refine segs_load (stay_drew) ?_ ?_; focus (intro h; first | exact ⟨T', _, rfl, by simp⟩ | exact ⟨g, _, rfl, by simp⟩ | (simp [Region.wanted, yielded] at h; done))) | fail); go_wp2_with fail))
                      refine (SD.out.ofAny (by have := HSM.out; omega) n).mono ?_
                      rintro e w4 ⟨z, rfl, rfl, hz⟩
                      have hz0' : 0 ≤ z := by
                        rcases hz with ⟨q', _, rfl, _⟩ | ⟨_, hno⟩
                        · omega
                        · exact absurd HNQ.out (hno q hq3)
                      clear hz
                      go_wp2_with fail
                      go_meet
                      case rel => exact ⟨s5, L5, SD.out, HT.out, HSM.out⟩
                    · have hno : ∀ q, q < 3 → x ∉ s5.sq (lb q) := fun q hq h9 => hmem ⟨q, hq, h9⟩
                      have HNO := Lib.hid hno
                      clear hmem hno
                      have hlj : (L5 j).length ≤ 1000 := HL4.out j (by omega)
                      refine (oPut_i s5 _ SD.out.lw (lb j) x (SD.out.kl j hj3) hkx (SD.out.no HNO.out) (by rw [HT.out.lens hj3]; omega)).mono ?_
                      rintro e w3 ⟨rfl, k3, s3, l3, d3, q3, v3⟩
                      obtain ⟨S3, hA3, _, hT3', hg3⟩ := SD.out.list l3 k3 (fun y _ => by rw [d3]) (SD.out.others hj3 q3)
                      have hg3' := hg3 g hgl HG0.out
                      have T3 := Lib.hid (HT.out.put hj3 hn5' SC.out.inj (by rw [HX.out]; exact q3) v3)
                      have HS3 := Lib.hid (show StayB [T', g] wc w3 from fun b hb => by
                        simp only [List.mem_cons, List.not_mem_nil, or_false] at hb
                        rcases hb with rfl | rfl
                        · exact hT3'
                        · exact hg3')
                      have S3h := Lib.hid S3
                      clear l3 k3 d3 q3 v3 hA3 hT3' hg3 hg3' S3 SD
                      go_wp2_with fail
                      (repeat ((first | (refine segs_nil ?_) | (refine segs_go (HS3.out) ?_ ?_; focus (simp [isLoad]; done)) | (refine segs_load (HS3.out) ?_ ?_; focus (intro h; first | exact ⟨T', _, rfl, by simp⟩ | exact ⟨g, _, rfl, by simp⟩ | (simp [Region.wanted, yielded] at h; done))) | fail); go_wp2_with fail))
                      refine (S3h.out.ofAny (by have := HSM.out; omega) n).mono ?_
                      rintro e w4 ⟨z, rfl, rfl, hz⟩
                      have hz0' : z = -1 := by
                        rcases hz with ⟨q', hq', _, hm, _⟩ | ⟨hz, _⟩
                        · exact absurd ((HT.out.mem SC.out.nd hq' hn5').2 hm) (by rw [HX.out]; exact HNO.out q' hq')
                        · exact hz
                      subst hz0'
                      clear hz hT3 hgc CT CG
                      obtain ⟨ra6, rcp6, hrc, hrf, hro, _, hrn, _, _, _⟩ := S3h.out.slot (j := j) (by omega)
                      have CR6 := Lib.hid (cells_of_cell hrc)
                      have HRN := Lib.hid hrn
                      have HRO := Lib.hid hro
                      clear hrn hro
                      go_upto_region 27 with fail
                      refine wp_region_end ([4], [9, 28]) [R'] rfl (by kernel_rfl) (by kernel_rfl) (by kernel_rfl) (cellsB_cons CR6.out cellsB_nil) (by simp [segs, isEff, isLoad, askOps, asks, ptrEq, eqOrNe, isNil]; rfl) ?_
                      (repeat ((first | (refine segs_nil ?_) | (refine segs_go (stay_drew) ?_ ?_; focus (simp [isLoad]; done)) | (refine segs_load (stay_drew) ?_ ?_; focus (intro h; first | exact ⟨R', _, rfl, by simp⟩ | (simp [Region.wanted, yielded] at h; done))) | fail); go_wp2_with fail))
                      have hcc6 := cellsB_cons CR6.out cellsB_nil
                      have hs6 := StayB.ofk hcc6 (((still_refl w3).drewN 1).alloc (.cells #[.int .i64 (n : Int)] 3))
                      have hoa := HRO.out ((w3.drewN 1).alloc (.cells #[.int .i64 (n : Int)] 3)) (((still_refl w3).drewN 1).alloc _)
                      refine segs_go hs6 (by simp [isLoad]) ?_
                      go_wp2_with (first | (at_builtin; refine wpList_append _ rfl _ _ 26 rfl 0 3 j0 (.int .i64 0) 1 8 Try.underlying26 hj hj0 hj1 hj2 rfl (by decide) _ _ _ rfl (hoa) ⟨w3.drew.heap.size, 0, none⟩ 1 1 [.int .i64 (n : Int)] rfl rfl (by intro j u hj; match j, hj with | 0, hj => simp at hj; subst hj; first | (simp [Addr.add]; done) | exact (Blk.newAt _ _ _ (by simp)).cell 0) (by intro u hu; simp at hu; subst hu; rfl) (by unfold maxLen; omega) (by omega) (by first | omega | (simp; omega) | simp) ?_) | fail)
                      intro v' w7 hap
                      obtain ⟨f7, ⟨cv, g7⟩, _, hR7, hL7⟩ := HRN.out ((w3.drewN 1).alloc (.cells #[.int .i64 (n : Int)] 3)) w7 v' [(n : Int)] (((still_refl w3).drewN 1).alloc _) hap
                      obtain ⟨va7, vc7, rfl⟩ := owns_slice hap.owns
                      have HS7 := Lib.hid (show StayB [R'] w3 w7 from fun b hb => by
                        simp only [List.mem_cons, List.not_mem_nil, or_false] at hb
                        rw [hb]; exact hR7)
                      have S7 := Lib.hid hL7
                      clear hap hoa hL7 hs6 hcc6 hR7
                      go_wp2_with fail
                      (repeat ((first | (refine segs_nil ?_) | (refine segs_go (HS7.out) ?_ ?_; focus (simp [isLoad]; done)) | (refine segs_load (HS7.out) ?_ ?_; focus (intro h; first | exact ⟨R', _, rfl, by simp⟩ | (simp [Region.wanted, yielded] at h; done))) | fail); go_wp2_with fail))
                      go_meet
                      case rel =>
                        refine ⟨s3, _, S7.out, T3.out, ?_⟩
                        have h1 := sum3_upd L5 hj3 (L5 j ++ [(n : Int)])
                        rw [List.length_append, List.length_singleton] at h1
                        have := HSP1.out
                        omega
                · by_cases h2 : kind = 2 ∧ 0 ≤ z
                  · as_aux_lemma =>
                      obtain ⟨hk2, hz0⟩ := h2
                      obtain ⟨n, hn5', rfl⟩ : ∃ n : Nat, n < ns5.length ∧ z = n := by
                        rcases HZN.out with ⟨_, rfl⟩ | h
                        · omega
                        · exact h
                      have hb1 : (kind == 1) = false := by rw [beq_eq_false_iff_ne]; omega
                      have hb2 : (kind == 2) = true := by rw [beq_iff_eq]; exact hk2
                      have HSP1 := Lib.hid (HSP.out (by omega))
                      clear hk2 h1
                      have hT3 := SC.out.threeAt hj3
                      have CT := Lib.hid SC.out.blkT.cells
                      obtain ⟨g, rfl, hgc, hgl, hg0, hkx, hxm⟩ := SC.out.at_ hn5'
                      have HG0 := Lib.hid hg0
                      clear hg0
                      obtain ⟨x, hx⟩ : ∃ x, ns5.getD n 0 = x := ⟨_, rfl⟩
                      rw [hx] at hgc hkx hxm
                      have HXM := Lib.hid hxm
                      have HX := Lib.hid hx
                      clear hx hxm
                      have CG := Lib.hid (cells_of_cell hgc)
                      go_upto_region 31 with fail
                      refine wp_region_text ([4], [9, 28]) [T', g] (by kernel_rfl) (by kernel_rfl) (cellsB_cons CT.out (cellsB_cons CG.out cellsB_nil)) (by simp [segs, isEff, isLoad, askOps, asks, ptrEq, eqOrNe, isNil]; rfl) ?_
                      (repeat ((first | (refine segs_nil ?_) | (refine segs_go (stay_drew) ?_ ?_; focus (simp [isLoad]; done)) | (refine segs_load (stay_drew) ?_ ?_; focus (intro h; first | exact ⟨T', _, rfl, by simp⟩ | exact ⟨g, _, rfl, by simp⟩ | (simp [Region.wanted, yielded] at h; done))) | fail); go_wp2_with fail))
                      have SD := Lib.hid (SC.out.still ((still_refl wc).drewN 1))
                      have hlj : (L5 j).length ≤ 1000 := HL4.out j (by omega)
                      refine (oUnlink_i s5 _ SD.out.lw (lb j) x (SD.out.kl j hj3) hkx (by rw [HT.out.lens hj3]; omega)).mono ?_
                      rintro e w3 ⟨rfl, k3, s3, l3, d3, q3, v3⟩
                      obtain ⟨S3, hA3, _, hT3', hg3⟩ := SD.out.list l3 k3 (fun y _ => by rw [d3]) (SD.out.others hj3 q3)
                      have hg3' := hg3 g hgl HG0.out
                      have T3 := Lib.hid (HT.out.out SC.out.nd hj3 hn5' SC.out.inj (SC.out.lw.inv.nodup _ (SC.out.kl j hj3)) (by rw [HX.out]; exact q3) v3)
                      have HS3 := Lib.hid (show StayB [T', g] wc w3 from fun b hb => by
                        simp only [List.mem_cons, List.not_mem_nil, or_false] at hb
                        rcases hb with rfl | rfl
                        · exact hT3'
                        · exact hg3')
                      have S3h := Lib.hid S3
                      have c03 := S3.blk.cell 0
                      have hin := (HT.out.mem SC.out.nd hj3 hn5')
                      rw [HX.out] at hin
                      have HIN := Lib.hid hin
                      have hwo : ¬ (n : Int) ∈ L5 j → wo (n : Int) (L5 j) = L5 j := fun h9 => List.filter_eq_self.2 fun y hy => by simp; rintro rfl; exact h9 hy
                      have HWO := Lib.hid hwo
                      clear l3 k3 d3 q3 v3 hA3 hT3' hg3 hg3' S3 SD hin hwo hT3 hgc CT CG
                      by_cases hm : x ∈ s5.sq (lb j)
                      · rw [if_pos hm]
                        have HM := Lib.hid (HIN.out.1 hm)
                        clear hm
                        go_wp2_with fail
                        (repeat ((first | (refine segs_nil ?_) | (refine segs_go (HS3.out) ?_ ?_; focus (simp [isLoad]; done)) | (refine segs_load (HS3.out) ?_ ?_; focus (intro h; first | exact ⟨T', _, rfl, by simp⟩ | exact ⟨g, _, rfl, by simp⟩ | (simp [Region.wanted, yielded] at h; done))) | fail); go_wp2_with fail))
                        refine (S3h.out.ofAny (by have := HSM.out; omega) n).mono ?_
                        rintro e w4 ⟨z, rfl, rfl, hz⟩
                        have hzj : z = j := by
                          rcases hz with ⟨q', hq', rfl, hqm, _⟩ | ⟨_, hno⟩
                          · have := HT.out.once SC.out.nd SC.out.lw.inv SC.out.kl SC.out.inj hq' hj3 hn5' hqm HM.out
                            omega
                          · exact absurd HM.out (hno j hj3)
                        subst hzj
                        clear hz
                        go_wp2_with fail
                        refine (S3h.out.outAny HL4.out hj3 n).mono ?_
                        rintro e w5 ⟨rfl, S5⟩
                        have S5h := Lib.hid S5
                        clear S5 HS3 S3h
                        obtain ⟨g', e9, hgc, hgl', hg0, _, _⟩ := S5h.out.at_ hn5'
                        simp only [Option.some.injEq, Addr.mk.injEq, and_true] at e9
                        subst e9
                        rw [HX.out] at hgc
                        obtain ⟨hv1, hv2⟩ := T3.out.value hn5'
                        rw [HX.out] at hv1
                        obtain ⟨ra6, rcp6, hrc, hrf, _, _, _, _, _, hrq⟩ := S5h.out.slot (j := 3) (by omega)
                        obtain ⟨g3, rfl, hc3, hg3l, _⟩ := hrq n _ hv2
                        obtain ⟨vv, hvv⟩ : ∃ vv, vv = (upd L5 j (wo (n : Int) (L5 j)) 3).getD n 0 := ⟨_, rfl⟩
                        rw [← hvv] at hv1 hc3
                        have hkx3 : s3.kd x = 2 := by have := S5h.out.kx x HXM.out; exact this
                        have bx := S5h.out.lw.nodes x hkx3
                        rw [hv1] at bx
                        have cx0 := bx.cell 0
                        have CG := Lib.hid (cells_of_cell hgc)
                        have CX := Lib.hid bx.cells
                        have CR := Lib.hid (cells_of_cell hrc)
                        have C3 := Lib.hid (cells_of_cell hc3)
                        have hl3e : (upd L5 j (wo (n : Int) (L5 j)) 3).length = ns5.length := T3.out.len
                        rw [hl3e] at hrc
                        clear hvv hv1 hv2 hrq bx hkx3 hl3e
                        go_upto_region 35 with fail
                        refine wp_region_text ([4], [9, 28]) [g, x, R', g3] (by kernel_rfl) (by kernel_rfl) (cellsB_cons CG.out (cellsB_cons CX.out (cellsB_cons CR.out (cellsB_cons C3.out cellsB_nil)))) (by simp [segs, isEff, isLoad, askOps, asks, ptrEq, eqOrNe, isNil]; rfl) ?_
                        (repeat ((first | (refine segs_nil ?_) | (refine segs_go (stay_drew) ?_ ?_; focus (simp [isLoad]; done)) | (refine segs_load (stay_drew) ?_ ?_; focus (intro h; first | exact ⟨g, _, rfl, by simp⟩ | exact ⟨x, _, rfl, by simp⟩ | exact ⟨R', _, rfl, by simp⟩ | exact ⟨g3, _, rfl, by simp⟩ | (simp [Region.wanted, yielded] at h; done))) | fail); go_wp2_with fail))
                        have SF := Lib.hid (S5h.out.still ((still_refl w5).drewN 1))
                        go_meet
                        case rel =>
                          refine ⟨s3, _, SF.out, T3.out, ?_⟩
                          have h1 := sum3_upd L5 hj3 (wo (n : Int) (L5 j))
                          have h2 := wo_len (n : Int) (L5 j)
                          have := HSM.out
                          omega

                      · rw [if_neg hm]
                        have hnm : ¬ (n : Int) ∈ L5 j := fun h9 => hm (HIN.out.2 h9)
                        have T3' := T3.out
                        rw [HWO.out hnm] at T3'
                        have HNM := Lib.hid hnm
                        have HWE := Lib.hid (HWO.out hnm)
                        clear hm hnm T3'
                        go_wp2_with fail
                        (repeat ((first | (refine segs_nil ?_) | (refine segs_go (HS3.out) ?_ ?_; focus (simp [isLoad]; done)) | (refine segs_load (HS3.out) ?_ ?_; focus (intro h; first | exact ⟨T', _, rfl, by simp⟩ | exact ⟨g, _, rfl, by simp⟩ | (simp [Region.wanted, yielded] at h; done))) | fail); go_wp2_with fail))
                        refine (S3h.out.ofAny (by have := HSM.out; omega) n).mono ?_
                        rintro e w5 ⟨z, rfl, rfl, hz⟩
                        have hzj : (z == (j : Int)) = false := by
                          rw [beq_eq_false_iff_ne]
                          rcases hz with ⟨q', hq', rfl, hqm, _⟩ | ⟨rfl, hno⟩
                          · intro e; obtain rfl : q' = j := by omega
                            exact HNM.out hqm
                          · omega
                        clear hz
                        have S5h := Lib.hid (show LB w.heap.size T' R' A lb (.slice (some ⟨g, 0, none⟩) ns5.length nc) ns5 s3 (upd L5 j (wo (n : Int) (L5 j))) kind li ni vi w w3 by
                          rw [HWE.out, show upd L5 j (L5 j) = L5 from upd_id L5 j]; exact S3h.out)
                        clear HS3 S3h
                        generalize w3 = w5 at *
                        obtain ⟨g', e9, hgc, hgl', hg0, _, _⟩ := S5h.out.at_ hn5'
                        simp only [Option.some.injEq, Addr.mk.injEq, and_true] at e9
                        subst e9
                        rw [HX.out] at hgc
                        obtain ⟨hv1, hv2⟩ := T3.out.value hn5'
                        rw [HX.out] at hv1
                        obtain ⟨ra6, rcp6, hrc, hrf, _, _, _, _, _, hrq⟩ := S5h.out.slot (j := 3) (by omega)
                        obtain ⟨g3, rfl, hc3, hg3l, _⟩ := hrq n _ hv2
                        obtain ⟨vv, hvv⟩ : ∃ vv, vv = (upd L5 j (wo (n : Int) (L5 j)) 3).getD n 0 := ⟨_, rfl⟩
                        rw [← hvv] at hv1 hc3
                        have hkx3 : s3.kd x = 2 := by have := S5h.out.kx x HXM.out; exact this
                        have bx := S5h.out.lw.nodes x hkx3
                        rw [hv1] at bx
                        have cx0 := bx.cell 0
                        have CG := Lib.hid (cells_of_cell hgc)
                        have CX := Lib.hid bx.cells
                        have CR := Lib.hid (cells_of_cell hrc)
                        have C3 := Lib.hid (cells_of_cell hc3)
                        have hl3e : (upd L5 j (wo (n : Int) (L5 j)) 3).length = ns5.length := T3.out.len
                        rw [hl3e] at hrc
                        clear hvv hv1 hv2 hrq bx hkx3 hl3e
                        go_upto_region 35 with fail
                        refine wp_region_text ([4], [9, 28]) [g, x, R', g3] (by kernel_rfl) (by kernel_rfl) (cellsB_cons CG.out (cellsB_cons CX.out (cellsB_cons CR.out (cellsB_cons C3.out cellsB_nil)))) (by simp [segs, isEff, isLoad, askOps, asks, ptrEq, eqOrNe, isNil]; rfl) ?_
                        (repeat ((first | (refine segs_nil ?_) | (refine segs_go (stay_drew) ?_ ?_; focus (simp [isLoad]; done)) | (refine segs_load (stay_drew) ?_ ?_; focus (intro h; first | exact ⟨g, _, rfl, by simp⟩ | exact ⟨x, _, rfl, by simp⟩ | exact ⟨R', _, rfl, by simp⟩ | exact ⟨g3, _, rfl, by simp⟩ | (simp [Region.wanted, yielded] at h; done))) | fail); go_wp2_with fail))
                        have SF := Lib.hid (S5h.out.still ((still_refl w5).drewN 1))
                        go_meet
                        case rel =>
                          refine ⟨s3, _, SF.out, T3.out, ?_⟩
                          have h1 := sum3_upd L5 hj3 (wo (n : Int) (L5 j))
                          have h2 := wo_len (n : Int) (L5 j)
                          have := HSM.out
                          omega

                  · have h12 : RowKit.Hid ((kind ≠ 1 ∨ z < 0) ∧ (kind ≠ 2 ∨ z < 0)) := Lib.hid (by omega)
                    clear h1 h2
                    by_cases h3 : kind = 3
                    · as_aux_lemma =>
                        have hb1 : (kind == 1) = false := by rw [beq_eq_false_iff_ne]; omega
                        have hb2 : (kind == 2) = false := by rw [beq_eq_false_iff_ne]; omega
                        have hb3 : (kind == 3) = true := by rw [beq_iff_eq]; exact h3
                        have HSP1 := Lib.hid (HSP.out (by omega))
                        clear h3
                        have hTj := SC.out.threeAt hj3
                        have hTo := SC.out.threeAt ho3
                        have CT := Lib.hid SC.out.blkT.cells
                        go_upto_region 38 with fail
                        refine wp_region_text ([4], [9, 28]) [T'] (by kernel_rfl) (by kernel_rfl) (cellsB_cons CT.out cellsB_nil) (by simp [segs, isEff, isLoad, askOps, asks, ptrEq, eqOrNe, isNil]; rfl) ?_
                        (repeat ((first | (refine segs_nil ?_) | (refine segs_go (stay_drew) ?_ ?_; focus (simp [isLoad]; done)) | (refine segs_load (stay_drew) ?_ ?_; focus (intro h; first | exact ⟨T', _, rfl, by simp⟩ | (simp [Region.wanted, yielded] at h; done))) | fail); go_wp2_with fail))
                        have SD := Lib.hid (SC.out.still ((still_refl wc).drewN 1))
                        by_cases hjo : j = o
                        · subst hjo
                          refine (lsplice_self_i s5 _ SD.out.lw (lb j) (SD.out.kl j hj3)).mono ?_
                          rintro e w3 ⟨rfl, rfl⟩
                          go_wp2_with fail
                          (repeat ((first | (refine segs_nil ?_) | (refine segs_go (stay_drew) ?_ ?_; focus (simp [isLoad]; done)) | (refine segs_load (stay_drew) ?_ ?_; focus (intro h; first | exact ⟨T', _, rfl, by simp⟩ | (simp [Region.wanted, yielded] at h; done))) | fail); go_wp2_with fail))
                          go_meet
                          case rel => exact ⟨s5, L5, SD.out, HT.out, HSM.out⟩
                        · have hljo : lb j ≠ lb o := fun e => hjo (SC.out.inj j o hj3 ho3 e)
                          have hlj : (L5 j).length ≤ 1000 := HL4.out j (by omega)
                          have hlo : (L5 o).length ≤ 1000 := HL4.out o (by omega)
                          refine (oSplice_i s5 _ SD.out.lw (lb j) (lb o) (SD.out.kl j hj3) (SD.out.kl o ho3) hljo (by rw [HT.out.lens hj3, HT.out.lens ho3]; omega)).mono ?_
                          rintro e w3 ⟨rfl, k3, s3, l3, n3, q3, v3⟩
                          obtain ⟨S3, _, _, hT3', _⟩ := SD.out.list l3 k3 n3 (fun y hy => by
                            rw [q3, upd_ne _ _ (hy o ho3), upd_ne _ _ (hy j hj3)]; exact SD.out.only y hy)
                          have T3 := Lib.hid (HT.out.join hj3 ho3 hjo SC.out.inj q3 v3)
                          have HS3 := Lib.hid (show StayB [T'] wc w3 from fun b hb => by
                            simp only [List.mem_cons, List.not_mem_nil, or_false] at hb
                            rw [hb]; exact hT3')
                          have S3h := Lib.hid S3
                          have hb5 : ((j : Int) == (o : Int)) = false := by rw [beq_eq_false_iff_ne]; omega
                          have hb6 : ((j : Int) != (o : Int)) = true := by rw [bne_iff_ne]; omega
                          have HJO := Lib.hid hjo
                          clear l3 k3 n3 q3 v3 hT3' S3 SD hTj hTo CT hljo hjo
                          go_wp2_with fail
                          (repeat ((first | (refine segs_nil ?_) | (refine segs_go (HS3.out) ?_ ?_; focus (simp [isLoad]; done)) | (refine segs_load (HS3.out) ?_ ?_; focus (intro h; first | exact ⟨T', _, rfl, by simp⟩ | (simp [Region.wanted, yielded] at h; done))) | fail); go_upto_region 41 with fail))
                          have SF := Lib.hid (S3h.out.still ((still_refl w3).drewN 1))
                          obtain ⟨raj, rcj, hrcj, hrfj, hroj, _, hrnj, _, hrsj, _⟩ := SF.out.slot (j := j) (by omega)
                          obtain ⟨rao, rco, hrco, hrfo, hroo, _, _, _, _, _⟩ := SF.out.slot (j := o) (by omega)
                          replace hrcj : w3.cell? ⟨R', j, none⟩ = some (.slice raj (L5 j).length rcj) := hrcj
                          replace hrco : w3.cell? ⟨R', o, none⟩ = some (.slice rao (L5 o).length rco) := hrco
                          replace hrfj : w3.frozen? ⟨R', j, none⟩ = false := hrfj
                          replace hrfo : w3.frozen? ⟨R', o, none⟩ = false := hrfo
                          have CR := Lib.hid (cells_of_cell hrcj)
                          have HRN := Lib.hid hrnj
                          have HRS := Lib.hid hrsj
                          have hoa := hroj (w3.drewN 1) (still_refl _)
                          have hob := hroo (w3.drewN 1) (still_refl _)
                          have HOB := Lib.hid hob
                          clear hrnj hroj hroo hrsj hob
                          refine wp_region_end ([4], [9, 28]) [R'] rfl (by kernel_rfl) (by kernel_rfl) (by kernel_rfl) (cellsB_cons CR.out cellsB_nil) (by simp [segs, isEff, isLoad, askOps, asks, ptrEq, eqOrNe, isNil]; rfl) ?_
                          refine segs_go stay_drew (by simp [isLoad]) ?_
                          go_wp2_with fail
                          refine segs_load stay_drew (fun _ => (by exact ⟨R', _, rfl, by simp⟩)) ?_
                          go_wp2_with fail
                          refine segs_load stay_drew (fun _ => (by exact ⟨R', _, rfl, by simp⟩)) ?_
                          rcases HOB.out.2 with ⟨e9, e8⟩ | ⟨g9, cap9, cur9, e9, _, _, _, _, _, _⟩
                          · simp only [Value.slice.injEq] at e9
                            obtain ⟨rfl, e7, rfl⟩ := e9
                            have hlo0 : L5 o = [] := List.eq_nil_of_length_eq_zero e8
                            have HLO0 := Lib.hid hlo0
                            have ne : (L5 o).length = 0 := e8
                            have hxo : Value.slice none (L5 o).length 0 = .slice none 0 0 := by rw [ne]
                            clear hlo0 e8 ne
                            go_wp2_with (first | (at_builtin; refine wpList_append_own_none rfl _ _ 26 rfl 0 3 j0 1 Try.underlying26 hj _ _ _ rfl hoa (by first | exact hxo | rfl) ?_) | fail)
                            go_wp2_with fail
                            (repeat ((first | (refine segs_nil ?_) | (refine segs_go (stay_drew) ?_ ?_; focus (simp [isLoad]; done)) | (refine segs_load (stay_drew) ?_ ?_; focus (intro h; first | exact ⟨R', _, rfl, by simp⟩ | (simp [Region.wanted, yielded] at h; done))) | fail); go_upto_region 42 with fail))
                            have S7 := Lib.hid (show LB w.heap.size T' R' A lb (.slice na ns5.length nc) ns5 s3 (upd L5 j (L5 j ++ L5 o)) kind li ni vi w ((w3.setCell ⟨R', j, none⟩ (.slice raj (L5 j).length rcj)).drew) by
                              rw [HLO0.out, List.append_nil, show upd L5 j (L5 j) = L5 from upd_id L5 j]; exact HRS.out)
                            generalize (w3.setCell ⟨R', j, none⟩ (.slice raj (L5 j).length rcj)).drew = w8 at *
                            have hsl := S7.out.slot (j := o) (by omega)
                            rw [show upd L5 j (L5 j ++ L5 o) o = L5 o from upd_ne _ _ (fun e => HJO.out e.symm)] at hsl
                            obtain ⟨ra8, rc8, hrc8, hrf8, _, _, _, hrz8, _, _⟩ := hsl
                            have HZ8 := Lib.hid hrz8
                            clear hrz8
                            go_wp2_with fail
                            go_meet
                            case rel =>
                              refine ⟨s3, _, HZ8.out, T3.out, ?_⟩
                              have h1 := sum3_upd L5 hj3 (L5 j ++ L5 o)
                              have h2 := sum3_upd (upd L5 j (L5 j ++ L5 o)) ho3 []
                              rw [upd_ne _ _ (fun e => HJO.out e.symm)] at h2
                              rw [List.length_append] at h1
                              simp only [List.length_nil] at h2
                              have := HSM.out
                              omega

                          · simp only [Value.slice.injEq] at e9
                            obtain ⟨rfl, _, rfl⟩ := e9
                            have hnews := HOB.out.cells (g := g9) rfl
                            go_wp2_with (first | (at_builtin; refine wpList_append _ rfl _ _ 26 rfl 0 3 j0 (.int .i64 0) 1 8 Try.underlying26 hj hj0 hj1 hj2 rfl (by decide) _ _ _ rfl hoa ⟨g9, 0, none⟩ (L5 o).length rco (irow (L5 o)) rfl (by rw [irow_len, Nat.mul_one]) hnews (fun u hu => by obtain ⟨z9, _, rfl⟩ := List.mem_map.1 hu; rfl) (by unfold maxLen; omega) (by omega) (by omega) ?_) | fail)
                            intro v' w7 hap
                            obtain ⟨f7, ⟨cv, g7⟩, _, hR7, hL7⟩ := HRN.out (w3.drewN 1) w7 v' (L5 o) (still_refl _) hap
                            obtain ⟨va7, vc7, rfl⟩ := owns_slice hap.owns
                            have HS7 := Lib.hid (show StayB [R'] w3 w7 from fun b hb => by
                              simp only [List.mem_cons, List.not_mem_nil, or_false] at hb
                              rw [hb]; exact hR7)
                            have S7 := Lib.hid hL7
                            clear hap hoa hL7 hR7 hnews
                            go_wp2_with fail
                            (repeat ((first | (refine segs_nil ?_) | (refine segs_go (HS7.out) ?_ ?_; focus (simp [isLoad]; done)) | (refine segs_load (HS7.out) ?_ ?_; focus (intro h; first | exact ⟨R', _, rfl, by simp⟩ | (simp [Region.wanted, yielded] at h; done))) | fail); go_upto_region 42 with fail))
                            generalize w7.setCell ⟨R', j, none⟩ (.slice va7 ((L5 j).length + (L5 o).length) vc7) = w8 at *
                            have hsl := S7.out.slot (j := o) (by omega)
                            rw [show upd L5 j (L5 j ++ L5 o) o = L5 o from upd_ne _ _ (fun e => HJO.out e.symm)] at hsl
                            obtain ⟨ra8, rc8, hrc8, hrf8, _, _, _, hrz8, _, _⟩ := hsl
                            have HZ8 := Lib.hid hrz8
                            clear hrz8
                            go_wp2_with fail
                            go_meet
                            case rel =>
                              refine ⟨s3, _, HZ8.out, T3.out, ?_⟩
                              have h1 := sum3_upd L5 hj3 (L5 j ++ L5 o)
                              have h2 := sum3_upd (upd L5 j (L5 j ++ L5 o)) ho3 []
                              rw [upd_ne _ _ (fun e => HJO.out e.symm)] at h2
                              rw [List.length_append] at h1
                              simp only [List.length_nil] at h2
                              have := HSM.out
                              omega

                    · by_cases h4 : kind = 4
                      · as_aux_lemma =>
                          have hb1 : (kind == 1) = false := by rw [beq_eq_false_iff_ne]; omega
                          have hb2 : (kind == 2) = false := by rw [beq_eq_false_iff_ne]; omega
                          have hb3 : (kind == 3) = false := by rw [beq_eq_false_iff_ne]; omega
                          have hb4 : (kind == 4) = true := by rw [beq_iff_eq]; exact h4
                          have HSP1 := Lib.hid (HSP.out (by omega))
                          clear h3 h4
                          have hTj := SC.out.threeAt hj3
                          have hlj : (L5 j).length ≤ 1000 := HL4.out j (by omega)
                          go_wp2_with fail
                          refine (ldrain_i s5 wc SC.out.lw (lb j) (SC.out.kl j hj3) (by rw [HT.out.lens hj3]; omega) (fun x hx => HT.out.one (HT.out.inNs hj3 hx))).mono ?_
                          rintro e w3 ⟨⟨v3, rfl, hr3⟩, ⟨s3, l3, d3, q3, v3'⟩, k3⟩
                          rw [HT.out.vals hj3] at hr3
                          obtain ⟨S3, _, _, _, _⟩ := SC.out.list l3 (k3.mono fun y hy h9 => by omega) (fun y _ => by rw [d3]) (SC.out.others hj3 q3)
                          have T3 := Lib.hid (HT.out.empty hj3 SC.out.inj q3 (funext fun y => v3' y))
                          have S3h := Lib.hid S3
                          have HR3 := Lib.hid hr3
                          obtain ⟨va3, vc3, rfl⟩ := hr3.len
                          clear l3 d3 q3 v3' k3 S3 hr3 hTj
                          go_wp2_with fail
                          refine (S3h.out.allAny HL4.out hj3 (fun z9 hz9 => by rw [HT.out.len]; exact HT.out.dom j hj3 z9 hz9)).mono ?_
                          rintro e w4 ⟨⟨v4, rfl, ho4⟩, k4⟩
                          obtain ⟨a4, c4, rfl⟩ := owns_slice ho4
                          have i45 := ints_any _ _ _ _ _ _ w4 (HR3.out.still k4) (VRow.of_owns ho4)
                          rw [decide_eq_true rfl] at i45
                          have I45 := Lib.hid i45
                          have S4 := Lib.hid (S3h.out.still k4)
                          clear i45 k4 ho4 S3h
                          go_wp2_with fail
                          refine I45.out.mono ?_
                          rintro e w5 ⟨rfl, k5⟩
                          have S5 := Lib.hid (S4.out.still k5)
                          clear k5 S4
                          obtain ⟨ra8, rc8, hrc8, hrf8, _, _, _, hrz8, _, _⟩ := S5.out.slot (j := j) (by omega)
                          have HZ8 := Lib.hid hrz8
                          clear hrz8
                          go_wp2_with fail
                          go_meet
                          case rel =>
                            refine ⟨s3, _, HZ8.out, T3.out, ?_⟩
                            have h2 := sum3_upd L5 hj3 []
                            simp only [List.length_nil] at h2
                            have := HSM.out
                            omega
                      · as_aux_lemma =>
                          have hb3 : (kind == 3) = false := by rw [beq_eq_false_iff_ne]; exact h3
                          have hb4 : (kind == 4) = false := by rw [beq_eq_false_iff_ne]; exact h4
                          clear h3 h4
                          by_cases hk1 : kind = 1
                          · have hb1 : (kind == 1) = true := by rw [beq_iff_eq]; exact hk1
                            have hb2 : (kind == 2) = false := by rw [beq_eq_false_iff_ne]; omega
                            have hz0 : z < 0 := by have := h12.out; omega
                            clear hk1
                            go_wp2_with fail
                            go_meet
                            case rel => exact ⟨s5, L5, SC.out, HT.out, HSM.out⟩
                          · have hb1 : (kind == 1) = false := by rw [beq_eq_false_iff_ne]; exact hk1
                            clear hk1
                            by_cases hk2 : kind = 2
                            · have hb2 : (kind == 2) = true := by rw [beq_iff_eq]; exact hk2
                              have hz0 : z < 0 := by have := h12.out; omega
                              clear hk2
                              go_wp2_with fail
                              go_meet
                              case rel => exact ⟨s5, L5, SC.out, HT.out, HSM.out⟩
                            · have hb2 : (kind == 2) = false := by rw [beq_eq_false_iff_ne]; exact hk2
                              clear hk2
                              go_wp2_with fail
                              go_meet
                              case rel => exact ⟨s5, L5, SC.out, HT.out, HSM.out⟩
              case rest =>
                as_aux_lemma =>
                  obtain ⟨s8, L8, hS8, hT8, hs8⟩ := hcut
                  have S8 := Lib.hid hS8
                  have T8 := Lib.hid hT8
                  have HS8 := Lib.hid hs8
                  clear hS8 hT8 hs8 SC HT HSM HSP
                  have t0 := S8.out.threeAt (j := 0) (by omega)
                  have t1 := S8.out.threeAt (j := 1) (by omega)
                  have t2 := S8.out.threeAt (j := 2) (by omega)
                  go_wp2_with fail
                  refine (S8.out.sameAny T8.out (by have := HS8.out; omega) (by omega)).mono ?_
                  rintro e w9 ⟨rfl, k9⟩
                  have S9 := Lib.hid (S8.out.still k9)
                  clear k9 S8
                  go_wp2_with fail
                  go_roundw
                  case rel => exact ⟨k + 1, s8, ns5, L8, by omega, by go_num, S9.out.done T8.out hn5 HS8.out⟩
                  case measure => simp [intOf]; omega
    · obtain rfl : k = len0 := by omega
      go_wp2_with fail
      go_ret
      exact ⟨rfl, S.out.bel⟩
end Go.Proofs.Ytdpcgemmbpbpoaa
