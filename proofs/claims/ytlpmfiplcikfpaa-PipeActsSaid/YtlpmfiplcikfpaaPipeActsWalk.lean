/-
  What stands here: the walk of PipeActs. Under no condition but that its arguments fit their types.
-/
import Derived.Test.YtlpmfiplcikfpaaPipePA
namespace Go.Proofs.Ytlpmfiplcikfpaa
set_option linter.unusedVariables false
set_option linter.unusedSimpArgs false
open Go.RowKit Go.Proofs

set_option maxHeartbeats 4000000 in
set_option maxRecDepth 100000 in
theorem pipeActs_walk (a0 : Int) (a1 : Option Addr) (len1 cap1 : Nat) (f1_0 : Nat → Int) (f1_1 : Nat → Int) (w : World) (w0 : (Lit.int .i64 a0).wf = true) (w1 : (len1 ≤ cap1 ∧ cap1 ≤ maxLen) ∧ (0 < len1 → ∃ b o, a1 = some ⟨b, o, none⟩ ∧ b < w.heap.size ∧ ∀ i, i < len1 → w.cell? ⟨b, o + i * 2, none⟩ = some (.int .i64 (f1_0 i)) ∧ (Lit.int .i64 (f1_0 i)).wf = true ∧ w.cell? ⟨b, o + i * 2 + 1, none⟩ = some (.int .i64 (f1_1 i)) ∧ (Lit.int .i64 (f1_1 i)).wf = true)) :
    Calls Try.prog 5 #[.int .i64 a0, .slice a1 len1 cap1] w fun e w' => e = .returned (.bool true) ∧ Below w.heap.size w w' := by
  obtain ⟨⟨hle1, hle⟩, hacts⟩ := w1
  unfold maxLen at hle
  have HR := Lib.hid hacts
  have hb0 := bd_i64 w0
  clear hacts w0
  by_cases h100 : 200 < len1
  · go_enter Try.func5, Try.ntmps5
    go_wp2_with fail
    refine (alive_any w).mono ?_
    rintro e w1 ⟨rfl, k1⟩
    go_wp2_with fail
    go_ret
    exact ⟨rfl, k1⟩
  by_cases hlo : a0 < 1
  · go_enter Try.func5, Try.ntmps5
    go_wp2_with fail
    refine (alive_any w).mono ?_
    rintro e w1 ⟨rfl, k1⟩
    go_wp2_with fail
    refine (pnew_no_i w1 a0 (.inl hlo)).mono ?_
    rintro e w2 ⟨rfl, rfl⟩
    go_wp2_with fail
    go_ret
    exact ⟨rfl, k1⟩
  by_cases hhi : 16 < a0
  · go_enter Try.func5, Try.ntmps5
    go_wp2_with fail
    refine (alive_any w).mono ?_
    rintro e w1 ⟨rfl, k1⟩
    go_wp2_with fail
    refine (pnew_no_i w1 a0 (.inr hhi)).mono ?_
    rintro e w2 ⟨rfl, rfl⟩
    go_wp2_with fail
    go_ret
    exact ⟨rfl, k1⟩
  obtain ⟨N, rfl⟩ : ∃ N : Nat, a0 = (N : Int) := ⟨a0.toNat, by omega⟩
  have hN1 : 1 ≤ N := by omega
  have hN16 : N ≤ 16 := by omega
  clear hb0
  go_enter Try.func5, Try.ntmps5
  go_wp2_with fail
  refine (alive_any w).mono ?_
  rintro e w1 ⟨rfl, k1⟩
  go_wp2_with fail
  refine (pa_new k1 N hN1 hN16).mono ?_
  rintro e w2 ⟨p, c, l, rfl, hS⟩
  have H2 := Lib.hid (hS (w2.alloc (.cells #[.int .i64 N, .slice none 0 0, .bool false, .int .i64 0] 40)) (.slice none 0 0) ((still_refl _).alloc _) ⟨Blk.new _ _ _, ⟨rfl, .inl ⟨rfl, rfl⟩⟩, by simp [Value.ownBlock]⟩ rfl)
  clear hS k1
  go_wp2_with fail
  generalize w2.alloc (.cells #[.int .i64 N, .slice none 0 0, .bool false, .int .i64 0] 40) = w3 at *
  generalize w2.heap.size = R at *
  go_loopw [8] (fun iv wr => ∃ (k mx : Nat) (xs : List Int) (sh : Bool), k ≤ len1 ∧ iv = .int .i64 k ∧ xs.length ≤ k ∧ mx ≤ k ∧ PA w.heap.size p c l N R xs mx sh xs mx sh w wr) (fun iv _ => len1 - (intOf iv).toNat)
  case atStart => exact ⟨0, 0, [], false, Nat.zero_le _, rfl, Nat.le_refl _, Nat.le_refl _, H2.out⟩
  case round =>
    obtain ⟨k, mx, xs, sh, hk, rfl, hxk, hmk, hS⟩ := hrel
    have S := Lib.hid hS
    have hbel := hS.bel
    clear hS H2
    by_cases hkl : k < len1
    · obtain ⟨ab, ao, ha, hab, hac⟩ := HR.out (by omega)
      obtain ⟨q0, x0, q1, x1⟩ := hac k hkl
      have hix := run_indexAt_at (P := Try.prog) (t := 37) (cap := cap1) (s := 2) ha Try.underlying37 (fun _ => by kernel_rfl) hkl
      have e0 := (hbel.cell (p := ⟨ab, ao + k * 2, none⟩) hab).trans q0
      have e1 := (hbel.cell (p := ⟨ab, ao + k * 2 + 1, none⟩) hab).trans q1
      have E1 := Lib.hid (fun w' (h9 : Below w.heap.size w w') => (h9.cell (p := ⟨ab, ao + k * 2 + 1, none⟩) hab).trans q1)
      clear hac ha q0 hbel q1 x0 x1
      generalize f1_0 k = kind at *
      generalize f1_1 k = v at *
      go_upto_block 2 with fail
      go_cut [9, 10, 11, 12, 13, 14, 15, 16, 17] from 59 to 140 (fun _ _ _ _ _ _ _ _ _ wx => ∃ (xs' : List Int) (mx' : Nat) (sh' : Bool), xs'.length ≤ k + 1 ∧ mx' ≤ k + 1 ∧ PA w.heap.size p c l N R xs' mx' sh' xs' mx' sh' w wx)
      case first =>
        as_aux_lemma =>
          by_cases h0 : kind = 0
          · cases sh with
            | true =>
              have hpu := Lib.hid (S.out.put_shut v)
              have hru := Lib.hid (S.out.rput_shut v)
              go_wp2_with fail
              refine hpu.out.mono ?_
              rintro e w4 ⟨rfl, rfl⟩
              go_wp2_with fail
              refine hru.out.mono ?_
              rintro e w4 ⟨rfl, rfl⟩
              go_wp2_with fail
              go_meet
              case rel => exact ⟨xs, mx, true, by omega, by omega, S.out⟩
            | false =>
              have hpu := Lib.hid (S.out.put v (by omega) (by omega))
              obtain ⟨b, hb⟩ : ∃ b, b = decide (N ≤ xs.length) := ⟨_, rfl⟩
              rw [← hb] at hpu
              have HB := Lib.hid hb
              have hbb : (b != b) = false := by simp
              clear hb
              go_wp2_with fail
              refine hpu.out.mono ?_
              rintro e w4 ⟨rfl, h4⟩
              have e14 := E1.out w4 h4.bel
              have hru := Lib.hid (h4.rput v (by omega) (by omega) (by omega))
              rw [← HB.out] at hru
              clear h4
              go_wp2_with fail
              refine hru.out.mono ?_
              rintro e w5 ⟨rfl, h5⟩
              have H5 := Lib.hid h5
              clear h5
              go_wp2_with fail
              go_meet
              case rel => exact ⟨xs ++ [v], _, false, by rw [List.length_append, List.length_singleton]; omega, by omega, H5.out⟩
          by_cases h1 : kind = 1
          · cases xs with
            | nil =>
              have htk := Lib.hid S.out.take_none
              have hrk := Lib.hid S.out.rtake_none
              go_wp2_with fail
              refine htk.out.mono ?_
              rintro e w4 ⟨rfl, rfl⟩
              go_wp2_with fail
              refine hrk.out.mono ?_
              rintro e w4 ⟨rfl, rfl⟩
              go_wp2_with fail
              go_meet
              case rel => exact ⟨[], mx, sh, by simp, by omega, S.out⟩
            | cons x rest =>
              simp only [List.length_cons] at hxk
              have htk := Lib.hid (S.out.take (by omega))
              have hxx : (x != x) = false := by simp
              go_wp2_with fail
              refine htk.out.mono ?_
              rintro e w4 ⟨rfl, h4⟩
              have hrk := Lib.hid (h4.rtake (by omega))
              clear h4
              go_wp2_with fail
              refine hrk.out.mono ?_
              rintro e w5 ⟨rfl, h5⟩
              have H5 := Lib.hid h5
              clear h5
              go_wp2_with fail
              go_meet
              case rel => exact ⟨rest, mx, sh, by omega, by omega, H5.out⟩
          by_cases h2 : kind = 2
          · obtain ⟨rva, rvk, hblk⟩ := S.out.blk
            have c2 := hblk.cell 2
            have f2 := hblk.free 2
            have hrs := S.out.rshut
            have hsh := Lib.hid hrs.toShut
            have HRS := Lib.hid hrs
            clear hblk hrs
            cases sh with
            | true =>
              go_wp2_with fail
              refine hsh.out.mono ?_
              rintro e w4 ⟨rfl, h4⟩
              have H4 := Lib.hid h4
              clear h4
              go_wp2_with fail
              go_meet
              case rel => exact ⟨xs, mx, true, by omega, by omega, H4.out⟩
            | false =>
              go_wp2_with fail
              refine hsh.out.mono ?_
              rintro e w4 ⟨rfl, h4⟩
              have H4 := Lib.hid h4
              clear h4
              go_wp2_with fail
              go_meet
              case rel => exact ⟨xs, mx, true, by omega, by omega, H4.out⟩
          go_wp2_with fail
          go_meet
          case rel => exact ⟨xs, mx, sh, by omega, by omega, S.out⟩
      case rest =>
        obtain ⟨ys, my, sr, hyk, hmy, hS'⟩ := hcut
        have S2 := Lib.hid hS'
        obtain ⟨va, vc, hblk⟩ := hS'.blk
        have S3 := Lib.hid (hS'.still ((still_refl wc).drewN 1))
        have hrc := hS'.rc
        clear hS' S e0 e1 E1 S2
        obtain ⟨Y, hY⟩ : ∃ Y, Y = ys.length := ⟨_, rfl⟩
        have HY := Lib.hid hY
        have hl3 := Lib.hid (S3.out.len (by omega))
        rw [← hY] at hblk hyk hl3
        clear hY
        have CP := Lib.hid hblk.cells
        have B3 := Lib.hid (hblk.still ((still_refl wc).drewN 1))
        have RC := Lib.hid hrc
        clear hblk hrc
        cases sr with
        | true =>
          as_aux_lemma =>
            go_upto_region 32 with fail
            refine wp_region_text ([4], [9, 38]) [R] (by kernel_rfl) (by kernel_rfl) (cellsB_cons CP.out cellsB_nil) (by simp [segs, isEff, isLoad, askOps, asks, ptrEq, eqOrNe, isNil]; rfl) ?_
            (repeat ((first | (refine segs_nil ?_) | (refine segs_go (stay_drew) ?_ ?_; focus (simp [isLoad]; done)) | (refine segs_load (stay_drew) ?_ ?_; focus (intro h; first | exact ⟨R, _, rfl, by simp⟩ | (simp [Region.wanted, yielded] at h; done))) | fail); go_wp2_with fail))
            refine hl3.out.mono ?_
            rintro e w4 ⟨rfl, k4⟩
            have HS4 := Lib.hid (StayB.stil (ds := [R]) stay_drew (cellsB_cons CP.out cellsB_nil) k4)
            have S4 := Lib.hid (S3.out.still k4)
            have B4 := Lib.hid (B3.out.still k4)
            have sp4 := Lib.hid S4.out.spilled
            have rs4 := Lib.hid (S4.out.rspilled (by rw [← HY.out]; omega) (by omega))
            obtain ⟨q, hq⟩ : ∃ q, q = ys.length - N := ⟨_, rfl⟩
            rw [← hq] at sp4 rs4
            have c1 := B4.out.cell 1
            clear k4 hq hl3
            go_wp2_with fail
            (repeat ((first | (refine segs_nil ?_) | (refine segs_go (HS4.out) ?_ ?_; focus (simp [isLoad]; done)) | (refine segs_load (HS4.out) ?_ ?_; focus (intro h; first | exact ⟨R, _, rfl, by simp⟩ | (simp [Region.wanted, yielded] at h; done))) | fail); go_wp2_with fail))
            refine sp4.out.mono ?_
            rintro e w5 ⟨rfl, rfl⟩
            clear sp4 c1
            go_wp2_with fail
            (repeat ((first | (refine segs_nil ?_) | (refine segs_go (HS4.out) ?_ ?_; focus (simp [isLoad]; done)) | (refine segs_load (HS4.out) ?_ ?_; focus (intro h; first | exact ⟨R, _, rfl, by simp⟩ | (simp [Region.wanted, yielded] at h; done))) | fail); go_wp2_with fail))
            refine rs4.out.mono ?_
            rintro e w5 ⟨rfl, k5⟩
            have HS5 := Lib.hid (StayB.stil HS4.out (cellsB_cons CP.out cellsB_nil) k5)
            have S5 := Lib.hid (S4.out.still k5)
            have B5 := Lib.hid (B4.out.still k5)
            have ms5 := Lib.hid S5.out.most
            have cl5 := Lib.hid S5.out.closed
            have al5 := Lib.hid (S5.out.all (by rw [← HY.out]; omega))
            rw [← HY.out] at cl5 al5
            obtain ⟨z, hz⟩ : ∃ z, decide (Y = 0) = z := ⟨_, rfl⟩
            have hzi : ((Y : Int) == 0) = z := by rw [← hz, Bool.eq_iff_iff, beq_iff_eq, decide_eq_true_iff]; omega
            rw [hz] at cl5
            clear hz
            have c1 := B5.out.cell 1
            have c2 := B5.out.cell 2
            have c3 := B5.out.cell 3
            clear k5 rs4
            go_wp2_with fail
            (repeat ((first | (refine segs_nil ?_) | (refine segs_go (HS5.out) ?_ ?_; focus (simp [isLoad]; done)) | (refine segs_load (HS5.out) ?_ ?_; focus (intro h; first | exact ⟨R, _, rfl, by simp⟩ | (simp [Region.wanted, yielded] at h; done))) | fail); go_wp2_with fail))
            refine ms5.out.mono ?_
            rintro e w6 ⟨rfl, rfl⟩
            clear ms5
            go_wp2_with fail
            (repeat ((first | (refine segs_nil ?_) | (refine segs_go (HS5.out) ?_ ?_; focus (simp [isLoad]; done)) | (refine segs_load (HS5.out) ?_ ?_; focus (intro h; first | exact ⟨R, _, rfl, by simp⟩ | (simp [Region.wanted, yielded] at h; done))) | fail); go_wp2_with fail))
            refine cl5.out.mono ?_
            rintro e w6 ⟨rfl, rfl⟩
            clear cl5
            go_wp2_with fail
            (repeat ((first | (refine segs_nil ?_) | (refine segs_go (HS5.out) ?_ ?_; focus (simp [isLoad]; done)) | (refine segs_load (HS5.out) ?_ ?_; focus (intro h; first | exact ⟨R, _, rfl, by simp⟩ | (simp [Region.wanted, yielded] at h; done))) | fail); go_wp2_with fail))
            refine al5.out.mono ?_
            rintro e w6 ⟨⟨v6, rfl, ho6⟩, h6, k6⟩
            obtain ⟨a6, c6, rfl⟩ := owns_slice ho6
            have HS6 := Lib.hid (StayB.kept HS5.out k6 (by intro b hb; simp only [List.mem_singleton] at hb; subst hb; exact ⟨B5.out.lt, RC.out⟩))
            have B6 := Lib.hid (B5.out.kept k6 RC.out)
            have c1 := B6.out.cell 1
            obtain ⟨Q, hrow⟩ := h6.row c1
            have IN := Lib.hid (ints_any (.slice a6 Y c6) (.slice va Y vc) ys ys _ _ w6 (VRow.of_owns ho6) hrow)
            have S6 := Lib.hid h6
            have hyy : decide (ys = ys) = true := by simp
            rw [hyy] at IN
            clear al5 ho6 h6 k6 hrow c2 c3 hyy
            go_wp2_with fail
            (repeat ((first | (refine segs_nil ?_) | (refine segs_go (HS6.out) ?_ ?_; focus (simp [isLoad]; done)) | (refine segs_load (HS6.out) ?_ ?_; focus (intro h; first | exact ⟨R, _, rfl, by simp⟩ | (simp [Region.wanted, yielded] at h; done))) | fail); go_wp2_with fail))
            refine IN.out.mono ?_
            rintro e w7 ⟨rfl, k7⟩
            have S7 := Lib.hid (S6.out.still k7)
            have HS7 := Lib.hid (StayB.stil HS6.out (cellsB_cons CP.out cellsB_nil) k7)
            clear k7 c1
            go_wp2_with fail
            (repeat ((first | (refine segs_nil ?_) | (refine segs_go (HS7.out) ?_ ?_; focus (simp [isLoad]; done)) | (refine segs_load (HS7.out) ?_ ?_; focus (intro h; first | exact ⟨R, _, rfl, by simp⟩ | (simp [Region.wanted, yielded] at h; done))) | fail); go_wp2_with fail))
            go_roundw
            case rel => exact ⟨k + 1, _, _, _, by omega, by go_num, by rw [← HY.out]; exact hyk, hmy, S7.out⟩
            case measure => simp [intOf]; omega

        | false =>
          as_aux_lemma =>
            go_upto_region 32 with fail
            refine wp_region_text ([4], [9, 38]) [R] (by kernel_rfl) (by kernel_rfl) (cellsB_cons CP.out cellsB_nil) (by simp [segs, isEff, isLoad, askOps, asks, ptrEq, eqOrNe, isNil]; rfl) ?_
            (repeat ((first | (refine segs_nil ?_) | (refine segs_go (stay_drew) ?_ ?_; focus (simp [isLoad]; done)) | (refine segs_load (stay_drew) ?_ ?_; focus (intro h; first | exact ⟨R, _, rfl, by simp⟩ | (simp [Region.wanted, yielded] at h; done))) | fail); go_wp2_with fail))
            refine hl3.out.mono ?_
            rintro e w4 ⟨rfl, k4⟩
            have HS4 := Lib.hid (StayB.stil (ds := [R]) stay_drew (cellsB_cons CP.out cellsB_nil) k4)
            have S4 := Lib.hid (S3.out.still k4)
            have B4 := Lib.hid (B3.out.still k4)
            have sp4 := Lib.hid S4.out.spilled
            have rs4 := Lib.hid (S4.out.rspilled (by rw [← HY.out]; omega) (by omega))
            obtain ⟨q, hq⟩ : ∃ q, q = ys.length - N := ⟨_, rfl⟩
            rw [← hq] at sp4 rs4
            have c1 := B4.out.cell 1
            clear k4 hq hl3
            go_wp2_with fail
            (repeat ((first | (refine segs_nil ?_) | (refine segs_go (HS4.out) ?_ ?_; focus (simp [isLoad]; done)) | (refine segs_load (HS4.out) ?_ ?_; focus (intro h; first | exact ⟨R, _, rfl, by simp⟩ | (simp [Region.wanted, yielded] at h; done))) | fail); go_wp2_with fail))
            refine sp4.out.mono ?_
            rintro e w5 ⟨rfl, rfl⟩
            clear sp4 c1
            go_wp2_with fail
            (repeat ((first | (refine segs_nil ?_) | (refine segs_go (HS4.out) ?_ ?_; focus (simp [isLoad]; done)) | (refine segs_load (HS4.out) ?_ ?_; focus (intro h; first | exact ⟨R, _, rfl, by simp⟩ | (simp [Region.wanted, yielded] at h; done))) | fail); go_wp2_with fail))
            refine rs4.out.mono ?_
            rintro e w5 ⟨rfl, k5⟩
            have HS5 := Lib.hid (StayB.stil HS4.out (cellsB_cons CP.out cellsB_nil) k5)
            have S5 := Lib.hid (S4.out.still k5)
            have B5 := Lib.hid (B4.out.still k5)
            have ms5 := Lib.hid S5.out.most
            have cl5 := Lib.hid S5.out.closed
            have al5 := Lib.hid (S5.out.all (by rw [← HY.out]; omega))
            rw [← HY.out] at cl5 al5
            obtain ⟨z, hz⟩ : ∃ z, decide (Y = 0) = z := ⟨_, rfl⟩
            have hzi : ((Y : Int) == 0) = z := by rw [← hz, Bool.eq_iff_iff, beq_iff_eq, decide_eq_true_iff]; omega
            rw [hz] at cl5
            clear hz
            have c1 := B5.out.cell 1
            have c2 := B5.out.cell 2
            have c3 := B5.out.cell 3
            clear k5 rs4
            go_wp2_with fail
            (repeat ((first | (refine segs_nil ?_) | (refine segs_go (HS5.out) ?_ ?_; focus (simp [isLoad]; done)) | (refine segs_load (HS5.out) ?_ ?_; focus (intro h; first | exact ⟨R, _, rfl, by simp⟩ | (simp [Region.wanted, yielded] at h; done))) | fail); go_wp2_with fail))
            refine ms5.out.mono ?_
            rintro e w6 ⟨rfl, rfl⟩
            clear ms5
            go_wp2_with fail
            (repeat ((first | (refine segs_nil ?_) | (refine segs_go (HS5.out) ?_ ?_; focus (simp [isLoad]; done)) | (refine segs_load (HS5.out) ?_ ?_; focus (intro h; first | exact ⟨R, _, rfl, by simp⟩ | (simp [Region.wanted, yielded] at h; done))) | fail); go_wp2_with fail))
            refine cl5.out.mono ?_
            rintro e w6 ⟨rfl, rfl⟩
            clear cl5
            go_wp2_with fail
            (repeat ((first | (refine segs_nil ?_) | (refine segs_go (HS5.out) ?_ ?_; focus (simp [isLoad]; done)) | (refine segs_load (HS5.out) ?_ ?_; focus (intro h; first | exact ⟨R, _, rfl, by simp⟩ | (simp [Region.wanted, yielded] at h; done))) | fail); go_wp2_with fail))
            refine al5.out.mono ?_
            rintro e w6 ⟨⟨v6, rfl, ho6⟩, h6, k6⟩
            obtain ⟨a6, c6, rfl⟩ := owns_slice ho6
            have HS6 := Lib.hid (StayB.kept HS5.out k6 (by intro b hb; simp only [List.mem_singleton] at hb; subst hb; exact ⟨B5.out.lt, RC.out⟩))
            have B6 := Lib.hid (B5.out.kept k6 RC.out)
            have c1 := B6.out.cell 1
            obtain ⟨Q, hrow⟩ := h6.row c1
            have IN := Lib.hid (ints_any (.slice a6 Y c6) (.slice va Y vc) ys ys _ _ w6 (VRow.of_owns ho6) hrow)
            have S6 := Lib.hid h6
            have hyy : decide (ys = ys) = true := by simp
            rw [hyy] at IN
            clear al5 ho6 h6 k6 hrow c2 c3 hyy
            go_wp2_with fail
            (repeat ((first | (refine segs_nil ?_) | (refine segs_go (HS6.out) ?_ ?_; focus (simp [isLoad]; done)) | (refine segs_load (HS6.out) ?_ ?_; focus (intro h; first | exact ⟨R, _, rfl, by simp⟩ | (simp [Region.wanted, yielded] at h; done))) | fail); go_wp2_with fail))
            refine IN.out.mono ?_
            rintro e w7 ⟨rfl, k7⟩
            have S7 := Lib.hid (S6.out.still k7)
            have HS7 := Lib.hid (StayB.stil HS6.out (cellsB_cons CP.out cellsB_nil) k7)
            clear k7 c1
            go_wp2_with fail
            (repeat ((first | (refine segs_nil ?_) | (refine segs_go (HS7.out) ?_ ?_; focus (simp [isLoad]; done)) | (refine segs_load (HS7.out) ?_ ?_; focus (intro h; first | exact ⟨R, _, rfl, by simp⟩ | (simp [Region.wanted, yielded] at h; done))) | fail); go_wp2_with fail))
            go_roundw
            case rel => exact ⟨k + 1, _, _, _, by omega, by go_num, by rw [← HY.out]; exact hyk, hmy, S7.out⟩
            case measure => simp [intOf]; omega

    · obtain rfl : k = len1 := by omega
      go_wp2_with fail
      go_ret
      exact ⟨rfl, hbel⟩
end Go.Proofs.Ytlpmfiplcikfpaa
