/-
  What stands here: the walk of WheelAhead. Under no condition but that its arguments fit their types.
-/
import Derived.Test.YthinhbaklcijmaaWheelAlive
import Derived.Test.YthinhbaklcijmaaWheelFront
namespace Go.Proofs.Ythinhbaklcijmaa
set_option linter.unusedVariables false
set_option linter.unusedSimpArgs false
open Go.RowKit Go.Proofs
/-- a wheel whose values are the deadlines -/
structure WA (s : LS) (v : Nat) (lv : Nat → Nat) (sl : Nat → Nat → Nat) (bd : Nat) (S : WSt) (k : Nat) (w W : World) : Prop where
  x : WX_u s v lv sl bd S w W
  val : ∀ e, Stands S.pl e → S.val e 0 = .int .u64 ((S.due e : Nat) : Int)
  cnt : nAll S.pl ≤ k
section
variable {s s' : LS} {v : Nat} {lv : Nat → Nat} {sl : Nat → Nat → Nat} {bd : Nat} {S S' : WSt} {k : Nat} {w W W' : World}
theorem WA.still (h : WA s v lv sl bd S k w W) (kk : Still W W') : WA s v lv sl bd S k w W' := ⟨h.x.still kk, h.val, h.cnt⟩
theorem WA.below (h : WA s v lv sl bd S k w W) (kk : Below W.heap.size W W') : WA s v lv sl bd S k w W' := ⟨h.x.below kk, h.val, h.cnt⟩
theorem WA.ins (h : WA s v lv sl bd S k w W) (x : WX_u s' v lv sl bd S' w W') {e d : Nat} (i : XIns s s' S S' e d (fun _ => .int .u64 (d : Int)) W W') : WA s' v lv sl bd S' (k + 1) w W' :=
  ⟨x, fun y hy => by
    by_cases hye : y = e
    · rw [hye, i.val, i.due, upd_same, upd_same]
    · rw [i.val, i.due, upd_ne _ _ hye, upd_ne _ _ hye]
      rcases (i.st y).1 hy with h1 | h1
      · exact h.val y h1
      · exact absurd h1 hye, by have := h.cnt; rw [i.cnt]; omega⟩
theorem WA.adv (h : WA s v lv sl bd S k w W) (x : WX_u s' v lv sl bd S' w W') {es : List Nat} {R : Value} (a : XAdv s s' S S' es R W W') : WA s' v lv sl bd S' k w W' :=
  ⟨x, fun y hy => by rw [a.val, a.due]; exact h.val y ((a.st y).1 hy).1, by have := a.cnt; have := h.cnt; omega⟩
theorem WA.more (h : WA s v lv sl bd S k w W) {k' : Nat} (hk : k ≤ k') : WA s v lv sl bd S k' w W := ⟨h.x, h.val, Nat.le_trans h.cnt hk⟩
end
set_option maxHeartbeats 4000000 in
set_option maxRecDepth 100000 in
theorem wheelAhead_walk (a0 : Int) (a1 : Option Addr) (len1 cap1 : Nat) (f1_0 : Nat → Int) (f1_1 : Nat → Int) (f1_2 : Nat → Int) (w : World) (w0 : (Lit.int .u64 a0).wf = true) (w1 : (len1 ≤ cap1 ∧ cap1 ≤ maxLen) ∧ (0 < len1 → ∃ b o, a1 = some ⟨b, o, none⟩ ∧ b < w.heap.size ∧ ∀ i, i < len1 → w.cell? ⟨b, o + i * 3, none⟩ = some (.int .i64 (f1_0 i)) ∧ (Lit.int .i64 (f1_0 i)).wf = true ∧ w.cell? ⟨b, o + i * 3 + 1, none⟩ = some (.int .i64 (f1_1 i)) ∧ (Lit.int .i64 (f1_1 i)).wf = true ∧ w.cell? ⟨b, o + i * 3 + 2, none⟩ = some (.int .u64 (f1_2 i)) ∧ (Lit.int .u64 (f1_2 i)).wf = true)) :
    Calls Try.prog 4 #[.int .u64 a0, .slice a1 len1 cap1] w fun e w' => e = .returned (.bool true) ∧ Below w.heap.size w w' := by
  have h0 := bd_u64 w0
  obtain ⟨⟨hlc, hcm⟩, hin⟩ := w1
  unfold maxLen at hcm
  have HIN := Lib.hid hin
  clear w0 hin
  obtain ⟨N0, rfl⟩ : ∃ N0 : Nat, a0 = N0 := ⟨a0.toNat, by omega⟩
  by_cases h60 : 60 < len1
  · as_aux_lemma =>
      go_enter Try.func4, Try.ntmps4
      go_wp2_with fail
      refine (alive_any _).mono ?_
      rintro e w1 ⟨rfl, k1⟩
      go_wp2_with fail
      go_ret
      exact ⟨rfl, k1⟩
  go_enter Try.func4, Try.ntmps4
  go_wp2_with fail
  refine (alive_any _).mono ?_
  rintro e w1 ⟨rfl, k1⟩
  go_wp2_with fail
  refine (xnew_u N0 (by omega) w w1 k1).mono ?_
  rintro r w2 ⟨v, s, lv, sl, bd, S, rfl, x2, n2, p2, k2, z2', y2⟩
  have A2 := Lib.hid (show WA s v lv sl bd S 0 w w2 from ⟨x2, fun e ⟨q, _, he⟩ => by (rw [p2 q] at he; cases he), by rw [nAll_none p2]; exact Nat.le_refl _⟩)
  clear x2 n2 p2 k2 z2' y2 k1
  go_wp2_with fail
  go_loopw [6, 7, 8, 9, 10, 11, 12, 13, 14] (fun i _ _ _ _ _ _ _ _ wr => ∃ (k : Nat) (s : LS) (S : WSt), k ≤ len1 ∧ i = .int .i64 k ∧ WA s v lv sl bd S k w wr) (fun i _ _ _ _ _ _ _ _ _ => len1 - (intOf i).toNat)
  case atStart => exact ⟨0, s, S, Nat.zero_le _, rfl, A2.out⟩
  case round =>
    obtain ⟨k, s1, S1, hk, rfl, hA⟩ := hrel
    have A := Lib.hid hA
    clear hA
    by_cases hkl : k < len1
    · obtain ⟨ab, ao, rfl, hab, hin⟩ := HIN.out (by omega)
      obtain ⟨q0, x0, q1, x1, q2, x2⟩ := hin k hkl
      have hbel := A.out.x.bel
      have c0 : wr.cell? ⟨ab, ao + k * 3, none⟩ = some (.int .i64 (f1_0 k)) := (hbel.cell (p := ⟨ab, ao + k * 3, none⟩) hab).trans q0
      have C := Lib.hid (show ∀ W, Below w.heap.size w W → W.cell? ⟨ab, ao + k * 3, none⟩ = some (.int .i64 (f1_0 k)) ∧ W.cell? ⟨ab, ao + k * 3 + 1, none⟩ = some (.int .i64 (f1_1 k)) ∧ W.cell? ⟨ab, ao + k * 3 + 2, none⟩ = some (.int .u64 (f1_2 k)) from fun W hW =>
        ⟨(hW.cell (p := ⟨ab, ao + k * 3, none⟩) hab).trans q0, (hW.cell (p := ⟨ab, ao + k * 3 + 1, none⟩) hab).trans q1, (hW.cell (p := ⟨ab, ao + k * 3 + 2, none⟩) hab).trans q2⟩)
      replace x1 := bd_i64 x1
      replace x2 := bd_u64 x2
      clear q0 q1 q2 x0 hin hbel
      generalize f1_0 k = kind at *
      generalize f1_1 k = ni at *
      generalize f1_2 k = D at *
      obtain ⟨d, rfl⟩ : ∃ d : Nat, D = d := ⟨D.toNat, by omega⟩
      obtain ⟨M, hM⟩ : ∃ M : Nat, (max 0 ni) % 130 = (M : Int) := ⟨((max 0 ni) % 130).toNat, by omega⟩
      have hM130 : M < 130 := by omega
      obtain ⟨b, hb⟩ : ∃ b, (kind == 0) = b := ⟨_, rfl⟩
      go_upto_if 33 with fail
      go_cut [] from 22 to 149 (fun wx => ∃ (s : LS) (S : WSt), WA s v lv sl bd S (k + 1) w wx)
      case first =>
        by_cases hk0 : kind = 0
        · obtain rfl : b = true := by rw [← hb, hk0]; rfl
          clear hk0
          have c2 := (C.out wr A.out.x.bel).2.2
          have CB := Lib.hid (cells_of_cell c2)
          clear hb
          go_upto_region 10 with fail
          refine wp_region_text ([4], [9]) [ab] (by kernel_rfl) (by kernel_rfl) (cellsB_cons CB.out cellsB_nil) (by simp [segs, isEff, isLoad, askOps, asks, ptrEq, eqOrNe, isNil]; rfl) ?_
          (repeat ((first | (refine segs_nil ?_) | (refine segs_go (stay_drew) ?_ ?_; focus (simp [isLoad]; done)) | (refine segs_load (stay_drew) ?_ ?_; focus (intro h; first | exact ⟨ab, _, rfl, by simp⟩ | (simp [Region.wanted, yielded] at h; done))) | fail); go_wp2_with fail))
          by_cases hd : d ≤ S1.now
          · refine (wins_no_u _ (A.out.x.wb.still ((still_refl wr).drewN 1)) d hd _).mono ?_
            rintro r w4 ⟨rfl, rfl⟩
            go_wp2_with fail
            refine segs_go stay_drew (by simp [isLoad]) ?_
            go_wp2_with fail
            refine segs_nil ?_
            go_wp2_with fail
            go_meet
            exact ⟨s1, S1, (A.out.still ((still_refl wr).drewN 1)).more (by omega)⟩
          · have hcn := A.out.cnt
            refine (xins_u (A.out.x.still ((still_refl wr).drewN 1)) (by omega) d (by omega) (by omega) _).mono ?_
            rintro r w4 ⟨rfl, s4, S4, x4, i4⟩
            have A4 := Lib.hid ((A.out.still ((still_refl wr).drewN 1)).ins x4 i4)
            have hs4 : StayB [ab] wr w4 := fun b hb => by
              rw [List.mem_singleton.1 hb]; exact (A4.out.x.bel.block ab hab).trans (A.out.x.bel.block ab hab).symm
            clear x4 i4
            go_wp2_with fail
            refine segs_go hs4 (by simp [isLoad]) ?_
            go_wp2_with fail
            refine segs_nil ?_
            go_wp2_with fail
            go_meet
            exact ⟨s4, S4, A4.out⟩
        · obtain rfl : b = false := by rw [← hb, beq_eq_false_iff_ne]; exact hk0
          clear hb
          go_wp2_with fail
          go_meet
          exact ⟨s1, S1, A.out.more (by omega)⟩
      case rest =>
        obtain ⟨s3, S3, hA3⟩ := hcut
        have A3 := Lib.hid hA3
        have c0 := (C.out wc hA3.x.bel).1
        clear hA3 hb
        obtain ⟨b2, hb2⟩ : ∃ b, (kind == 2) = b := ⟨_, rfl⟩
        go_upto_if 51 with fail
        go_cut [7] from 22 to 149 (fun _ wx => ∃ (s : LS) (S : WSt), WA s v lv sl bd S (k + 1) w wx)
        case first =>
          by_cases hk2 : kind = 2
          · obtain rfl : b2 = true := by rw [← hb2, hk2]; rfl
            clear hb2 hk2
            go_wp2_with fail
            go_loopw [7] (fun i wr => ∃ (q : Nat) (s : LS) (S : WSt), q ≤ M ∧ i = .int .i64 q ∧ WA s v lv sl bd S (k + 1) w wr) (fun i _ => M - (intOf i).toNat)
            case atStart => exact ⟨0, s3, S3, Nat.zero_le _, rfl, A3.out⟩
            case round =>
              obtain ⟨q, s4, S4, hq, rfl, hA4⟩ := hrel
              have A4 := Lib.hid hA4
              have c1 := (C.out wr hA4.x.bel).2.1
              have hcn := hA4.cnt
              clear hA4
              by_cases hqm : q < M
              · by_cases hov : S4.now = 18446744073709551615
                · go_wp2_with fail
                  refine (wadv_over_u wr A4.out.x.wb hov).mono ?_
                  rintro r w5 ⟨rfl, k5⟩
                  have A5 := Lib.hid (A4.out.still k5)
                  clear k5
                  go_wp2_with fail
                  go_roundw
                  case rel => exact ⟨q + 1, s4, S4, by omega, by go_num, A5.out⟩
                  case measure => simp [intOf]; omega
                · have hnw := A4.out.x.wb.now
                  go_wp2_with fail
                  refine (xadv_u A4.out.x (by omega) (by omega)).mono ?_
                  rintro r w5 ⟨s5, S5, es, R, rfl, x5, a5⟩
                  have A5 := Lib.hid (A4.out.adv x5 a5)
                  clear x5 a5
                  go_wp2_with fail
                  go_roundw
                  case rel => exact ⟨q + 1, s5, S5, by omega, by go_num, A5.out⟩
                  case measure => simp [intOf]; omega
              · obtain rfl : q = M := by omega
                go_wp2_with fail
                go_meet
                exact ⟨s4, S4, A4.out⟩
          · obtain rfl : b2 = false := by rw [← hb2, beq_eq_false_iff_ne]; exact hk2
            clear hb2 hk2
            go_wp2_with fail
            go_meet
            exact ⟨s3, S3, A3.out⟩
        case rest =>
          obtain ⟨s4, S4, hA4⟩ := hcut
          have A4 := Lib.hid hA4
          have hcn := hA4.cnt
          have HV := Lib.hid (show ∀ q e, q < 257 → e ∈ S4.pl q → S4.val e 0 = .int .u64 ((S4.due e : Nat) : Int) from fun q e hq he => hA4.val e ⟨q, hq, he⟩)
          have HR := Lib.hid hA4.x.right
          have hnow := hA4.x.wb.now
          have HD := Lib.hid (show ∀ q e, q < 257 → e ∈ S4.pl q → S4.due e < 18446744073709551616 from fun q e hq he => (hA4.x.wb.ent q e hq he).2.2.2.2.2.2.2.1)
          clear hA4 hb2 c0
          go_wp2_with fail
          refine (wbeyond_u _ A4.out.x.wb (by omega) (fun e => ((S4.due e : Nat) : Int)) (fun e he => HV.out 256 e (by omega) he)).mono ?_
          rintro r w5 ⟨⟨r5, rfl, o5⟩, bel5⟩
          have A5 := Lib.hid (A4.out.below bel5)
          obtain ⟨ra, rc, rfl⟩ := owns_slice o5
          clear bel5 o5
          go_wp2_with fail
          go_loopw [8, 9, 10, 11, 12] (fun n i _ _ _ wr => ∃ l : Nat, l ≤ 4 ∧ i = .int .i64 l ∧ n = .int .i64 (psm S4.pl (l * 64) + (S4.pl 256).length : Nat) ∧ WA s4 v lv sl bd S4 (k + 1) w wr) (fun _ i _ _ _ _ => 4 - (intOf i).toNat)
          case atStart => exact ⟨0, by omega, rfl, by rw [Nat.zero_mul, psm_zero, Nat.zero_add], A5.out⟩
          case round =>
            obtain ⟨l, hl, rfl, rfl, hA6⟩ := hrel
            have A6 := Lib.hid hA6
            clear hA6
            by_cases hll : l < 4
            · have hdl : decide ((l : Int) < 4) = true := decide_eq_true (by omega)
              go_wp2_with fail
              go_loopw [8, 10, 11, 12] (fun n i _ _ wr => ∃ p : Nat, p ≤ 64 ∧ i = .int .i64 p ∧ n = .int .i64 (psm S4.pl (l * 64 + p) + (S4.pl 256).length : Nat) ∧ WA s4 v lv sl bd S4 (k + 1) w wr) (fun _ i _ _ _ => 64 - (intOf i).toNat)
              case atStart => exact ⟨0, by omega, rfl, rfl, A6.out⟩
              case round =>
                obtain ⟨p, hp, rfl, rfl, hA7⟩ := hrel
                have A7 := Lib.hid hA7
                clear hA7
                by_cases hpp : p < 64
                · have hq9 : l * 64 + p < 257 := by omega
                  have hps := psm_succ S4.pl (l * 64 + p)
                  have hple := psm_le S4.pl (m := l * 64 + p + 1) (by omega)
                  have HPS := Lib.hid hps
                  have hlb : (S4.pl (l * 64 + p)).length + (psm S4.pl (l * 64 + p) + (S4.pl 256).length) ≤ 100 := by omega
                  clear hps hple
                  generalize hpm : psm S4.pl (l * 64 + p) + (S4.pl 256).length = nn at *
                  have HPM := Lib.hid hpm
                  clear hpm
                  go_wp2_with fail
                  refine (wat_u _ A7.out.x.wb (by omega) (fun e => ((S4.due e : Nat) : Int)) l p hll hpp (fun e he => HV.out _ e hq9 he)).mono ?_
                  rintro r w8 ⟨⟨r8, rfl, o8⟩, bel8⟩
                  have A8 := Lib.hid (A7.out.below bel8)
                  have R8 := Lib.hid ((VRow.of_owns o8).mono (R := fun _ => True) (fun _ _ => trivial))
                  obtain ⟨ra8, rc8, rfl⟩ := owns_slice o8
                  clear bel8 o8
                  go_wp2_with fail
                  go_loopw [12] (fun i wr => ∃ q : Nat, q ≤ (S4.pl (l * 64 + p)).length ∧ i = .int .i64 q ∧ WA s4 v lv sl bd S4 (k + 1) w wr ∧ VRow (fun _ => True) wr (.slice ra8 (S4.pl (l * 64 + p)).length rc8) ((S4.pl (l * 64 + p)).map fun e => Value.int .u64 ((S4.due e : Nat) : Int))) (fun i _ => (S4.pl (l * 64 + p)).length - (intOf i).toNat)
                  case atStart => exact ⟨0, Nat.zero_le _, rfl, A8.out, R8.out⟩
                  case round =>
                    obtain ⟨q, hq, rfl, hA9, hR9⟩ := hrel
                    have A9 := Lib.hid hA9
                    have R9 := Lib.hid hR9
                    clear hA9 hR9
                    by_cases hql : q < (S4.pl (l * 64 + p)).length
                    · obtain ⟨e, he⟩ : ∃ e, e = (S4.pl (l * 64 + p))[q] := ⟨_, rfl⟩
                      have hem : e ∈ S4.pl (l * 64 + p) := by rw [he]; exact List.getElem_mem hql
                      obtain ⟨hr1, hr2⟩ := HR.out (l * 64 + p) e hq9 hem
                      have hd64 := HD.out (l * 64 + p) e hq9 hem
                      obtain ⟨g1, g2, g3⟩ := plc_ahead hr1 hll hpp hr2
                      have hc0 := R9.out.at_.2.2.2
                      rw [List.length_map] at hc0
                      obtain ⟨gb, go, rfl, hgl, _, hcell⟩ := hc0 (by omega)
                      have c9 : wr.cell? ⟨gb, go + q, none⟩ = some (.int .u64 ((S4.due e : Nat) : Int)) := by
                        rw [hcell q hql, List.getElem?_map, List.getElem?_eq_getElem hql, he]; rfl
                      have HE := Lib.hid he
                      clear hc0 hcell he hr1 hr2 hem
                      generalize S4.due e = d9 at *
                      have G1 := Lib.hid g1
                      have G2 := Lib.hid g2
                      have G3 := Lib.hid g3
                      clear g1 g2 g3
                      go_wp2_with fail
                      refine (wnow_u _ A9.out.x.wb).mono ?_
                      rintro r w10 ⟨rfl, rfl⟩
                      go_wp2_with fail
                      refine (digit_any _ _ (by omega) _).mono ?_
                      rintro r w10 ⟨rfl, k10⟩
                      rw [if_pos (by omega), Int.toNat_natCast]
                      have hgd := G1.out
                      have A10 := Lib.hid (A9.out.still k10)
                      have c10 : w10.cell? ⟨gb, go + q, none⟩ = some (.int .u64 (d9 : Int)) := (World.cell?_of_block (a := ⟨gb, go + q, none⟩) (k10.block gb hgl (fun f => f))).trans c9
                      have hgl10 : gb < w10.heap.size := Nat.lt_of_lt_of_le hgl k10.size
                      have R10 := Lib.hid (R9.out.still k10)
                      clear c9 k10
                      generalize dg (S4.now : Int) l = D1 at *
                      go_wp2_with fail
                      refine (digit_any _ _ (by omega) _).mono ?_
                      rintro r w11 ⟨rfl, k11⟩
                      rw [if_pos (by omega), Int.toNat_natCast, G2.out]
                      have A11 := Lib.hid (A10.out.still k11)
                      have c11 : w11.cell? ⟨gb, go + q, none⟩ = some (.int .u64 (d9 : Int)) := (World.cell?_of_block (a := ⟨gb, go + q, none⟩) (k11.block gb hgl10 (fun f => f))).trans c10
                      have R11 := Lib.hid (R10.out.still k11)
                      clear c10 k11
                      go_wp2_with fail
                      refine (cut_any _ _ (by omega) _).mono ?_
                      rintro r w12 ⟨rfl, k12⟩
                      have A12 := Lib.hid (A11.out.still k12)
                      have R12 := Lib.hid (R11.out.still k12)
                      clear c11 k12
                      go_wp2_with fail
                      refine (wnow_u _ A12.out.x.wb).mono ?_
                      rintro r w13 ⟨rfl, rfl⟩
                      go_wp2_with fail
                      refine (cut_any _ _ (by omega) _).mono ?_
                      rintro r w13 ⟨rfl, k13⟩
                      have A13 := Lib.hid (A12.out.still k13)
                      have R13 := Lib.hid (R12.out.still k13)
                      clear k13
                      have hl1 : ((l : Int) + 1).toNat = l + 1 := by omega
                      rw [hl1, G3.out]
                      clear hl1
                      go_wp2_with fail
                      go_roundw
                      case rel => exact ⟨q + 1, by omega, by go_num, A13.out, R13.out⟩
                      case measure => simp [intOf]; omega
                    · obtain rfl : q = (S4.pl (l * 64 + p)).length := by omega
                      go_wp2_with fail
                      go_roundw
                      case rel =>
                        exact ⟨p + 1, by omega, by go_num, by rw [← Nat.add_assoc (l * 64) p 1, HPS.out, ← HPM.out]; go_num, A9.out⟩
                      case measure => simp [intOf]; omega
                · obtain rfl : p = 64 := by omega
                  go_wp2_with fail
                  go_roundw
                  case rel => exact ⟨l + 1, by omega, by go_num, by rw [show (l + 1) * 64 = l * 64 + 64 by omega], A7.out⟩
                  case measure => simp [intOf]; omega
            · obtain rfl : l = 4 := by omega
              have hall := nAll_psm S4.pl
              rw [show 4 * 64 = 256 from rfl, ← hall]
              clear hall
              go_wp2_with fail
              refine (wbeyond_u _ A6.out.x.wb (by omega) (fun e => ((S4.due e : Nat) : Int)) (fun e he => HV.out 256 e (by omega) he)).mono ?_
              rintro r w7 ⟨⟨r7, rfl, o7⟩, bel7⟩
              have A7 := Lib.hid (A6.out.below bel7)
              have R7 := Lib.hid ((VRow.of_owns o7).mono (R := fun _ => True) (fun _ _ => trivial))
              obtain ⟨ra7, rc7, rfl⟩ := owns_slice o7
              have hl7 := le_nAll S4.pl (q := 256) (by omega)
              clear bel7 o7
              go_wp2_with fail
              go_loopw [14] (fun i wr => ∃ q : Nat, q ≤ (S4.pl 256).length ∧ i = .int .i64 q ∧ WA s4 v lv sl bd S4 (k + 1) w wr ∧ VRow (fun _ => True) wr (.slice ra7 (S4.pl 256).length rc7) ((S4.pl 256).map fun e => Value.int .u64 ((S4.due e : Nat) : Int))) (fun i _ => (S4.pl 256).length - (intOf i).toNat)
              case atStart => exact ⟨0, Nat.zero_le _, rfl, A7.out, R7.out⟩
              case round =>
                obtain ⟨q, hq, rfl, hA9, hR9⟩ := hrel
                have A9 := Lib.hid hA9
                have R9 := Lib.hid hR9
                clear hA9 hR9
                by_cases hql : q < (S4.pl 256).length
                · obtain ⟨e, he⟩ : ∃ e, e = (S4.pl 256)[q] := ⟨_, rfl⟩
                  have hem : e ∈ S4.pl 256 := by rw [he]; exact List.getElem_mem hql
                  obtain ⟨hr1, hr2⟩ := HR.out 256 e (by omega) hem
                  have hd64 := HD.out 256 e (by omega) hem
                  have hc0 := R9.out.at_.2.2.2
                  rw [List.length_map] at hc0
                  obtain ⟨gb, go, rfl, hgl, _, hcell⟩ := hc0 (by omega)
                  have c9 : wr.cell? ⟨gb, go + q, none⟩ = some (.int .u64 ((S4.due e : Nat) : Int)) := by
                    rw [hcell q hql, List.getElem?_map, List.getElem?_eq_getElem hql, he]; rfl
                  have HE := Lib.hid he
                  have CG := Lib.hid (cells_of_cell c9)
                  clear hc0 hcell he hem
                  generalize S4.due e = d9 at *
                  have HR2 := Lib.hid hr2
                  clear hr2
                  go_upto_region 34 with fail
                  refine wp_region_text ([4], [9]) [gb] (by kernel_rfl) (by kernel_rfl) (cellsB_cons CG.out cellsB_nil) (by simp [segs, isEff, isLoad, askOps, asks, ptrEq, eqOrNe, isNil]; rfl) ?_
                  (repeat ((first | (refine segs_nil ?_) | (refine segs_go (stay_drew) ?_ ?_; focus (simp [isLoad]; done)) | (refine segs_load (stay_drew) ?_ ?_; focus (intro h; first | exact ⟨gb, _, rfl, by simp⟩ | (simp [Region.wanted, yielded] at h; done))) | fail); go_wp2_with fail))
                  refine (wnow_u _ (A9.out.still ((still_refl wr).drewN 1)).x.wb).mono ?_
                  rintro r w10 ⟨rfl, rfl⟩
                  go_wp2_with fail
                  (repeat ((first | (refine segs_nil ?_) | (refine segs_go (stay_drew) ?_ ?_; focus (simp [isLoad]; done)) | (refine segs_load (stay_drew) ?_ ?_; focus (intro h; first | exact ⟨gb, _, rfl, by simp⟩ | (simp [Region.wanted, yielded] at h; done))) | fail); go_wp2_with fail))
                  refine (apart_any _ _ (by omega) (by omega) _).mono ?_
                  rintro r w11 ⟨k9, hk9, rfl, k11⟩
                  have hk4 := plc_beyond HR2.out hk9
                  have A11 := Lib.hid ((A9.out.still ((still_refl wr).drewN 1)).still k11)
                  have HS11 := Lib.hid (StayB.stil (ds := [gb]) stay_drew (cellsB_cons CG.out cellsB_nil) k11)
                  have R11 := Lib.hid ((R9.out.still ((still_refl wr).drewN 1)).still k11)
                  have c11 : w11.cell? ⟨gb, go + q, none⟩ = some (.int .u64 (d9 : Int)) := (World.cell?_of_block (a := ⟨gb, go + q, none⟩) (k11.block gb hgl (fun f => f))).trans c9
                  clear hk9 k11 c9
                  go_wp2_with fail
                  (repeat ((first | (refine segs_nil ?_) | (refine segs_go (HS11.out) ?_ ?_; focus (simp [isLoad]; done)) | (refine segs_load (HS11.out) ?_ ?_; focus (intro h; first | exact ⟨gb, _, rfl, by simp⟩ | (simp [Region.wanted, yielded] at h; done))) | fail); go_wp2_with fail))
                  refine (wnow_u _ A11.out.x.wb).mono ?_
                  rintro r w12 ⟨rfl, rfl⟩
                  go_wp2_with fail
                  refine segs_go HS11.out (by simp [isLoad]) ?_
                  go_wp2_with fail
                  refine segs_nil ?_
                  go_wp2_with fail
                  go_roundw
                  case rel => exact ⟨q + 1, by omega, by go_num, A11.out, R11.out⟩
                  case measure => simp [intOf]; omega
                · obtain rfl : q = (S4.pl 256).length := by omega
                  go_wp2_with fail
                  refine (wlen_u _ A9.out.x.wb).mono ?_
                  rintro r w10 ⟨rfl, rfl⟩
                  go_wp2_with fail
                  go_roundw
                  case rel => exact ⟨k + 1, s4, S4, by omega, by go_num, A9.out⟩
                  case measure => simp [intOf]; omega
    · obtain rfl : k = len1 := by omega
      go_wp2_with fail
      go_ret
      exact ⟨rfl, A.out.x.bel⟩
end Go.Proofs.Ythinhbaklcijmaa
