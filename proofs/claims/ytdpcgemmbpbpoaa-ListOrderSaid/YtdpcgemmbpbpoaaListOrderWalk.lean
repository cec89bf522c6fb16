/-
  What stands here: the walk of ListOrder. Under no condition but that its arguments fit their types.
-/
import Derived.Test.YtdpcgemmbpbpoaaListOrd
import Derived.Maps.Own
namespace Go.Proofs.Ytdpcgemmbpbpoaa
set_option linter.unusedVariables false
set_option linter.unusedSimpArgs false
open Go.RowKit Go.Proofs

set_option maxHeartbeats 4000000 in
set_option maxRecDepth 100000 in
theorem listOrder_walk (a0 : Option Addr) (len0 cap0 : Nat) (z0 : List Int) (a1 : Option Addr) (len1 cap1 : Nat) (z1 : List Int) (w : World) (w0 : IsRow .i64 w a0 len0 cap0 z0) (w1 : IsRow .u8 w a1 len1 cap1 z1) :
    Calls Try.prog 5 #[.slice a0 len0 cap0, .slice a1 len1 cap1] w fun e w' => e = .returned (.bool true) ∧ Below w.heap.size w w' := by
  have hle0 := w0.le
  have hle1 := w1.le
  unfold maxLen at hle0 hle1
  have HA := Lib.hid w0
  have HB := Lib.hid w1
  clear w0 w1
  obtain ⟨i0, hi, hz0, hz1, hz2⟩ := info_parts infoNode
  obtain ⟨j0, hj, hj0, hj1, hj2⟩ := info_parts infoElem_i
  by_cases h200 : 200 < len0
  · go_enter Try.func5, Try.ntmps5
    go_wp2_with fail
    refine (alive_any _).mono ?_
    rintro e w1 ⟨rfl, k1⟩
    go_wp2_with fail
    go_ret
    exact ⟨rfl, k1⟩
  by_cases h201 : 200 < len1
  · go_enter Try.func5, Try.ntmps5
    go_wp2_with fail
    refine (alive_any _).mono ?_
    rintro e w1 ⟨rfl, k1⟩
    go_wp2_with fail
    go_ret
    exact ⟨rfl, k1⟩
  have hzl : len0 ≤ z0.length := by
    rcases HA.out with ⟨_, h, _⟩ | ⟨x, _, hl, _, hzl, _, hw⟩ <;> omega
  have hmm := @run_makeMap Try.prog
  go_enter Try.func5, Try.ntmps5
  go_wp2_with fail
  refine (alive_any _).mono ?_
  rintro e w1 ⟨rfl, k1⟩
  go_wp2_with fail
  refine (oNew_i LS.zero w1 (LW_i.zero w1)).mono ?_
  rintro e w2 ⟨rfl, z2, k2, s2, h2, n2, l2, q2, v2⟩
  have hw1 := k1.size
  generalize hL : w1.heap.size + 1 = L at *
  have hw2 := k2.size
  have S3 : ∃ col, OrdI w.heap.size L w2.heap.size [] (.slice none 0 0) [] col s2 0 (fun _ => false) w (w2.alloc (.map #[] 0)) := by
    have c2 : Lst (ext (fun _ => 0) w1.heap.size 1) 1 s2 w2 := Lst.turn (s := LS.zero) (W := w1) ⟨LW_i.zero w1, fun y hy => absurd rfl hy⟩ h2 n2
    have f2 := ((Fr.start k1).step (c := 1) (by decide) (k2.mono (fun _ _ f => f.elim)))
    have k3 : Kept (fun x => ext (fun _ => 0) w1.heap.size 1 x = 3) w2 (w2.alloc (.map #[] 0)) := (Kept.refl _ _).alloc _
    refine ⟨ext (ext (fun _ => 0) w1.heap.size 1) w2.heap.size 3, f2.step (by decide) k3, c2.go k3 (by decide), Owns.nil _ _ _ _ _, ⟨?_, ?_⟩, l2, fun y hy => ?_, fun x hx => absurd hx List.not_mem_nil, List.nodup_nil, rfl⟩
    · exact MapB.new _ _ _ _
    · exact ext_new _ (Nat.le_refl _)
    · rw [q2, upd_ne _ _ hy]; rfl
  obtain ⟨c3, S3⟩ := S3
  have Q3 : s2.sq L = [] := by rw [q2, upd_same]
  have HS3 := Lib.hid S3
  have HQ3 := Lib.hid Q3
  clear h2 n2 l2 q2 v2 S3 Q3 hL
  go_wp2_with fail
  generalize w2.heap.size = mb at *
  generalize w2.alloc (.map #[] 0) = w3 at *
  clear hmm z2 k2 k1
  go_loopw [6, 8] (fun nv i wr => ∃ (k : Nat) (s : LS) (xs : List Nat) (col : Nat → Nat), k ≤ len0 ∧ i = .int .i64 k ∧ OrdI w.heap.size L mb (z0.take k) nv xs col s 0 (fun _ => false) w wr ∧ s.sq L = xs) (fun _ i _ => len0 - (intOf i).toNat)
  case atStart => exact ⟨0, _, _, _, Nat.zero_le _, rfl, HS3.out, HQ3.out⟩
  case round =>
    obtain ⟨k, s, xs, col, hk, rfl, hS, hQ⟩ := hrel
    have HS := Lib.hid hS
    have HQ := Lib.hid hQ
    have hln := hS.len
    rw [List.length_take, Nat.min_eq_left (by omega)] at hln
    have HLn := Lib.hid hln
    have hz := hS.fr.size
    clear hS hQ hln
    by_cases hlk : k < len0
    · obtain ⟨ab, ao, rfl, hab, hac⟩ := HA.out.at_ (by omega)
      have c1 := (HS.out.fr.cell (p := ⟨ab, ao + k, none⟩) hab).trans (hac k hlk)
      generalize hu : z0.getD k 0 = u at *
      have HU := Lib.hid hu
      clear hac hu
      go_wp2_with fail
      refine (oPush_i _ _ HS.out.ls.1 L u HS.out.kl (by rw [HQ.out, ← HLn.out]; omega)).mono ?_
      rintro e w4 ⟨rfl, z4, k4, s4, h4, n4, d4, q4, v4⟩
      obtain ⟨p1, p2, p3, p4⟩ := HS.out.push h4 k4 n4 q4 v4
      rw [HQ.out] at p4
      have P1 := Lib.hid p1
      have P2 := Lib.hid (show wr.heap.size ∉ xs ∧ LV s4 wr.heap.size = .int .i64 u ∧ s4.sq L = xs ++ [wr.heap.size] ∧ s4.kd wr.heap.size = 2 from ⟨p2, p3, p4, d4⟩)
      have hxl : xs.length ≤ 200 := by rw [← HLn.out]; omega
      clear k4 h4 n4 q4 v4 d4 c1 p1 p2 p3 p4
      generalize wr.heap.size = x at *
      have hoa := P1.out.row.alloc (.cells #[.pointer (some ⟨x, 0, none⟩)] 28)
      go_wp2_with (first | (at_builtin; refine wpList_append _ rfl _ _ 27 rfl 0 28 i0 (.pointer none) 1 8 Try.underlying27 hi hz0 hz1 hz2 rfl (by decide) _ _ _ rfl (hoa) ⟨w4.heap.size, 0, none⟩ 1 1 [.pointer (some ⟨x, 0, none⟩)] rfl rfl (by intro j u hj; match j, hj with | 0, hj => simp at hj; subst hj; first | (simp [Addr.add]; done) | exact (Blk.newAt _ _ _ (by simp)).cell 0) (by intro u hu; simp at hu; subst hu; rfl) (by unfold maxLen; omega) (by omega) (by first | omega | (simp; omega) | simp) ?_) | fail)
      intro nv' w5 hap
      have S5 := Lib.hid (P1.out.more hap P2.out.2.2.2 P2.out.1 P2.out.2.1)
      clear hap hoa
      go_wp2_with fail
      go_roundw
      case rel =>
        have h9 := S5.out
        rw [show z0.take k ++ [u] = z0.take (k + 1) by rw [List.take_succ_eq_append_getElem (by omega), ← HU.out, List.getD_eq_getElem?_getD, List.getElem?_eq_getElem (by omega)]; rfl] at h9
        exact ⟨k + 1, s4, xs ++ [x], _, by omega, by go_num, h9, P2.out.2.2.1⟩
      case measure => simp [intOf]; omega
    · obtain rfl : k = len0 := by omega
      obtain ⟨na, nc, rfl, hnle, hnc⟩ := HS.out.row.form
      have hzk : ((z0.take k).map (Value.int .i64)).length = k := by rw [List.length_map, List.length_take]; omega
      rw [← HLn.out]
      have B0 := Lib.hid (show s.sq L = sel (fun q => !(fun _ => false : Int → Bool) q) 0 xs by rw [HQ.out]; exact (sel_all 0 xs (fun _ _ _ => rfl)).symm)
      have NC := Lib.hid hnc
      clear hnle hnc hzk hi hz0 hz1 hz2 i0
      go_wp2_with fail
      go_loopw [9] (fun i wr => ∃ (j : Nat) (s : LS) (col : Nat → Nat) (m : Nat) (f : Int → Bool), j ≤ len1 ∧ i = .int .i64 j ∧ OrdI w.heap.size L mb (z0.take k) (.slice na k nc) xs col s m f w wr ∧ s.sq L = sel (fun q => !f q) 0 xs ∧ m ≤ j) (fun i _ => len1 - (intOf i).toNat)
      case atStart => exact ⟨0, _, _, _, _, Nat.zero_le _, rfl, by have h9 := HS.out; rw [← HLn.out] at h9; exact h9, B0.out, Nat.le_refl _⟩
      case round =>
        obtain ⟨j, s5, col5, m, f, hjn, rfl, hS5, hQ5, hm⟩ := hrel
        have S5 := Lib.hid hS5
        have Q5 := Lib.hid hQ5
        clear hS5 hQ5
        by_cases hgo : j < len1 ∧ 0 < k
        · obtain ⟨hjl, hk0⟩ := hgo
          obtain ⟨ob, oo, rfl, hob, hoc⟩ := HB.out.at_ (by omega)
          have c2 := (S5.out.fr.cell (p := ⟨ob, oo + j, none⟩) hob).trans (hoc j hjl)
          have hcj : 0 ≤ z1.getD j 0 ∧ z1.getD j 0 < 256 := by
            have hzl1 : j < z1.length := by
              rcases HB.out with ⟨_, h, _⟩ | ⟨x, _, hl, _, hzl, _, hw⟩ <;> omega
            rw [List.getD_eq_getElem?_getD, List.getElem?_eq_getElem hzl1]
            exact bd_u8 (HB.out.wf _ (List.getElem_mem _))
          generalize z1.getD j 0 = c at *
          have hpe : ((k : Int) == 0) = false := by rw [beq_eq_false_iff_ne]; omega
          obtain ⟨q, hq⟩ : ∃ q : Nat, (q : Int) = c % (k : Int) := ⟨(c % (k : Int)).toNat, by have := Int.emod_nonneg c (show (k : Int) ≠ 0 by omega); omega⟩
          have hqk : q < k := by have := Int.emod_lt_of_pos c (show (0 : Int) < k by omega); omega
          have HQq := Lib.hid hq
          have hxs : xs[q]? = some (xs[q]'(by rw [← HLn.out]; exact hqk)) := List.getElem?_eq_getElem _
          generalize xs[q]'(by rw [← HLn.out]; exact hqk) = x at hxs
          have HX := Lib.hid hxs
          have hxs0 := hxs
          have hxm : x ∈ xs := List.mem_of_getElem? hxs
          have hkx := S5.out.kx x hxm
          obtain ⟨g, rfl, hgl, hgc, hqx, hnx, hgx⟩ := S5.out.at_ rfl hxs
          clear hnx
          rw [Nat.zero_add] at hgx
          have CL := Lib.hid (cells_of_cell hgx)
          have ML := Lib.hid S5.out.mp.1.block
          have hwf : (Lit.int .i64 (q : Int)).wf = true := wf_nat (by omega)
          have HWF := Lib.hid hwf
          clear hq hoc hxs hxs0
          have hxs0 := HX.out
          go_wp2_with fail
          rw [← HQq.out]
          refine wp_region_text ([4], [9, 28]) [g, mb] (by kernel_rfl) (by kernel_rfl) (cellsB_cons CL.out (cellsB_map ML.out cellsB_nil)) (by simp [segs, isEff, isLoad, askOps, asks, ptrEq, eqOrNe, isNil]; rfl) ?_
          refine segs_go stay_drew (by simp [isLoad]) ?_
          go_wp2_with fail
          have S5d := S5.out.still ((still_refl wr).drewN 1)
          have hmx := S5.out.has Q5.out hxs0
          obtain ⟨E, hE⟩ : ∃ u : Int, (if x ∈ s5.sq L then 0 else 6) = u := ⟨_, rfl⟩
          have hEu : (E = 0 ∧ f q = false) ∨ (E = 6 ∧ f q = true) := by
            rcases hmx with ⟨h1, h2⟩ | ⟨h1, h2⟩
            · rw [if_pos h1] at hE; exact .inl ⟨hE.symm, h2⟩
            · rw [if_neg h1] at hE; exact .inr ⟨hE.symm, h2⟩
          have HE := Lib.hid hEu
          have hlen5 : (s5.sq L).length ≤ 200 := by
            have h9 := sel_len (fun q => !f q) 0 xs
            rw [← Q5.out, ← HLn.out] at h9
            omega
          clear hEu hmx
          refine segs_load stay_drew (fun _ => (by exact ⟨g, _, rfl, by simp⟩)) ?_
          go_wp2_with fail
          refine (oUnlink_i _ _ S5d.ls.1 L x S5.out.kl hkx (by omega)).mono ?_
          rintro e w6 ⟨rfl, k6, s6, h6, n6, q6, v6⟩
          rw [hE]
          have hs6 : StayB [g, mb] wr w6 := StayB.kept (w := wr.drew) stay_drew k6 (fun b hb => by
            rcases List.mem_cons.1 hb with rfl | hb
            · exact ⟨hgl, fun h9 => h9 (S5.out.free (by omega))⟩
            · obtain rfl := List.mem_singleton.1 hb
              exact ⟨S5.out.mp.1.lt, fun h9 => h9 (S5.out.free (by have := S5.out.mp.2; omega))⟩)
          have S6 := Lib.hid (S5d.lists h6 k6 (fun y _ => by rw [n6]) q6 (fun y _ => by rw [v6]))
          have Q6 := Lib.hid (S5.out.taken Q5.out hxs0 q6)
          have hlk := S5.out.mp.looks q hwf
          have HSt := Lib.hid hs6
          have hl6 := S6.out.mp.look q hwf
          clear h6 k6 n6 q6 v6 hE S5d
          go_wp2_with fail
          refine segs_go hs6 (by simp [isLoad]) ?_
          go_wp2_with fail
          refine segs_load hs6 (fun _ => (by exact ⟨_, fun w' h9 => hlk w' (h9 mb (by simp))⟩)) ?_
          have S6m := S6.out.mp.1
          obtain ⟨D, ho, hD⟩ := S6m
          have HD := Lib.hid hD
          clear hD hlk
          rcases HE.out with ⟨rfl, hf⟩ | ⟨rfl, hf⟩
          all_goals
            rw [hf] at hl6
            go_wp2_with fail
            refine segs_nil ?_
            go_wp2_with (first | (at_mapUpdate; refine wpList_mapUpdate_own _ rfl _ _ _ 55 rfl 3 4 (Go.Maps.int_keyed Try.underlying3) Try.underlying55 _ mb m _ rfl ho (by unfold maxLen; omega) _ _ _ rfl rfl (Go.Maps.keyOf_int_mk Try.underlying3 hwf) _ [] (Go.plainElem_bool Try.underlying4 true) ?_) | fail)
            intro w7 ho7 g7
            have S7 := Lib.hid (S6.out.mapped (MapB.put Try.underlying3 ho HD.out q hwf true ho7) g7)
            clear ho7 g7
            go_wp2_with fail
            go_roundw
            case rel => exact ⟨j + 1, s6, _, m + 1, _, by omega, by go_num, S7.out, Q6.out, by omega⟩
            case measure => simp [intOf]; omega
        · have hcond : (decide ((j : Int) < (len1 : Int)) && decide ((0 : Int) < (k : Int))) = false := by
            rw [Bool.and_eq_false_iff, decide_eq_false_iff_not, decide_eq_false_iff_not]; omega
          go_wp2_with fail
          all_goals
            have hm2 : m ≤ 200 := by omega
            go_loopw [11, 12, 13] (fun wv rv i wr => ∃ (t : Nat) (col : Nat → Nat), t ≤ k ∧ i = .int .i64 t ∧ OrdI w.heap.size L mb (z0.take k) (.slice na k nc) xs col s5 m f w wr ∧ Owns col 4 wr 3 1 wv (sel (fun q => !f q) 0 (z0.take t)).length ((sel (fun q => !f q) 0 (z0.take t)).map (.int .i64)) ∧ Owns col 5 wr 3 1 rv (sel (fun q => f q) 0 (z0.take t)).length ((sel (fun q => f q) 0 (z0.take t)).map (.int .i64))) (fun _ _ i _ => k - (intOf i).toNat)
            case atStart => exact ⟨0, _, Nat.zero_le _, rfl, S5.out, Owns.nil _ _ _ _ _, Owns.nil _ _ _ _ _⟩
            case round =>
              obtain ⟨t, col6, ht, rfl, hS6, hW6, hR6⟩ := hrel
              have S6 := Lib.hid hS6
              have W6 := Lib.hid hW6
              have R6 := Lib.hid hR6
              clear hS6 hW6 hR6
              by_cases htk : t < k
              · first
                | omega
                | (
                  obtain ⟨ab, ao, rfl, hab, hac⟩ := HA.out.at_ (by omega)
                  have c1 := (S6.out.fr.cell (p := ⟨ab, ao + t, none⟩) hab).trans (hac t htk)
                  have hlk := S6.out.mp.look t (wf_nat (by omega))
                  have HU := Lib.hid (show z0[t] = z0.getD t 0 by rw [List.getD_eq_getElem?_getD, List.getElem?_eq_getElem (by omega)]; rfl)
                  generalize z0.getD t 0 = u at *
                  have l1 := sel_len (fun q => !f q) 0 (z0.take t)
                  have l2 := sel_len (fun q => f q) 0 (z0.take t)
                  rw [List.length_take] at l1 l2
                  have e1 := Lib.hid (sel_take_succ (fun q => !f q) z0 (k := t) (by omega))
                  have e2 := Lib.hid (sel_take_succ (fun q => f q) z0 (k := t) (by omega))
                  obtain ⟨A, hA⟩ : ∃ A, A = sel (fun q => !f q) 0 (z0.take t) := ⟨_, rfl⟩
                  obtain ⟨B, hB⟩ : ∃ B, B = sel (fun q => f q) 0 (z0.take t) := ⟨_, rfl⟩
                  rw [← hA] at W6 l1 e1
                  rw [← hB] at R6 l2 e2
                  clear hac hA hB
                  cases hf : f t
                  · rw [hf] at hlk
                    have hoa := W6.out.alloc (.cells #[.int .i64 u] 3)
                    have F := Lib.hid hf
                    clear hf
                    go_wp2_with (first | (at_builtin; refine wpList_append _ rfl _ _ 26 rfl 0 3 j0 (.int .i64 0) 1 8 Try.underlying26 hj hj0 hj1 hj2 rfl (by decide) _ _ _ rfl (hoa) ⟨wr.heap.size, 0, none⟩ 1 1 [.int .i64 u] rfl rfl (by intro j u hj; match j, hj with | 0, hj => simp at hj; subst hj; first | (simp [Addr.add]; done) | exact (Blk.newAt _ _ _ (by simp)).cell 0) (by intro u hu; simp at hu; subst hu; rfl) (by unfold maxLen; omega) (by omega) (by first | omega | (simp; omega) | simp) ?_) | fail)
                    intro wv' w7 hap
                    obtain ⟨h1, k1⟩ := W6.out.app hap
                    have S7 := Lib.hid (S6.out.other (by decide) k1)
                    have R7 := Lib.hid (R6.out.go k1 (by decide))
                    have W7 := Lib.hid h1
                    clear hap hoa h1 k1
                    go_wp2_with fail
                    go_roundw
                    case rel =>
                      refine ⟨t + 1, _, by omega, by go_num, S7.out, ?_, ?_⟩
                      · rw [e1.out, if_pos (by simp [F.out]), HU.out, List.length_append, List.map_append]; exact W7.out
                      · rw [e2.out, if_neg (by simp [F.out]), List.append_nil]; exact R7.out
                    case measure => simp [intOf]; omega
                  · rw [hf] at hlk
                    have hoa := R6.out.alloc (.cells #[.int .i64 u] 3)
                    have F := Lib.hid hf
                    clear hf
                    go_wp2_with (first | (at_builtin; refine wpList_append _ rfl _ _ 26 rfl 0 3 j0 (.int .i64 0) 1 8 Try.underlying26 hj hj0 hj1 hj2 rfl (by decide) _ _ _ rfl (hoa) ⟨wr.heap.size, 0, none⟩ 1 1 [.int .i64 u] rfl rfl (by intro j u hj; match j, hj with | 0, hj => simp at hj; subst hj; first | (simp [Addr.add]; done) | exact (Blk.newAt _ _ _ (by simp)).cell 0) (by intro u hu; simp at hu; subst hu; rfl) (by unfold maxLen; omega) (by omega) (by first | omega | (simp; omega) | simp) ?_) | fail)
                    intro wv' w7 hap
                    obtain ⟨h1, k1⟩ := R6.out.app hap
                    have S7 := Lib.hid (S6.out.other (by decide) k1)
                    have W7 := Lib.hid (W6.out.go k1 (by decide))
                    have R7 := Lib.hid h1
                    clear hap hoa h1 k1
                    go_wp2_with fail
                    go_roundw
                    case rel =>
                      refine ⟨t + 1, _, by omega, by go_num, S7.out, ?_, ?_⟩
                      · rw [e1.out, if_neg (by simp [F.out]), List.append_nil]; exact W7.out
                      · rw [e2.out, if_pos (by simp [F.out]), HU.out, List.length_append, List.map_append]; exact R7.out
                    case measure => simp [intOf]; omega)
              · obtain rfl : t = k := by omega
                generalize hA : sel (fun q => !f q) 0 (z0.take t) = A at *
                generalize hB : sel (fun q => f q) 0 (z0.take t) = B at *
                have HAe := Lib.hid hA
                have HBe := Lib.hid hB
                clear hA hB
                obtain ⟨wa, wc, hwv, _, _⟩ := W6.out.form
                obtain ⟨ra, rc, hrv, _, _⟩ := R6.out.form
                subst hwv hrv
                have l1 := sel_len (fun q => !f q) 0 xs
                rw [← Q5.out, ← HLn.out] at l1
                go_wp2_with fail
                refine (ldrain_i _ _ S6.out.ls.1 L S6.out.kl (by omega) (fun x hx => S6.out.one x (mem_sel (by rw [← Q5.out]; exact hx)))).mono ?_
                rintro e w7 ⟨⟨v7, rfl, ho7⟩, ⟨s7, h7, n7, q7, v7'⟩, k7⟩
                have kk7 := k7.mono (T := fun y => s5.kd y ≠ 0) (fun y h8 h9 => by omega)
                have cc7 := S6.out.ls.col kk7
                rw [Q5.out, S6.out.vals, HAe.out] at ho7
                have S7 := Lib.hid (S6.out.lists h7 kk7 (fun y _ => by rw [n7]) q7 (fun y _ => v7' y))
                have W7 := Lib.hid (W6.out.go cc7 (by decide))
                have R7 := Lib.hid (R6.out.go cc7 (by decide))
                have Q7 := Lib.hid (show s7.sq L = [] by rw [q7, upd_same])
                have i7 := ints_any _ _ _ _ _ _ w7 ho7 W7.out.row
                rw [decide_eq_true rfl] at i7
                obtain ⟨av7, c7, rfl⟩ := ho7.len
                rw [List.length_map] at i7 ⊢
                clear k7 kk7 cc7 h7 n7 q7 v7' ho7
                go_wp2_with fail
                refine i7.mono ?_
                rintro e w8 ⟨rfl, k8⟩
                have S8 := Lib.hid (S7.out.still k8)
                have R8 := Lib.hid (R7.out.still k8)
                clear k8 i7
                go_wp2_with fail
                refine (llen_i _ _ S8.out.ls.1 L S8.out.kl).mono ?_
                rintro e w9 ⟨rfl, rfl⟩
                rw [Q7.out]
                go_wp2_with fail
                refine (lfirst_i _ _ S8.out.ls.1 L S8.out.kl).mono ?_
                rintro e w9 ⟨rfl, rfl⟩
                rw [Q7.out, show ptrO (hd [] none) = .pointer none from rfl]
                go_wp2_with fail
                have R9 := Lib.hid (show Owns _ 5 w8 3 1 (.slice ra B.length rc) (sel (fun q => f q) 0 (z0.take t)).length ((sel (fun q => f q) 0 (z0.take t)).map (.int .i64)) by rw [HBe.out]; exact R8.out)
                have Q9 := Lib.hid (show s7.sq L = sel (fun q => f q) 0 (xs.take 0) by rw [Q7.out]; rfl)
                have hna : ∀ q x, xs[q]? = some x → ∃ g, na = some ⟨g, 0, none⟩ := fun q x hx => by
                  obtain ⟨g, h9, _⟩ := S8.out.at_ rfl hx
                  exact ⟨g, h9⟩
                have HNA := Lib.hid hna
                clear hna
                go_loopw [14] (fun i wr => ∃ (p : Nat) (s : LS) (col : Nat → Nat), p ≤ t ∧ i = .int .i64 p ∧ OrdI w.heap.size L mb (z0.take t) (.slice na t nc) xs col s m f w wr ∧ s.sq L = sel (fun q => f q) 0 (xs.take p) ∧ Owns col 5 wr 3 1 (.slice ra B.length rc) (sel (fun q => f q) 0 (z0.take t)).length ((sel (fun q => f q) 0 (z0.take t)).map (.int .i64))) (fun i _ => t - (intOf i).toNat)
                case atStart => exact ⟨0, _, _, Nat.zero_le _, rfl, S8.out, Q9.out, R9.out⟩
                case round =>
                  obtain ⟨p, s9, col9, hp, rfl, hS9, hQ9, hR9⟩ := hrel
                  have S9 := Lib.hid hS9
                  have Q10 := Lib.hid hQ9
                  have R10 := Lib.hid hR9
                  clear hS9 hQ9 hR9
                  by_cases hpt : p < t
                  · have hlk := S9.out.mp.look p (wf_nat (by omega))
                    have hpx : p < xs.length := by rw [← HLn.out]; exact hpt
                    have hxs : xs[p]? = some xs[p] := List.getElem?_eq_getElem hpx
                    have e2 := Lib.hid (sel_take_succ (fun q => f q) xs hpx)
                    have hnot : xs[p] ∉ s9.sq L := fun h9 => by
                      rw [Q10.out] at h9
                      have h8 := mem_sel h9
                      obtain ⟨i, hi, hi2⟩ := List.mem_iff_getElem.1 h8
                      rw [List.length_take] at hi
                      rw [List.getElem_take] at hi2
                      have := (List.pairwise_iff_getElem.1 S9.out.nd) i p (by omega) hpx (by omega)
                      exact this hi2
                    have hkx := S9.out.kx _ (List.getElem_mem hpx)
                    generalize xs[p] = x at *
                    obtain ⟨g, rfl, hgl, hgc, hqx, hnx, hgx⟩ := S9.out.at_ rfl hxs
                    rw [Nat.zero_add] at hgx
                    have lq := sel_len (fun q => f q) 0 (xs.take p)
                    rw [← Q10.out, List.length_take] at lq
                    cases hf : f p
                    · rw [hf] at hlk
                      have F := Lib.hid hf
                      clear hf hnx
                      go_wp2_with fail
                      go_roundw
                      case rel =>
                        refine ⟨p + 1, _, _, by omega, by go_num, S9.out, ?_, R10.out⟩
                        rw [Q10.out, e2.out, if_neg (by simp [F.out]), List.append_nil]
                      case measure => simp [intOf]; omega
                    · rw [hf] at hlk
                      have F := Lib.hid hf
                      clear hf hnx
                      go_wp2_with fail
                      refine (oPut_i _ _ S9.out.ls.1 L x S9.out.kl hkx (fun l' h8 h9 => by
                        by_cases e : l' = L
                        · exact hnot (e ▸ h9)
                        · rw [S9.out.only l' e] at h9; cases h9) (by omega)).mono ?_
                      rintro e w10 ⟨rfl, k10, s10, h10, n10, q10, v10⟩
                      have S10 := Lib.hid (S9.out.lists h10 k10 (fun y _ => by rw [n10]) q10 (fun y _ => by rw [v10]))
                      have R11 := Lib.hid (R10.out.go (S9.out.ls.col k10) (by decide))
                      have Q11 := Lib.hid (show s10.sq L = s9.sq L ++ [x] by rw [q10, upd_same])
                      clear k10 h10 n10 q10 v10
                      go_wp2_with fail
                      go_roundw
                      case rel =>
                        refine ⟨p + 1, _, _, by omega, by go_num, S10.out, ?_, R11.out⟩
                        rw [Q11.out, Q10.out, e2.out, if_pos (by simp [F.out])]
                      case measure => simp [intOf]; omega
                  · obtain rfl : p = t := by omega
                    have hQx : s9.sq L = sel (fun q => f q) 0 xs := by rw [Q10.out, List.take_of_length_le (by rw [← HLn.out]; omega)]
                    have HQx := Lib.hid hQx
                    have lq := sel_len (fun q => f q) 0 xs
                    rw [← hQx, ← HLn.out] at lq
                    clear hQx
                    go_wp2_with fail
                    refine (lall_i _ _ S9.out.ls.1 L S9.out.kl (by omega) (fun x hx => S9.out.one x (mem_sel (by rw [← HQx.out]; exact hx)))).mono ?_
                    rintro e w10 ⟨⟨v10, rfl, ho10⟩, k10⟩
                    have k10' := still_of_below k10
                    rw [HQx.out, S9.out.vals, HBe.out] at ho10
                    have S10 := Lib.hid (S9.out.still k10')
                    have R11 := R10.out.still k10'
                    rw [HBe.out] at R11
                    have i10 := ints_any _ _ _ _ _ _ w10 ho10 R11.row
                    rw [decide_eq_true rfl] at i10
                    obtain ⟨av10, c10, rfl⟩ := ho10.len
                    rw [List.length_map] at i10 ⊢
                    clear k10 k10' ho10 R11
                    go_wp2_with fail
                    refine i10.mono ?_
                    rintro e w11 ⟨rfl, k11⟩
                    have S11 := Lib.hid (S10.out.still k11)
                    go_wp2_with fail
                    go_ret
                    exact ⟨rfl, S11.out.fr.bel⟩
end Go.Proofs.Ytdpcgemmbpbpoaa
