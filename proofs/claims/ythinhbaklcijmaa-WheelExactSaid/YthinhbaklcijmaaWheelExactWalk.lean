/-
  What stands here: the walk of WheelExact. Under no condition but that its arguments fit their types.
-/
import Derived.Test.YthinhbaklcijmaaWheelState2
namespace Go.Proofs.Ythinhbaklcijmaa
set_option linter.unusedVariables false
set_option linter.unusedSimpArgs false
open Go.RowKit Go.Proofs
theorem due_at {N t y : Nat} (h : N + 1 + y = N + t + 1) : y = t := by omega
theorem get_u8 {zs : List Int} (h : ∀ n ∈ zs, (Lit.int .u8 n).wf = true) (j : Nat) : 0 ≤ zs.getD j 0 ∧ zs.getD j 0 < 256 := by
  rcases Nat.lt_or_ge j zs.length with hj | hj
  · rw [List.getD_eq_getElem?_getD, List.getElem?_eq_getElem hj]
    exact bd_u8 (h _ (List.getElem_mem hj))
  · rw [List.getD_eq_getElem?_getD, List.getElem?_eq_none hj]; decide
set_option maxHeartbeats 4000000 in
set_option maxRecDepth 100000 in
theorem wheelExact_walk (a0 : Int) (a1 : Option Addr) (len1 cap1 : Nat) (z1 : List Int) (a2 : Option Addr) (len2 cap2 : Nat) (z2 : List Int) (a3 : Int) (w : World) (w0 : (Lit.int .u64 a0).wf = true) (w1 : IsRow .u16 w a1 len1 cap1 z1) (w2 : IsRow .u8 w a2 len2 cap2 z2) (w3 : (Lit.int .u16 a3).wf = true) :
    Calls Try.prog 5 #[.int .u64 a0, .slice a1 len1 cap1, .slice a2 len2 cap2, .int .u16 a3] w fun e w' => e = .returned (.bool true) ∧ Below w.heap.size w w' := by
  have h0 := bd_u64 w0
  have h3 := bd_u16 w3
  have hle1 := w1.le
  have hle2 := w2.le
  unfold maxLen at hle1 hle2
  have HA := Lib.hid w1
  have HB := Lib.hid w2
  clear w0 w1 w2 w3
  obtain ⟨N0, rfl⟩ : ∃ N0 : Nat, a0 = N0 := ⟨a0.toNat, by omega⟩
  obtain ⟨T0, rfl⟩ : ∃ T : Nat, a3 = T := ⟨a3.toNat, by omega⟩
  by_cases h60 : 60 < len1
  · as_aux_lemma =>
      go_enter Try.func5, Try.ntmps5
      go_wp2_with fail
      refine (alive_any _).mono ?_
      rintro e w1 ⟨rfl, k1⟩
      go_wp2_with fail
      go_ret
      exact ⟨rfl, k1⟩
  by_cases h61 : 60 < len2
  · as_aux_lemma =>
      go_enter Try.func5, Try.ntmps5
      go_wp2_with fail
      refine (alive_any _).mono ?_
      rintro e w1 ⟨rfl, k1⟩
      go_wp2_with fail
      go_ret
      exact ⟨rfl, k1⟩
  by_cases hbig : 18446744073709351615 < N0
  · as_aux_lemma =>
      have hb1 : decide ((18446744073709351615 : Int) < (N0 : Int)) = true := decide_eq_true (by omega)
      go_enter Try.func5, Try.ntmps5
      go_wp2_with fail
      refine (alive_any _).mono ?_
      rintro e w1 ⟨rfl, k1⟩
      go_wp2_with fail
      go_ret
      exact ⟨rfl, k1⟩
  have hb1 : decide ((18446744073709351615 : Int) < (N0 : Int)) = false := decide_eq_false (by omega)
  obtain ⟨i0, hi, hz0, hz1, hz2⟩ := info_parts infoElem_e
  have hmm := @run_makeMap Try.prog
  go_enter Try.func5, Try.ntmps5
  go_wp2_with fail
  refine (alive_any _).mono ?_
  rintro e w1 ⟨rfl, k1⟩
  go_wp2_with fail
  refine (xnew_e N0 (by omega) w w1 k1).mono ?_
  rintro r w2 ⟨v, s, lv, sl, bd, S, rfl, x2, n2, p2, k2, z2', y2⟩
  obtain ⟨mb, hmb⟩ : ∃ mb, w2.heap.size = mb := ⟨_, rfl⟩
  obtain ⟨w3, hw3⟩ : ∃ w3, w3 = w2.alloc (.map #[] 0) := ⟨_, rfl⟩
  have k3 : Still w2 w3 := by rw [hw3]; exact (still_refl w2).alloc _
  have E3 := Lib.hid (show WE s v lv sl bd S (fun _ => 0) 0 (fun j => N0 + 1 + (z1.getD j 0).toNat) (fun _ => []) mb 0 (fun _ => 0) (.slice none 0 0) [] w w3 from {
    x := x2.still k3
    t := Tied.zero _ _ p2 _ _ _
    mp := by rw [hw3, ← hmb]; exact MapI.new _ _ _ _
    mz := x2.fr (by omega)
    mw := by have := x2.bel.size; omega
    row := World.ownsRow_nil _ _ _ _
    rk := fun k hk => by cases hk })
  have hc3 : nAll S.pl = 0 := nAll_none p2
  have HN3 := Lib.hid n2
  clear x2 n2 p2 k2 z2' y2 k3 k1
  go_upto_region 8 with fail
  rw [← hw3]
  clear hw3 hmb hmm
  go_wp2_with fail
  go_loopw [10, 12, 13, 14] (fun l i _ _ wr => ∃ (j : Nat) (s : LS) (S : WSt) (ev : Nat → Nat) (P : Nat → List Nat), j ≤ len1 ∧ i = .int .i64 j ∧ WE s v lv sl bd S ev j (fun j => N0 + 1 + (z1.getD j 0).toNat) P mb 0 (fun _ => 0) l ((List.range j).map ev) w wr ∧ nAll S.pl = j ∧ S.now = N0 ∧ ∀ i, i < j → Stands P i) (fun _ i _ _ _ => len1 - (intOf i).toNat)
  case atStart => exact ⟨0, s, S, _, _, Nat.zero_le _, rfl, E3.out, hc3, HN3.out, fun i hi => by omega⟩
  case round =>
    obtain ⟨j, s1, S1, ev, P, hj, rfl, hE, hcnt, hnow, hst⟩ := hrel
    have E := Lib.hid hE
    have HNOW := Lib.hid hnow
    have HST := Lib.hid hst
    clear hE hnow hst
    by_cases hjl : j < len1
    · obtain ⟨ab, ao, rfl, hab, hac⟩ := HA.out.at_ (by omega)
      have c1 := (E.out.x.bel.cell (p := ⟨ab, ao + j, none⟩) hab).trans (hac j hjl)
      obtain ⟨u, hu⟩ : ∃ u : Nat, z1.getD j 0 = u := ⟨(z1.getD j 0).toNat, by have := get_u16 HA.out.wf j; omega⟩
      have hu2 : u < 65536 := by have := get_u16 HA.out.wf j; omega
      have HD := Lib.hid (show N0 + 1 + (z1.getD j 0).toNat = N0 + 1 + u by rw [hu]; rfl)
      rw [hu] at c1
      clear hac hu
      go_wp2_with fail
      refine (xins'_e E.out.x (by omega) _ (N0 + 1 + (z1.getD j 0).toNat + 0) (by rw [HD.out]; omega) (by rw [HNOW.out, HD.out]; omega) (by rw [HD.out]; omega) _).mono ?_
      rintro r w4 ⟨rfl, s4, S4, x4, i4⟩
      have t4 := E.out.t.ins i4 (fun y hy => E.out.x.fr hy) rfl
      have E4 := Lib.hid (E.out.turn x4 t4 i4.kd i4.kept)
      have I4 := Lib.hid i4
      generalize hQ : putAt P (plc (N0 + 1 + (z1.getD j 0).toNat + 0) S1.now) j = P4 at *
      have hp4 : ∀ i, i < j + 1 → Stands P4 i := fun i hi => by
        rw [← hQ]
        by_cases hij : i = j
        · refine ⟨_, plc_lt (N0 + 1 + (z1.getD j 0).toNat + 0) S1.now, ?_⟩
          unfold putAt; rw [upd_same, hij]; exact List.mem_append_right _ (List.mem_singleton.2 rfl)
        · obtain ⟨q, hq, hm⟩ := HST.out i (by omega)
          refine ⟨q, hq, ?_⟩
          unfold putAt
          by_cases e : q = plc (N0 + 1 + (z1.getD j 0).toNat + 0) S1.now
          · rw [e, upd_same]; rw [e] at hm; exact List.mem_append_left _ hm
          · rw [upd_ne _ _ e]; exact hm
      have HP4 := Lib.hid hp4
      generalize hew : wr.heap.size = e at *
      have hrow := E4.out.row
      have hrl : ((List.range j).map ev).length = j := by simp
      rw [hrl] at hrow
      have hoa : (w4.alloc (.cells #[.pointer (some ⟨e, 0, none⟩)] 30)).ownsRow (mb + 1) 30 1 u10 j (ptrs ((List.range j).map ev)) := owns_kept2 hrow ((Kept.refl (fun _ => False) _).alloc _) (fun _ _ f => f)
      have hmbl := E4.out.mp.lt
      have hbz : mb + 1 ≤ (w4.alloc (.cells #[.pointer (some ⟨e, 0, none⟩)] 30)).heap.size := by simp; omega
      clear x4 t4 i4 hQ hp4 hew hrow
      go_wp2_with (first | (at_builtin; refine wpList_append _ rfl _ _ 34 rfl (mb + 1) 30 i0 (.pointer none) 1 8 Try.underlying34 hi hz0 hz1 hz2 rfl (by decide) _ _ _ rfl (hoa) ⟨w4.heap.size, 0, none⟩ 1 1 [.pointer (some ⟨e, 0, none⟩)] rfl rfl (by intro j u hj; match j, hj with | 0, hj => simp at hj; subst hj; first | (simp [Addr.add]; done) | exact (Blk.newAt _ _ _ (by simp)).cell 0) (by intro u hu; simp at hu; subst hu; rfl) (by unfold maxLen; omega) (by omega) (by first | omega | (simp; omega) | simp) ?_) | fail)
      intro l5 w5 hap
      have hE5 := E4.out.more (l' := l5) (e := e) (by rw [hrl]; exact hap)
      have hup : ((List.range j).map ev) ++ [e] = (List.range (j + 1)).map (upd ev j e) := by
        rw [List.range_succ, List.map_append]
        congr 1
        · exact List.map_congr_left fun i hi => (upd_ne _ _ (by have := List.mem_range.1 hi; omega)).symm
        · simp [upd_same]
      rw [hup] at hE5
      have E5 := Lib.hid hE5
      clear hap hoa hE5 hup
      go_wp2_with fail
      go_roundw
      case rel => exact ⟨j + 1, s4, S4, _, P4, by omega, by go_num, E5.out, by rw [I4.out.cnt, hcnt], I4.out.now.trans HNOW.out, HP4.out⟩
      case measure => simp [intOf]; omega
    · obtain rfl : j = len1 := by omega
      have E5 := Lib.hid E.out
      go_upto_block 2 with fail
      go_cut [15, 16] from 72 to 104 (fun _ _ wx => ∃ (m : Nat) (s : LS) (S : WSt) (P : Nat → List Nat) (st : Int → Int), m ≤ 60 ∧ WE s v lv sl bd S ev j (fun j => N0 + 1 + (z1.getD j 0).toNat) P mb m st u10 ((List.range j).map ev) w wx ∧ nAll S.pl ≤ j ∧ S.now = N0 ∧ ∀ k : Nat, k < j → (st k = 0 ↔ Stands P k))
      case first =>
        go_wp2_with fail
        go_loopw [15, 16] (fun i _ wr => ∃ (m : Nat) (s : LS) (S : WSt) (P : Nat → List Nat) (st : Int → Int), m ≤ len2 ∧ i = .int .i64 m ∧ WE s v lv sl bd S ev j (fun j => N0 + 1 + (z1.getD j 0).toNat) P mb m st u10 ((List.range j).map ev) w wr ∧ nAll S.pl ≤ j ∧ S.now = N0 ∧ ∀ k : Nat, k < j → (st k = 0 ↔ Stands P k)) (fun i _ _ => len2 - (intOf i).toNat)
        case atStart => exact ⟨0, s1, S1, P, _, Nat.zero_le _, rfl, E5.out, by omega, HNOW.out, fun k hk => ⟨fun _ => HST.out k hk, fun _ => rfl⟩⟩
        case round =>
          obtain ⟨m, s2, S2, P2, st, hm, rfl, hE2, hcnt2, hnow2, hst2⟩ := hrel
          have E2 := Lib.hid hE2
          have HN2 := Lib.hid hnow2
          have ST2 := Lib.hid hst2
          clear hE2 hnow2 hst2
          by_cases hml : m < len2
          · by_cases hj0 : 0 < j
            · obtain ⟨ab, ao, rfl, hab, hac⟩ := HB.out.at_ (by omega)
              have c1 := (E2.out.x.bel.cell (p := ⟨ab, ao + m, none⟩) hab).trans (hac m hml)
              obtain ⟨u, hu⟩ : ∃ u : Nat, z2.getD m 0 = u := ⟨(z2.getD m 0).toNat, by have := get_u8 HB.out.wf m; omega⟩
              have hu2 : u < 256 := by have := get_u8 HB.out.wf m; omega
              rw [hu] at c1
              have hrl : ((List.range j).map ev).length = j := by simp
              obtain ⟨k, hk⟩ : ∃ k : Nat, k = u % j := ⟨_, rfl⟩
              have hkj : k < j := by rw [hk]; exact Nat.mod_lt _ hj0
              obtain ⟨b, o, c, hu10, hbl, hbk, hbm, hcell⟩ := E2.out.ent (k := k) (by omega)
              rw [hrl] at hu10
              subst hu10
              clear hac hu
              have HK := Lib.hid hk
              have hkI : (u : Int) % (j : Int) = (k : Int) := by rw [hk]; exact (Int.natCast_emod u j).symm
              have CB := Lib.hid (cells_of_cell hcell)
              have ML := Lib.hid E2.out.mp.block
              have hlk := Lib.hid (E2.out.looks k (by omega))
              have hgd : ((List.range j).map ev).getD k 0 = ev k := by rw [List.getD_eq_getElem?_getD, List.getElem?_map, List.getElem?_range hkj]; rfl
              rw [hgd] at hcell
              clear hk hgd
              go_upto_region 19 with fail
              rw [hkI]
              clear hkI
              refine wp_region_text ([4], [9, 28, 30]) [b, mb] (by kernel_rfl) (by kernel_rfl) (cellsB_cons CB.out (cellsB_map ML.out cellsB_nil)) (by simp [segs, isEff, isLoad, askOps, asks, ptrEq, eqOrNe, isNil]; rfl) ?_
              refine segs_go stay_drew (by simp [isLoad]) ?_
              go_wp2_with fail
              refine segs_load stay_drew (fun _ => (by exact ⟨b, _, rfl, by simp⟩)) ?_
              go_wp2_with fail
              by_cases hs : Stands P2 k
              · have hse := (E2.out.t.st hkj).2 hs
                refine (xrem_e (E2.out.x.still ((still_refl wr).drewN 1)) (by omega) hse).mono ?_
                rintro r w5 ⟨rfl, s5, S5, x5, r5⟩
                have K5 := Lib.hid (show Kept (fun y => s2.kd y ≠ 0) wr w5 from ((Kept.refl _ wr).drewN 1).trans r5.kept)
                have E5 := Lib.hid ((E2.out.still ((still_refl wr).drewN 1)).turn x5 (E2.out.t.rem hkj r5) (fun y _ => by rw [r5.kd]) r5.kept)
                have R5 := Lib.hid r5
                clear x5 r5
                have hs5 : StayB [b, mb] wr w5 := fun x hx => by
                  simp only [List.mem_cons, List.not_mem_nil, or_false] at hx
                  rcases hx with rfl | rfl
                  · exact K5.out.block _ hbl (fun h9 => h9 hbk)
                  · exact K5.out.block _ E2.out.mp.lt (fun h9 => h9 E2.out.mz)
                have HS5 := Lib.hid hs5
                have hlk5 := hlk.out w5 (hs5 mb (by simp))
                obtain ⟨Dm, ho, hD⟩ := E5.out.mp
                have HDM := Lib.hid hD
                have hkw : (Lit.int .i64 (k : Int)).wf = true := wf_natI (by omega)
                have hm60 : m ≤ 60 := by omega
                clear hs5 hD
                rw [(ST2.out k hkj).2 hs] at hlk5
                go_wp2_with fail
                refine segs_go HS5.out (by simp [isLoad]) ?_
                go_wp2_with fail
                refine segs_load HS5.out (fun _ => (by exact ⟨_, fun w' h9 => hlk.out w' (h9 mb (by simp))⟩)) ?_
                go_wp2_with fail
                refine segs_nil ?_
                go_wp2_with (first | (at_mapUpdate; go_loud (refine wpList_mapUpdate_own _ rfl _ _ _ 65 rfl 3 3 (Go.Maps.int_keyed Try.underlying3) Try.underlying65 _ mb m _ rfl ho (by unfold maxLen; omega) _ _ _ rfl rfl (Go.Maps.keyOf_int_mk Try.underlying3 hkw) _ [] (Go.plainElem_int Try.underlying3 (by decide)) ?_)) | fail)
                intro w6 ho6 g6
                have E6 := Lib.hid (E5.out.put (MapI.put Try.underlying3 ho HDM.out k hkw 1 ho6) g6).1
                clear ho ho6 g6
                go_wp2_with fail
                go_roundw
                case rel =>
                  refine ⟨m + 1, s5, S5, _, _, by omega, by go_num, E6.out, by have := R5.out.cnt; omega, R5.out.now.trans HN2.out, fun i hi => ?_⟩
                  by_cases hik : i = k
                  · subst hik
                    rw [if_pos rfl]
                    refine ⟨(fun h9 => by cases h9), fun ⟨q, hq, h9⟩ => ?_⟩
                    have := (E2.out.x.uniq.1 q hq)
                    rw [E2.out.t.pl q hq] at this
                    have hnd : (P2 q).Nodup := by
                      have h8 : ∀ l : List Nat, (l.map ev).Nodup → l.Nodup := fun l => by
                        induction l with
                        | nil => intro _; exact List.nodup_nil
                        | cons x l ih =>
                          intro g
                          rw [List.map_cons, List.nodup_cons] at g
                          exact List.nodup_cons.2 ⟨fun h => g.1 (List.mem_map_of_mem h), ih g.2⟩
                      exact h8 _ this
                    exact absurd rfl ((List.Nodup.mem_erase_iff hnd).1 h9).1
                  · rw [if_neg (by omega), ST2.out i hi]
                    constructor
                    · rintro ⟨q, hq, h9⟩; exact ⟨q, hq, (List.mem_erase_of_ne hik).2 h9⟩
                    · rintro ⟨q, hq, h9⟩; exact ⟨q, hq, List.mem_of_mem_erase h9⟩
                case measure => simp [intOf]; omega
              · have hse : ¬ Stands S2.pl (ev k) := fun h9 => hs ((E2.out.t.st hkj).1 h9)
                refine (wrem_out_e _ (E2.out.x.wb.still ((still_refl wr).drewN 1)) (E2.out.t.six k hkj) hse).mono ?_
                rintro r w5 ⟨rfl, rfl⟩
                obtain ⟨w5, hw5⟩ : ∃ w5, w5 = wr.drewN 1 := ⟨_, rfl⟩
                have K5 := Lib.hid (show Kept (fun y => s2.kd y ≠ 0) wr w5 by rw [hw5]; exact (Kept.refl _ wr).drewN 1)
                have E5 := Lib.hid (E2.out.still (show Still wr w5 by rw [hw5]; exact (still_refl wr).drewN 1))
                have hst0 : (st k == 0) = false := by rw [beq_eq_false_iff_ne]; exact fun h9 => hs ((ST2.out k hkj).1 h9)
                rw [← hw5]
                clear hw5
                have hs5 : StayB [b, mb] wr w5 := fun x hx => by
                  simp only [List.mem_cons, List.not_mem_nil, or_false] at hx
                  rcases hx with rfl | rfl
                  · exact K5.out.block _ hbl (fun h9 => h9 hbk)
                  · exact K5.out.block _ E2.out.mp.lt (fun h9 => h9 E2.out.mz)
                have HS5 := Lib.hid hs5
                have hlk5 := hlk.out w5 (hs5 mb (by simp))
                obtain ⟨Dm, ho, hD⟩ := E5.out.mp
                have HDM := Lib.hid hD
                have hkw : (Lit.int .i64 (k : Int)).wf = true := wf_natI (by omega)
                have hm60 : m ≤ 60 := by omega
                clear hs5 hD
                go_wp2_with fail
                refine segs_go HS5.out (by simp [isLoad]) ?_
                go_wp2_with fail
                refine segs_load HS5.out (fun _ => (by exact ⟨_, fun w' h9 => hlk.out w' (h9 mb (by simp))⟩)) ?_
                go_wp2_with fail
                refine segs_nil ?_
                go_wp2_with (first | (at_mapUpdate; go_loud (refine wpList_mapUpdate_own _ rfl _ _ _ 65 rfl 3 3 (Go.Maps.int_keyed Try.underlying3) Try.underlying65 _ mb m _ rfl ho (by unfold maxLen; omega) _ _ _ rfl rfl (Go.Maps.keyOf_int_mk Try.underlying3 hkw) _ [] (Go.plainElem_int Try.underlying3 (by decide)) ?_)) | fail)
                intro w6 ho6 g6
                have E6 := Lib.hid (E5.out.put (MapI.put Try.underlying3 ho HDM.out k hkw 1 ho6) g6).1
                clear ho ho6 g6
                go_wp2_with fail
                go_roundw
                case rel =>
                  refine ⟨m + 1, s2, S2, _, _, by omega, by go_num, E6.out, hcnt2, HN2.out, fun i hi => ?_⟩
                  by_cases hik : i = k
                  · subst hik
                    rw [if_pos rfl]
                    exact ⟨(fun h9 => by cases h9), fun h9 => absurd h9 hs⟩
                  · rw [if_neg (by omega), ST2.out i hi]
                case measure => simp [intOf]; omega
            · obtain rfl : j = 0 := by omega
              have hu0 : ∃ a c, u10 = .slice a 0 c := by
                obtain ⟨a, c, h9⟩ := owns_slice E2.out.row
                exact ⟨a, c, h9⟩
              obtain ⟨a9, c9, rfl⟩ := hu0
              go_wp2_with fail
              go_meet
              exact ⟨m, s2, S2, P2, st, by omega, E2.out, hcnt2, HN2.out, ST2.out⟩
          · go_wp2_with fail
            go_meet
            exact ⟨m, s2, S2, P2, st, by omega, E2.out, hcnt2, HN2.out, ST2.out⟩
      case rest =>
        obtain ⟨m, s2, S2, P2, st, hm, hE2, hcnt2, hnow2, hst2⟩ := hcut
        have E2 := Lib.hid hE2
        have HN2 := Lib.hid hnow2
        have ST2 := Lib.hid hst2
        clear hE2 hnow2 hst2
        obtain ⟨T, hT⟩ : ∃ T : Nat, (T0 : Int) % 6000 = (T : Int) := ⟨T0 % 6000, (Int.natCast_emod T0 6000).symm⟩
        have hT6 : T < 6000 := by omega
        have HT := Lib.hid hT
        go_wp2_with fail
        go_loopw [17, 18, 19, 20, 21, 22] (fun i _ _ _ _ _ wr => ∃ (t m : Nat) (s : LS) (S : WSt) (P : Nat → List Nat) (st : Int → Int), t ≤ T ∧ i = .int .i64 t ∧ WE s v lv sl bd S ev j (fun j => N0 + 1 + (z1.getD j 0).toNat) P mb m st u10 ((List.range j).map ev) w wr ∧ m + nAll S.pl ≤ 120 ∧ S.now = N0 + t ∧ ∀ k : Nat, k < j → (st k = 0 ↔ Stands P k)) (fun i _ _ _ _ _ _ => T - (intOf i).toNat)
        case atStart => exact ⟨0, m, s2, S2, P2, st, Nat.zero_le _, rfl, E2.out, by omega, HN2.out, ST2.out⟩
        case round =>
          obtain ⟨t, m3, s3, S3, P3, st3, ht, rfl, hE3, hcnt3, hnow3, hst3⟩ := hrel
          have E3 := Lib.hid hE3
          have HN3 := Lib.hid hnow3
          have ST3 := Lib.hid hst3
          clear hE3 hnow3 hst3
          by_cases htl : t < T
          · go_wp2_with fail
            refine (xadv_e E3.out.x (by omega) (by rw [HN3.out]; omega)).mono ?_
            rintro r w4 ⟨s4, S4, es, R, rfl, x4, a4⟩
            obtain ⟨e1, e2, e3⟩ := E3.out.t.adv (N := N0 + t) a4 (fun y hy => E3.out.x.fr hy) (k := 0) rfl (by rw [HN3.out]; rfl)
            have hE4 := E3.out.turn x4 e3 a4.kd a4.kept
            have E4 := Lib.hid hE4
            have ca := Lib.hid (due_cells a4 E3.out.t x4 e1 e2 (N := N0 + t + 1) (by rw [HN3.out]))
            have ra := Lib.hid (a4.row.mono (R := fun _ => True) (fun _ _ => trivial))
            have va := E3.out.t.vals e2
            rw [← e1] at va
            have VA := Lib.hid (va.trans irow_nums)
            obtain ⟨O, hO⟩ : ∃ O, O = outOf (fun j => N0 + 1 + (z1.getD j 0).toNat) (N0 + t + 1) P3 := ⟨_, rfl⟩
            obtain ⟨P4, hP4⟩ : ∃ P4, P4 = restOf (fun j => N0 + 1 + (z1.getD j 0).toNat) (N0 + t + 1) P3 := ⟨_, rfl⟩
            rw [← hO] at e1 e2 VA
            rw [← hP4] at E4 e3
            have A4 := Lib.hid a4
            have hla : es.length ≤ 120 := by have := a4.cnt; omega
            have hlo : es.length = O.length := by rw [e1, List.length_map]
            have EO := Lib.hid e1
            have OL := Lib.hid e2
            -- what stood and is due; what goes on standing
            have hmem : ∀ i, i ∈ O → Stands P3 i ∧ N0 + 1 + (z1.getD i 0).toNat = N0 + t + 1 := fun i hi => by
              have h9 := (a4.mem (ev i)).1 (by rw [e1]; exact List.mem_map_of_mem hi)
              rw [E3.out.t.st (e2 i hi), E3.out.t.due i (e2 i hi), HN3.out] at h9
              exact ⟨h9.1, h9.2⟩
            have hst4 : ∀ i, i < j → (Stands P4 i ↔ Stands P3 i ∧ i ∉ O) := fun i hi => by
              rw [← e3.st hi, a4.st, E3.out.t.st hi]
              constructor
              · rintro ⟨h1, h2⟩
                refine ⟨h1, fun h3 => h2 ?_⟩
                have := (hmem i h3).2
                rw [E3.out.t.due i hi, HN3.out]; exact this
              · rintro ⟨h1, h2⟩
                refine ⟨h1, fun h3 => h2 ?_⟩
                have h4 := (a4.mem (ev i)).2 ⟨(E3.out.t.st hi).2 h1, h3⟩
                rw [e1] at h4
                obtain ⟨i', hi', he⟩ := List.mem_map.1 h4
                rw [← E3.out.t.inj i' i (e2 i' hi') hi he]; exact hi'
            have hond : O.Nodup := by
              have h8 : ∀ l : List Nat, (l.map ev).Nodup → l.Nodup := fun l => by
                induction l with
                | nil => intro _; exact List.nodup_nil
                | cons x l ih =>
                  intro g
                  rw [List.map_cons, List.nodup_cons] at g
                  exact List.nodup_cons.2 ⟨fun h => g.1 (List.mem_map_of_mem h), ih g.2⟩
              exact h8 _ (e1 ▸ a4.nodup)
            have MEM := Lib.hid hmem
            have S4H := Lib.hid hst4
            have OND := Lib.hid hond
            clear hE4 a4 x4 e1 e2 e3 va hO hP4 hmem hst4 hond
            go_wp2_with fail
            refine (numbers'_any w4 R es _ _ ((N0 + t + 1 : Nat) : Int) (by omega) ra.out ca.out (by omega)).mono ?_
            rintro r w5 ⟨⟨r5, rfl, o5⟩, bel5⟩
            rw [VA.out] at o5
            have hmb4 := E4.out.mp.lt
            have R5 := Lib.hid (show IRow (fun b => mb < b) w5 r5 _ from (VRow.of_owns o5).mono (fun b hb => by omega))
            have E5 := Lib.hid (E4.out.below bel5)
            clear o5 bel5 ra ca
            go_wp2_with fail
            refine (wnow_e w5 E5.out.x.wb).mono ?_
            rintro r w6 ⟨rfl, rfl⟩
            have hnw : S4.now = N0 + 1 + t := by rw [A4.out.now, HN3.out]; omega
            rw [hnw]
            obtain ⟨ra5, rc5, rfl⟩ := R5.out.len
            have hrl5 : ((O.map (fun (i : Nat) => (i : Int))).map (Value.int .i64)).length = O.length := by simp
            rw [hrl5] at R5 ⊢
            rw [hlo] at hla
            clear hnw hrl5
            go_wp2_with fail
            go_loopw [22] (fun i wr => ∃ (q m : Nat) (st : Int → Int), q ≤ O.length ∧ i = .int .i64 q ∧ WE s4 v lv sl bd S4 ev j (fun j => N0 + 1 + (z1.getD j 0).toNat) P4 mb m st u10 ((List.range j).map ev) w wr ∧ m ≤ m3 + q ∧ (∀ x : Nat, x ∈ O.take q → st x ≠ 0) ∧ (∀ x : Nat, x < j → x ∉ O.take q → st x = st3 x) ∧ Kept (fun y => y = mb) w5 wr) (fun i _ => O.length - (intOf i).toNat)
            case atStart => exact ⟨0, m3, st3, Nat.zero_le _, rfl, E5.out, by omega, fun x hx => by simp at hx, fun x hx _ => rfl, Kept.refl _ _⟩
            case round =>
              obtain ⟨q, m6, st6, hq, rfl, hE6, hm6, hs6, hu6, hk6⟩ := hrel
              have E6 := Lib.hid hE6
              have S6 := Lib.hid hs6
              have U6 := Lib.hid hu6
              have K6 := Lib.hid hk6
              clear hE6 hs6 hu6 hk6
              by_cases hql : q < O.length
              · obtain ⟨x, hx⟩ : ∃ x, x = O[q] := ⟨_, rfl⟩
                have hxo : x ∈ O := by rw [hx]; exact List.getElem_mem hql
                have hxj := OL.out x hxo
                obtain ⟨hx1, hx2⟩ := MEM.out x hxo
                have hxn : x ∉ O.take q := fun h9 => by
                  have h8 := OND.out
                  rw [← List.take_append_drop q O, List.nodup_append] at h8
                  refine h8.2.2 x h9 x ?_ rfl
                  rw [hx, List.drop_eq_getElem_cons hql]; exact List.mem_cons_self
                have hst6 : st6 x = 0 := by rw [U6.out x hxj hxn]; exact (ST3.out x hxj).2 hx1
                have hc5 := R5.out.cells.2.2
                obtain ⟨gb, go, rfl, hgl, hgm, hgc⟩ := hc5 (by rw [List.length_map]; omega)
                have c5 : wr.cell? ⟨gb, go + q, none⟩ = some (.int .i64 (x : Int)) := by
                  rw [World.cell?_of_block (a := ⟨gb, go + q, none⟩) (K6.out.block gb hgl (fun h9 => by omega)), hgc q (by rw [List.length_map]; exact hql)]
                  rw [List.getD_eq_getElem?_getD, List.getElem?_map, List.getElem?_eq_getElem hql, hx]; rfl
                obtain ⟨ab, ao, rfl, hab, hac⟩ := HA.out.at_ (by omega)
                have hzt : z1.getD x 0 = (t : Int) := by
                  have h1 := (get_u16 HA.out.wf x).1
                  have h2 : (z1.getD x 0).toNat = t := due_at hx2
                  rw [← h2]; exact (Int.toNat_of_nonneg h1).symm
                have c6 := (E6.out.x.bel.cell (p := ⟨ab, ao + x, none⟩) hab).trans (hac x hxj)
                rw [hzt] at c6
                have hlk := E6.out.looks x (by omega) wr rfl
                rw [hst6] at hlk
                obtain ⟨Dm, ho, hD⟩ := E6.out.mp
                have HDM := Lib.hid hD
                have hkw : (Lit.int .i64 (x : Int)).wf = true := wf_natI (by omega)
                have hm6' : m6 ≤ 240 := by omega
                have HX := Lib.hid hx
                clear hc5 hgc hac hD hx hzt hst6 hx1 hx2
                go_wp2_with (first | (at_mapUpdate; go_loud (refine wpList_mapUpdate_own _ rfl _ _ _ 65 rfl 3 3 (Go.Maps.int_keyed Try.underlying3) Try.underlying65 _ mb m6 _ rfl ho (by unfold maxLen; omega) _ _ _ rfl rfl (Go.Maps.keyOf_int_mk Try.underlying3 hkw) _ [] (Go.plainElem_int Try.underlying3 (by decide)) ?_)) | fail)
                intro w7 ho7 g7
                have E7 := Lib.hid (E6.out.put (MapI.put Try.underlying3 ho HDM.out x hkw 2 ho7) g7)
                clear ho ho7 g7
                go_wp2_with fail
                go_roundw
                case rel =>
                  refine ⟨q + 1, m6 + 1, _, by omega, by go_num, E7.out.1, by omega, fun y hy => ?_, fun y hyj hy => ?_, K6.out.trans E7.out.2⟩
                  · rw [List.take_succ_eq_append_getElem hql, List.mem_append, List.mem_singleton, ← HX.out] at hy
                    by_cases hyx : y = x
                    · rw [if_pos (by rw [hyx])]; decide
                    · rw [if_neg (by omega)]
                      rcases hy with hy | hy
                      · exact S6.out y hy
                      · exact absurd hy hyx
                  · rw [List.take_succ_eq_append_getElem hql, List.mem_append, List.mem_singleton, ← HX.out] at hy
                    rw [if_neg (fun h9 => hy (.inr (by omega)))]
                    exact U6.out y hyj (fun h9 => hy (.inl h9))
                case measure => simp [intOf]; omega
              · obtain rfl : q = O.length := by omega
                go_wp2_with fail
                go_roundw
                case rel =>
                  have s6 := S6.out
                  have u6 := U6.out
                  rw [List.take_length] at s6 u6
                  refine ⟨t + 1, m6, s4, S4, P4, st6, by omega, by go_num, E6.out, by have := A4.out.cnt; omega, by rw [A4.out.now, HN3.out]; omega, fun k hk => ?_⟩
                  rw [S4H.out k hk]
                  by_cases hko : k ∈ O
                  · exact ⟨fun h9 => absurd h9 (s6 k hko), fun h9 => absurd hko h9.2⟩
                  · rw [u6 k hk hko, ST3.out k hk]
                    exact ⟨fun h9 => ⟨h9, hko⟩, fun h9 => h9.1⟩
                case measure => simp [intOf]; omega
          · obtain rfl : t = T := by omega
            have hn9 : nAll S3.pl = ((List.range j).filter fun (k : Nat) => st3 (k : Int) == 0).length := E3.out.t.count E3.out.x.uniq (fun i hi => by rw [beq_iff_eq]; exact ST3.out i hi)
            have HN9 := Lib.hid hn9
            clear hn9
            go_wp2_with fail
            go_loopw [23, 24] (fun n i wr => ∃ k : Nat, k ≤ j ∧ i = .int .i64 k ∧ n = .int .i64 (((List.range k).filter fun (k : Nat) => st3 (k : Int) == 0).length : Nat) ∧ WE s3 v lv sl bd S3 ev j (fun j => N0 + 1 + (z1.getD j 0).toNat) P3 mb m3 st3 u10 ((List.range j).map ev) w wr) (fun _ i _ => j - (intOf i).toNat)
            case atStart => exact ⟨0, Nat.zero_le _, rfl, rfl, E3.out⟩
            case round =>
              obtain ⟨k, hk, rfl, rfl, hE9⟩ := hrel
              have E9 := Lib.hid hE9
              clear hE9
              by_cases hkj : k < j
              · obtain ⟨ab, ao, rfl, hab, hac⟩ := HA.out.at_ (by omega)
                obtain ⟨u, hu⟩ : ∃ u : Nat, z1.getD k 0 = u := ⟨(z1.getD k 0).toNat, by have := get_u16 HA.out.wf k; omega⟩
                have hu2 : u < 65536 := by have := get_u16 HA.out.wf k; omega
                have c6 := (E9.out.x.bel.cell (p := ⟨ab, ao + k, none⟩) hab).trans (hac k hkj)
                rw [hu] at c6
                have hlk := E9.out.looks k (by omega) wr rfl
                have hru : st3 k = 0 → T0 % 6000 ≤ u := fun h9 => by
                  obtain ⟨q, hq, hm⟩ := (E9.out.t.st hkj).2 ((ST3.out k hkj).1 h9)
                  have h8 := (E9.out.x.right q _ hq hm).1
                  rw [E9.out.t.due k hkj, HN3.out, hu] at h8
                  have h7 : N0 + t < N0 + 1 + ((u : Int).toNat) + 0 := h8
                  rw [Int.toNat_natCast] at h7
                  have := HT.out
                  omega
                have hcn : ((List.range (k + 1)).filter fun (k : Nat) => st3 (k : Int) == 0).length = ((List.range k).filter fun (k : Nat) => st3 (k : Int) == 0).length + (if st3 k = 0 then 1 else 0) := by
                  rw [List.range_succ, List.filter_append, List.length_append]
                  congr 1
                  by_cases h9 : st3 k = 0
                  · rw [if_pos h9, List.filter_cons_of_pos (by simpa using h9)]; rfl
                  · rw [if_neg h9, List.filter_cons_of_neg (by simpa using h9)]; rfl
                have hcb : ((List.range k).filter fun (k : Nat) => st3 (k : Int) == 0).length ≤ k := by
                  have := List.length_filter_le (fun (k : Nat) => st3 (k : Int) == 0) (List.range k)
                  rwa [List.length_range] at this
                have HCN := Lib.hid hcn
                have HRU := Lib.hid hru
                have HT' := HT.out
                generalize ((List.range k).filter fun (k : Nat) => st3 (k : Int) == 0).length = c at *
                clear hac hu hcn hru
                by_cases h9 : st3 k = 0
                · have hz9 : (st3 k == 0) = true := by rw [beq_iff_eq]; exact h9
                  have hle9 : t ≤ u := by have := HRU.out h9; omega
                  have hcc := HCN.out
                  rw [if_pos h9] at hcc
                  have HCC := Lib.hid hcc
                  clear h9 hcc
                  go_wp2_with fail
                  go_roundw
                  case rel => exact ⟨k + 1, by omega, by go_num, by rw [HCC.out]; go_num, E9.out⟩
                  case measure => simp [intOf]; omega
                · have hz9 : (st3 k == 0) = false := by rw [beq_eq_false_iff_ne]; exact h9
                  have hcc := HCN.out
                  rw [if_neg h9] at hcc
                  have HCC := Lib.hid hcc
                  clear h9 hcc
                  go_wp2_with fail
                  go_roundw
                  case rel => exact ⟨k + 1, by omega, by go_num, by rw [HCC.out, Nat.add_zero], E9.out⟩
                  case measure => simp [intOf]; omega
              · obtain rfl : k = j := by omega
                rw [← HN9.out]
                go_wp2_with fail
                refine (wlen_e _ E9.out.x.wb).mono ?_
                rintro r w10 ⟨rfl, rfl⟩
                go_wp2_with fail
                go_ret
                exact ⟨rfl, E9.out.x.bel⟩
end Go.Proofs.Ythinhbaklcijmaa
