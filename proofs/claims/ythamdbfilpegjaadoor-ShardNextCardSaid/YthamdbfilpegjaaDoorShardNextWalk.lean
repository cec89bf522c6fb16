/-
  What stands here: the walk of ShardNext. Under the condition that the library's table is as its initialiser lays it.
-/
import Derived.Test.YthamdbfilpegjaaDoorShardLeast
import Derived.Deep.CutBlock
import Derived.Deep.CutRange
namespace Go.Proofs.YthamdbfilpegjaaDoor
set_option linter.unusedVariables false
set_option linter.unusedSimpArgs false
open Go.RowKit Go.Proofs
theorem still_cl {w w' : World} (k : Still w w') {p : Addr} {v : Value} (h : w.cell? p = some v) : w'.cell? p = some v :=
  (World.cell?_of_block (a := p) (k.block p.block (lt_of_cell h) (fun f => f))).trans h
set_option maxHeartbeats 4000000 in
set_option maxRecDepth 100000 in
theorem shardNext_walk (a0 : Option Addr) (len0 cap0 : Nat) (f0_0 : Nat → Int) (f0_1 : Nat → Int) (f0_2 : Nat → Int) (f0_3 : Nat → Int) (f0_4 : Nat → Int) (f0_5 : Nat → Int) (f0_6 : Nat → Int) (w : World) (w0 : (len0 ≤ cap0 ∧ cap0 ≤ maxLen) ∧ (0 < len0 → ∃ b o, a0 = some ⟨b, o, none⟩ ∧ b < w.heap.size ∧ ∀ i, i < len0 → w.cell? ⟨b, o + i * 7, none⟩ = some (.int .i64 (f0_0 i)) ∧ (Lit.int .i64 (f0_0 i)).wf = true ∧ w.cell? ⟨b, o + i * 7 + 1, none⟩ = some (.int .i64 (f0_1 i)) ∧ (Lit.int .i64 (f0_1 i)).wf = true ∧ w.cell? ⟨b, o + i * 7 + 2, none⟩ = some (.int .u64 (f0_2 i)) ∧ (Lit.int .u64 (f0_2 i)).wf = true ∧ w.cell? ⟨b, o + i * 7 + 3, none⟩ = some (.int .i64 (f0_3 i)) ∧ (Lit.int .i64 (f0_3 i)).wf = true ∧ w.cell? ⟨b, o + i * 7 + 4, none⟩ = some (.int .u64 (f0_4 i)) ∧ (Lit.int .u64 (f0_4 i)).wf = true ∧ w.cell? ⟨b, o + i * 7 + 5, none⟩ = some (.int .u64 (f0_5 i)) ∧ (Lit.int .u64 (f0_5 i)).wf = true ∧ w.cell? ⟨b, o + i * 7 + 6, none⟩ = some (.int .u64 (f0_6 i)) ∧ (Lit.int .u64 (f0_6 i)).wf = true)) (hT : Tab w) :
    Calls Tryd.prog 3 #[.slice a0 len0 cap0] w fun e w' => e = .returned (.bool true) ∧ Below w.heap.size w w' := by
  have hle0 : len0 ≤ 9223372036854775807 := by have := w0.1; unfold maxLen at this; omega
  have HA := Lib.hid w0.2
  have HT := Lib.hid hT
  have hTl := hT.lt
  clear w0 hT
  by_cases h60 : 60 < len0
  · as_aux_lemma =>
      go_enter Tryd.func3, Tryd.ntmps3
      go_wp2_with fail
      refine (alive_any _).mono ?_
      rintro e w1 ⟨rfl, k1⟩
      go_wp2_with fail
      go_ret
      exact ⟨rfl, k1⟩
  obtain ⟨i0, hi, hz0, hz1, hz2⟩ := info_parts infoU64
  go_enter Tryd.func3, Tryd.ntmps3
  go_wp2_with fail
  refine (alive_any _).mono ?_
  rintro e w1 ⟨rfl, k1⟩
  go_wp2_with fail
  refine (shnew 1 (by omega) (by omega) w w1 k1).mono ?_
  rintro e w2 ⟨s, r, l, v, ls, lv, sl, bd, S, rfl, x2, n2, p2, y2, sh2, ks2, hs2⟩
  have st2 : ∀ e, ¬ Stands S.pl e := fun e ⟨q, _, he⟩ => by rw [p2 q] at he; cases he
  have E2 := Lib.hid (show NX ls v lv sl bd S s r l [] (.slice none 0 0) w w2 from {
    x := ⟨x2, sh2, ks2, hs2⟩
    row := World.ownsRow_nil _ _ _ _
    rk := fun k hk => by cases hk
    told := fun d hd => by cases hd
    back := fun e he => absurd he (st2 e)
    big := fun d hd => by cases hd
    lt := Blk.lt sh2 })
  have hc2 : nAll S.pl = 0 := nAll_none p2
  have HN2 := Lib.hid n2
  have VT := Lib.hid (show ∃ Z : Nat → TaskV, ∀ e, Stands S.pl e → S.val e = vcell_t (Z e) from ⟨fun _ => ⟨0, 0, 0, 0, 0⟩, fun e he => absurd he (st2 e)⟩)
  clear x2 n2 p2 y2 sh2 ks2 hs2 k1 st2
  go_wp2_with fail
  go_loopw [5, 6, 7, 8, 9, 10, 11, 12, 13, 14, 15] (fun tv i _ _ _ _ _ _ _ _ _ wr => ∃ (j : Nat) (D : List Nat) (ls : LS) (S : WSt), j ≤ len0 ∧ i = .int .i64 j ∧ D.length ≤ j ∧ S.now ≤ 130 * j ∧ nAll S.pl ≤ j ∧ NX ls v lv sl bd S s r l D tv w wr ∧ ∃ Z : Nat → TaskV, ∀ e, Stands S.pl e → S.val e = vcell_t (Z e)) (fun _ i _ _ _ _ _ _ _ _ _ _ => len0 - (intOf i).toNat)
  case atStart => exact ⟨0, [], ls, S, Nat.zero_le _, rfl, Nat.le_refl _, by rw [HN2.out]; omega, by omega, E2.out, VT.out⟩
  case round =>
    obtain ⟨j, D, ls1, S1, hj, rfl, hDj, hnow, hcnt, hE, hV⟩ := hrel
    have E := Lib.hid hE
    have V := Lib.hid hV
    clear hE hV
    by_cases hjl : j < len0
    · obtain ⟨b, o, rfl, hb, hc⟩ := HA.out (by omega)
      obtain ⟨a0, b0, a1, b1, a2, b2, a3, b3, a4, b4, a5, b5, a6, b6⟩ := hc j hjl
      have cell : ∀ (i : Nat) (v : Value), w.cell? ⟨b, i, none⟩ = some v → wr.cell? ⟨b, i, none⟩ = some v := fun i v h => (E.out.x.x.bel.cell (p := ⟨b, i, none⟩) hb).trans h
      have c0 := cell _ _ a0
      have c1 := cell _ _ a1
      have c2 := cell _ _ a2
      have c3 := cell _ _ a3
      have c4 := cell _ _ a4
      have c5 := cell _ _ a5
      have c6 := cell _ _ a6
      obtain ⟨kd, hkd⟩ : ∃ n, n = f0_0 j := ⟨_, rfl⟩
      obtain ⟨n1, hn1⟩ : ∃ n, n = f0_1 j := ⟨_, rfl⟩
      obtain ⟨z2, hz2'⟩ : ∃ n, n = f0_2 j := ⟨_, rfl⟩
      obtain ⟨z3, hz3⟩ : ∃ n, n = f0_3 j := ⟨_, rfl⟩
      obtain ⟨z4, hz4⟩ : ∃ n, n = f0_4 j := ⟨_, rfl⟩
      obtain ⟨z5, hz5⟩ : ∃ n, n = f0_5 j := ⟨_, rfl⟩
      obtain ⟨z6, hz6⟩ : ∃ n, n = f0_6 j := ⟨_, rfl⟩
      rw [← hkd] at c0
      rw [← hn1] at c1 b1 a1
      rw [← hz2'] at c2
      rw [← hz3] at c3
      rw [← hz4] at c4
      rw [← hz5] at c5 b5
      rw [← hz6] at c6
      have hd5 := bd_u64 b5
      have hbn1 := bd_i64 b1
      have A1 := Lib.hid (And.intro hb a1)
      clear a0 a1 a2 a3 a4 a5 a6 b0 b1 b2 b3 b4 b5 b6 hc cell hn1 hz4 hz5 hz6 hkd hz2' hz3
      obtain ⟨bb, hbb⟩ : ∃ bb, (kd == 0) = bb := ⟨_, rfl⟩
      go_upto_if 42 with fail
      go_cut [5, 6, 7, 8, 9, 10] from 31 to 119 (fun tv iv _ _ _ _ wx => iv = .int .i64 j ∧ ∃ (D : List Nat) (ls : LS) (S : WSt), D.length ≤ j + 1 ∧ S.now ≤ 130 * (j + 1) ∧ nAll S.pl ≤ j + 1 ∧ NX ls v lv sl bd S s r l D tv w wx ∧ ∃ Z : Nat → TaskV, ∀ e, Stands S.pl e → S.val e = vcell_t (Z e))
      case first =>
        cases bb with
        | true =>
          go_upto_region 15 with fail
          obtain ⟨B, hB⟩ : ∃ B, B = wr.heap.size := ⟨_, rfl⟩
          obtain ⟨w4, hw4⟩ : ∃ w4, w4 = wr.alloc (.cells #[.int .u64 z2, .int .i64 0, .int .u64 z4, .int .u64 z5, .int .u64 z6] 31) := ⟨_, rfl⟩
          have k4 : Still wr w4 := by rw [hw4]; exact (still_refl wr).alloc _
          have b4 : Blk w4 B #[.int .u64 z2, .int .i64 0, .int .u64 z4, .int .u64 z5, .int .u64 z6] 31 := by rw [hw4, hB]; exact Blk.new _ _ _
          rw [← hw4, ← hB]
          have d0 : w4.cell? ⟨B, 0, none⟩ = some (.int .u64 z2) := b4.cell 0
          have d1 : w4.cell? ⟨B, 1, none⟩ = some (.int .i64 0) := b4.cell 1
          have d2 : w4.cell? ⟨B, 2, none⟩ = some (.int .u64 z4) := b4.cell 2
          have d3 : w4.cell? ⟨B, 3, none⟩ = some (.int .u64 z5) := b4.cell 3
          have d4 : w4.cell? ⟨B, 4, none⟩ = some (.int .u64 z6) := b4.cell 4
          have E4 := Lib.hid (E.out.still k4)
          clear hw4 hB k4 b4 c0 c1 c2 c3 c4 c5 c6 hbb
          go_wp2_with fail
          refine (arm_ok E4.out.x ⟨z2, 0, z4, z5, z6⟩ (Int.le_refl 0) ⟨hd5⟩ (by omega) (by omega)).mono ?_
          rintro e w5 ⟨d, en, ls5, S5, hd, rfl, x5, i5⟩
          obtain ⟨g1, g2⟩ := E4.out.turn x5 i5.kd i5.kept
          have hd' : S1.now < d ∧ d < 18446744073709551616 := by simp only at hd; omega
          have HD := Lib.hid hd'
          have I5 := Lib.hid i5
          have X5 := Lib.hid x5
          have G2 := Lib.hid g2
          have hoa : (w5.alloc (.cells #[.int .u64 (d : Int)] 29)).ownsRow w.heap.size 29 1 u5 D.length (u64row D) := owns_kept2 g1 ((Kept.refl (fun _ => False) _).alloc _) (fun _ _ f => f)
          have hbz : w.heap.size ≤ (w5.alloc (.cells #[.int .u64 (d : Int)] 29)).heap.size := by have := x5.x.bel.size; simp; omega
          clear x5 i5 hd hd' d0 d1 d2 d3 d4 g1 g2
          go_wp2_with (first | (at_builtin; refine wpList_append _ rfl _ _ 28 rfl w.heap.size 29 i0 (.int .u64 0) 1 8 Tryd.underlying28 hi hz0 hz1 hz2 rfl (by decide) _ _ _ rfl (hoa) ⟨w5.heap.size, 0, none⟩ 1 1 [.int .u64 (d : Int)] rfl rfl (by intro j u hj; match j, hj with | 0, hj => simp at hj; subst hj; first | (simp [Addr.add]; done) | exact (Blk.newAt _ _ _ (by simp)).cell 0) (by intro u hu; simp at hu; subst hu; rfl) (by unfold maxLen; omega) (by omega) (by first | omega | (simp; omega) | simp) ?_) | fail)
          intro l6 w6 hap
          have k6 : Kept (fun y => u5.ownBlock = some y) w5 w6 := hap.kept (Kept.refl _ w5) (fun b _ hb => hb)
          have hs6 : SX ls5 v lv sl bd S5 s r l w w6 := ⟨X5.out.x.keep k6 (fun y hy => ⟨(G2.out y hy).1, owns_block E4.out.row y hy⟩), Blk.kept X5.out.sh k6 (fun h9 => (G2.out s h9).2 rfl), X5.out.ks, X5.out.hs⟩
          have hlen : (D ++ [d]).length = D.length + 1 := by simp
          have hrow : w6.ownsRow w.heap.size 29 1 l6 (D ++ [d]).length (u64row (D ++ [d])) := by rw [hlen, u64row_snoc]; exact hap.owns
          have hrk : ∀ k, l6.ownBlock = some k → ls5.kd k = 0 ∧ k ≠ s := fun k hk => by
            rcases hap.block k hk with h9 | h9
            · exact G2.out k h9
            · have h8 := Blk.lt X5.out.sh
              simp at h9
              exact ⟨X5.out.x.fr (by omega), by omega⟩
          have E6 := Lib.hid (E4.out.arm I5.out hrk HD.out.2 w6 hs6 hrow (Blk.lt hs6.sh))
          clear hap hoa hs6 hrow hrk k6 hlen
          go_wp2_with fail
          go_meet
          case rel =>
            obtain ⟨Z, hZ⟩ := V.out
            refine ⟨rfl, D ++ [d], ls5, S5, by simp; omega, by rw [I5.out.now]; omega, by rw [I5.out.cnt]; omega, E6.out, upd Z en ⟨z2, 0, z4, d, z6⟩, fun y hy => ?_⟩
            by_cases hye : y = en
            · rw [hye, I5.out.val, upd_same, upd_same]
            · rw [I5.out.val, upd_ne _ _ hye, upd_ne _ _ hye]
              exact hZ y (((I5.out.st y).1 hy).resolve_right hye)
        | false =>
          have hb1 : (max 0 n1 % 130).toNat < 130 := by omega
          obtain ⟨T, hT⟩ : ∃ T : Nat, (T : Int) = max 0 n1 % 130 := ⟨(max 0 n1 % 130).toNat, by omega⟩
          go_wp2_with fail
          go_loopw [10] (fun k wr => ∃ (t : Nat) (ls : LS) (S : WSt), t ≤ T ∧ k = .int .i64 t ∧ S.now ≤ 130 * j + t ∧ nAll S.pl ≤ j ∧ NX ls v lv sl bd S s r l D u5 w wr ∧ ∃ Z : Nat → TaskV, ∀ e, Stands S.pl e → S.val e = vcell_t (Z e)) (fun k _ => T - (intOf k).toNat)
          case atStart => exact ⟨0, ls1, S1, Nat.zero_le _, rfl, by omega, hcnt, E.out, V.out⟩
          case round =>
            obtain ⟨t, ls2, S2, ht, rfl, hnow2, hcnt2, hE2, hV2⟩ := hrel
            have E2 := Lib.hid hE2
            obtain ⟨Z, hZ⟩ := hV2
            have VZ := Lib.hid hZ
            have d1 : wr.cell? ⟨b, o + j * 7 + 1, none⟩ = some (.int .i64 n1) := (E2.out.x.x.bel.cell (p := ⟨b, o + j * 7 + 1, none⟩) A1.out.1).trans A1.out.2
            clear hE2 hZ
            by_cases htl : t < T
            · have hlt : decide ((t : Int) < max 0 n1 % 130) = true := decide_eq_true (by omega)
              go_wp2_with fail
              refine (shturn E2.out.x Z VZ.out (by omega) (by omega)).mono ?_
              rintro e w4 ⟨ls4, S4, es, R, rfl, x4, t4, r4⟩
              obtain ⟨a4, cap4, rfl, -⟩ := r4
              have E4 := Lib.hid (E2.out.adv x4 t4)
              have T4 := Lib.hid t4
              clear x4 t4
              go_wp2_with fail
              go_roundw
              case rel => exact ⟨t + 1, ls4, S4, by omega, by go_num, by rw [T4.out.now]; omega, by have := T4.out.cnt; omega, E4.out, Z, fun y hy => by rw [T4.out.val]; exact VZ.out y ((T4.out.st y).1 hy).1⟩
              case measure => simp [intOf]; omega
            · have hlt : decide ((t : Int) < max 0 n1 % 130) = false := decide_eq_false (by omega)
              go_wp2_with fail
              go_meet
              case rel => exact ⟨rfl, D, ls2, S2, by omega, by omega, by omega, E2.out, Z, VZ.out⟩
      case rest =>
        obtain ⟨rfl, D2, ls2, S2, hD2, hnow2, hcnt2, hE2, hV2⟩ := hcut
        have E2 := Lib.hid hE2
        have V2 := Lib.hid hV2
        have hn64 : S2.now < 18446744073709551616 := by omega
        clear hE2 hV2 hbb
        obtain ⟨ta, tc, rfl⟩ : ∃ ta tc, u5 = .slice ta D2.length tc := by
          obtain ⟨ta, tc, h9⟩ := (VRow.of_owns E2.out.row).len
          rw [u64row_len] at h9
          exact ⟨ta, tc, h9⟩
        go_wp2_with fail
        go_loopw [11, 12, 13] (fun la so k wr => ∃ q : Nat, q ≤ D2.length ∧ k = .int .i64 q ∧ la = .int .u64 ((((lm S2.now (D2.take q)).getD 0 : Nat)) : Int) ∧ so = .bool (lm S2.now (D2.take q)).isSome ∧ NX ls2 v lv sl bd S2 s r l D2 (.slice ta D2.length tc) w wr) (fun _ _ k _ => D2.length - (intOf k).toNat)
        case atStart => exact ⟨0, Nat.zero_le _, rfl, rfl, rfl, E2.out⟩
        case round =>
          obtain ⟨q, hq, rfl, rfl, rfl, hE3⟩ := hrel
          have E3 := Lib.hid hE3
          clear hE3
          by_cases hql : q < D2.length
          · obtain ⟨d, hd⟩ : ∃ d, D2[q]? = some d := ⟨_, List.getElem?_eq_getElem hql⟩
            have htk : lm S2.now (D2.take (q + 1)) = if S2.now < d ∧ (lm S2.now (D2.take q) = none ∨ d < (lm S2.now (D2.take q)).getD 0) then some d else lm S2.now (D2.take q) := by
              rw [List.take_add_one, hd]; exact lm_snoc _ _ _
            have hvr := VRow.of_owns E3.out.row
            obtain ⟨-, -, -, h9⟩ := hvr.at_
            rw [u64row_len] at h9
            obtain ⟨tb, tq, rfl, htb, -, hcell⟩ := h9 (by omega)
            have c1 : wr.cell? ⟨tb, tq + q, none⟩ = some (.int .u64 (d : Int)) := by rw [hcell q hql]; unfold u64row; rw [List.getElem?_map, hd]; rfl
            have CB := Lib.hid (cells_of_cell c1)
            have HTK := Lib.hid htk
            clear htk hvr h9 hcell hd
            obtain ⟨a, ha⟩ : ∃ a, a = lm S2.now (D2.take q) := ⟨_, rfl⟩
            rw [← ha] at HTK ⊢
            have HA9 := Lib.hid ha
            clear ha
            go_upto_region 27 with fail
            go_cut [98] from 74 to 102 (fun bv wx => bv = .bool (decide (S2.now < d ∧ (a = none ∨ d < a.getD 0))) ∧ Still wr wx)
            case first =>
              refine wp_region_text ([4], [9]) [tb] (by kernel_rfl) (by kernel_rfl) (cellsB_cons CB.out cellsB_nil) (by simp [segs, isEff, isLoad, askOps, asks, ptrEq, eqOrNe, isNil]; rfl) ?_
              refine segs_go stay_drew (by simp [isLoad]) ?_
              go_wp2_with fail
              refine segs_load stay_drew (fun _ => (by exact ⟨tb, _, rfl, by simp⟩)) ?_
              go_wp2_with fail
              refine (shnow (E3.out.still ((still_refl wr).drewN 1)).x).mono ?_
              rintro e w6 ⟨rfl, k6⟩
              have k6' : Still wr w6 := ((still_refl wr).drewN 1).trans k6
              have HS := Lib.hid (show StayB [tb] wr w6 from fun x9 hx9 => by
                simp only [List.mem_cons, List.not_mem_nil, or_false] at hx9
                subst hx9
                exact k6'.block _ htb (fun f => f))
              have d1 : w6.cell? ⟨tb, tq + q, none⟩ = some (.int .u64 (d : Int)) := still_cl k6' c1
              have K6 := Lib.hid k6'
              clear k6 k6' c1
              by_cases h1 : S2.now < d
              · have hb1 : decide (S2.now < d) = true := decide_eq_true h1
                cases a with
                | none =>
                  have HR : Hid (decide (S2.now < d ∧ ((none : Option Nat) = none ∨ d < (none : Option Nat).getD 0)) = true) := Lib.hid (decide_eq_true ⟨h1, .inl rfl⟩)
                  clear h1
                  go_wp2_with fail
                  (repeat ((first | (refine segs_nil ?_) | (refine segs_go (HS.out) ?_ ?_; focus (simp [isLoad]; done)) | (refine segs_load (HS.out) ?_ ?_; focus (intro h; first | exact ⟨tb, _, rfl, by simp⟩ | (simp [Region.wanted, yielded, undef] at h; done))) | fail); go_wp2_with fail))
                  go_meet
                  case rel => exact ⟨by rw [HR.out], K6.out⟩
                | some L =>
                  by_cases h2 : d < L
                  · have hb2 : decide (d < L) = true := decide_eq_true h2
                    have HR : Hid (decide (S2.now < d ∧ ((some L : Option Nat) = none ∨ d < (some L : Option Nat).getD 0)) = true) := Lib.hid (decide_eq_true ⟨h1, .inr h2⟩)
                    clear h1 h2
                    go_wp2_with fail
                    (repeat ((first | (refine segs_nil ?_) | (refine segs_go (HS.out) ?_ ?_; focus (simp [isLoad]; done)) | (refine segs_load (HS.out) ?_ ?_; focus (intro h; first | exact ⟨tb, _, rfl, by simp⟩ | (simp [Region.wanted, yielded, undef] at h; done))) | fail); go_wp2_with fail))
                    go_meet
                    case rel => exact ⟨by rw [HR.out], K6.out⟩
                  · have hb2 : decide (d < L) = false := decide_eq_false h2
                    have HR : Hid (decide (S2.now < d ∧ ((some L : Option Nat) = none ∨ d < (some L : Option Nat).getD 0)) = false) := Lib.hid (decide_eq_false (fun h9 => h9.2.elim (fun h8 => by cases h8) h2))
                    clear h1 h2
                    go_wp2_with fail
                    (repeat ((first | (refine segs_nil ?_) | (refine segs_go (HS.out) ?_ ?_; focus (simp [isLoad]; done)) | (refine segs_load (HS.out) ?_ ?_; focus (intro h; first | exact ⟨tb, _, rfl, by simp⟩ | (simp [Region.wanted, yielded, undef] at h; done))) | fail); go_wp2_with fail))
                    go_meet
                    case rel => exact ⟨by rw [HR.out], K6.out⟩
              · have hb1 : decide (S2.now < d) = false := decide_eq_false h1
                have HR : Hid (decide (S2.now < d ∧ (a = none ∨ d < a.getD 0)) = false) := Lib.hid (decide_eq_false (fun h9 => h1 h9.1))
                clear h1
                go_wp2_with fail
                (repeat ((first | (refine segs_nil ?_) | (refine segs_go (HS.out) ?_ ?_; focus (simp [isLoad]; done)) | (refine segs_load (HS.out) ?_ ?_; focus (intro h; first | exact ⟨tb, _, rfl, by simp⟩ | (simp [Region.wanted, yielded, undef] at h; done))) | fail); go_wp2_with fail))
                go_meet
                case rel => exact ⟨by rw [HR.out], K6.out⟩
            case rest =>
              obtain ⟨rfl, kc⟩ := hcut
              have e1 := still_cl kc c1
              have E4 := Lib.hid (E3.out.still kc)
              clear kc c1
              by_cases hC : S2.now < d ∧ (a = none ∨ d < a.getD 0)
              · have hb : decide (S2.now < d ∧ (a = none ∨ d < a.getD 0)) = true := decide_eq_true hC
                have ht9 := HTK.out
                rw [if_pos hC] at ht9
                have HT9 := Lib.hid ht9
                rw [hb]
                clear hb ht9 hC
                go_wp2_with fail
                go_roundw
                case rel => exact ⟨q + 1, by omega, by go_num, by rw [HT9.out]; rfl, by rw [HT9.out]; rfl, E4.out⟩
                case measure => simp [intOf]; omega
              · have hb : decide (S2.now < d ∧ (a = none ∨ d < a.getD 0)) = false := decide_eq_false hC
                have ht9 := HTK.out
                rw [if_neg hC] at ht9
                have HT9 := Lib.hid ht9
                rw [hb]
                clear hb ht9 hC
                go_wp2_with fail
                go_roundw
                case rel => exact ⟨q + 1, by omega, by go_num, by rw [HT9.out], by rw [HT9.out], E4.out⟩
                case measure => simp [intOf]; omega
          · obtain rfl : q = D2.length := by omega
            rw [List.take_length]
            obtain ⟨hl1, hl2⟩ := lm_is S2.now D2.length D2 rfl
            by_cases hex : ∃ e, Stands S2.pl e
            · obtain ⟨a, ha⟩ : ∃ a, lm S2.now D2 = some a := by
                obtain ⟨e, he⟩ := hex
                cases hlm : lm S2.now D2 with
                | some a => exact ⟨a, rfl⟩
                | none =>
                  obtain ⟨q, hq, hm⟩ := he
                  have h1 := hl1 hlm _ (E3.out.back e ⟨q, hq, hm⟩)
                  have h2 := (E3.out.x.x.right q e hq hm).1
                  omega
              obtain ⟨g1, g2, g3⟩ := hl2 a ha
              rw [ha]
              have HG := Lib.hid (And.intro g1 (And.intro g2 g3))
              clear hl1 hl2 g1 g2 g3 ha
              go_wp2_with fail
              refine (shnext E3.out.x (HT.out.below E3.out.x.x.bel hTl) (by omega) hex).mono ?_
              rintro e w9 ⟨L, rfl, h1, h2, k9⟩
              have hLa : L = a := by
                obtain ⟨e1, s1, u1⟩ := h1
                obtain ⟨e2, s2, u2⟩ := E3.out.told a HG.out.1 HG.out.2.1
                have q1 := h2 e2 s2
                have q2 := HG.out.2.2 _ (E3.out.back e1 s1) (by
                  obtain ⟨q, hq, hm⟩ := s1
                  exact (E3.out.x.x.right q e1 hq hm).1)
                omega
              subst hLa
              have E9 := Lib.hid (E3.out.below k9)
              clear h1 h2 k9
              go_wp2_with fail
              go_roundw
              case rel => exact ⟨j + 1, D2, ls2, S2, by omega, by go_num, hD2, hnow2, hcnt2, E9.out, V2.out⟩
              case measure => simp [intOf]; omega
            · have hz : nAll S2.pl = 0 := by
                rcases Nat.eq_zero_or_pos (nAll S2.pl) with h9 | h9
                · exact h9
                · exfalso
                  refine hex ?_
                  rw [nAll_eq] at h9
                  have h8 : ∀ l : List Nat, (∀ q, q ∈ l → q < 257) → 0 < (l.map fun q => (S2.pl q).length).sum → ∃ e, Stands S2.pl e := fun l => by
                    induction l with
                    | nil => intro _ h; exact absurd h (by simp)
                    | cons q l ih =>
                      intro g h
                      rw [List.map_cons, List.sum_cons] at h
                      rcases Nat.eq_zero_or_pos (S2.pl q).length with h7 | h7
                      · exact ih (fun q' h6 => g q' (by simp [h6])) (by omega)
                      · obtain ⟨e, he⟩ := List.exists_mem_of_length_pos h7
                        exact ⟨e, q, g q (by simp), he⟩
                  exact h8 _ (fun q hq => List.mem_range.1 hq) h9
              have hno : lm S2.now D2 = none := by
                cases hlm : lm S2.now D2 with
                | none => rfl
                | some a =>
                  obtain ⟨g1, g2, g3⟩ := hl2 a hlm
                  obtain ⟨e, he, _⟩ := E3.out.told a g1 g2
                  exact absurd ⟨e, he⟩ hex
              rw [hno]
              clear hl1 hl2 hno hex
              go_wp2_with fail
              refine (shnext_no E3.out.x hz).mono ?_
              rintro e w9 ⟨rfl, k9⟩
              have E9 := Lib.hid (E3.out.still k9)
              clear k9
              go_wp2_with fail
              go_roundw
              case rel => exact ⟨j + 1, D2, ls2, S2, by omega, by go_num, hD2, hnow2, hcnt2, E9.out, V2.out⟩
              case measure => simp [intOf]; omega
    · obtain rfl : j = len0 := by omega
      go_wp2_with fail
      go_ret
      exact ⟨rfl, E.out.x.x.bel⟩
end Go.Proofs.YthamdbfilpegjaaDoor
