/-
  What stands here: the walk of ShardActs. Under the condition that the library's table is as its initialiser lays it.
-/
import Derived.Test.YthamdbfilpegjaaDoorShardTie
import Derived.Deep.CutBlock
import Derived.Deep.CutRange
namespace Go.Proofs.YthamdbfilpegjaaDoor
set_option linter.unusedVariables false
set_option linter.unusedSimpArgs false
open Go.RowKit Go.Proofs
theorem still_cl {w w' : World} (k : Still w w') {p : Addr} {v : Value} (h : w.cell? p = some v) : w'.cell? p = some v :=
  (World.cell?_of_block (a := p) (k.block p.block (lt_of_cell h) (fun f => f))).trans h
theorem TRow.of_own {col : Nat → Nat} {c : Nat} {w : World} {v : Value} {Z : Nat → TaskV} {es : List Nat} (h : Owns col c w 31 5 v es.length (cells5 Z es)) : TRow (fun _ => True) w v (es.map Z) := (TRow.of_owns h.1).mono (fun _ _ _ => trivial)
set_option maxHeartbeats 4000000 in
set_option maxRecDepth 100000 in
theorem shardActs_walk (a0 : Int) (a1 : Option Addr) (len1 cap1 : Nat) (f1_0 : Nat → Int) (f1_1 : Nat → Int) (f1_2 : Nat → Int) (f1_3 : Nat → Int) (f1_4 : Nat → Int) (f1_5 : Nat → Int) (f1_6 : Nat → Int) (w : World) (w0 : (Lit.int .i64 a0).wf = true) (w1 : (len1 ≤ cap1 ∧ cap1 ≤ maxLen) ∧ (0 < len1 → ∃ b o, a1 = some ⟨b, o, none⟩ ∧ b < w.heap.size ∧ ∀ i, i < len1 → w.cell? ⟨b, o + i * 7, none⟩ = some (.int .i64 (f1_0 i)) ∧ (Lit.int .i64 (f1_0 i)).wf = true ∧ w.cell? ⟨b, o + i * 7 + 1, none⟩ = some (.int .i64 (f1_1 i)) ∧ (Lit.int .i64 (f1_1 i)).wf = true ∧ w.cell? ⟨b, o + i * 7 + 2, none⟩ = some (.int .u64 (f1_2 i)) ∧ (Lit.int .u64 (f1_2 i)).wf = true ∧ w.cell? ⟨b, o + i * 7 + 3, none⟩ = some (.int .i64 (f1_3 i)) ∧ (Lit.int .i64 (f1_3 i)).wf = true ∧ w.cell? ⟨b, o + i * 7 + 4, none⟩ = some (.int .u64 (f1_4 i)) ∧ (Lit.int .u64 (f1_4 i)).wf = true ∧ w.cell? ⟨b, o + i * 7 + 5, none⟩ = some (.int .u64 (f1_5 i)) ∧ (Lit.int .u64 (f1_5 i)).wf = true ∧ w.cell? ⟨b, o + i * 7 + 6, none⟩ = some (.int .u64 (f1_6 i)) ∧ (Lit.int .u64 (f1_6 i)).wf = true)) (hT : Tab w) :
    Calls Tryd.prog 4 #[.int .i64 a0, .slice a1 len1 cap1] w fun e w' => e = .returned (.bool true) ∧ Below w.heap.size w w' := by
  have hle0 : len1 ≤ 9223372036854775807 := by have := w1.1; unfold maxLen at this; omega
  have HA := Lib.hid w1.2
  have HT := Lib.hid hT
  have hTl := hT.lt
  have hba := bd_i64 w0
  clear w0 w1 hT
  by_cases h60 : 60 < len1
  · as_aux_lemma =>
      go_enter Tryd.func4, Tryd.ntmps4
      go_wp2_with fail
      refine (alive_any _).mono ?_
      rintro e w1 ⟨rfl, k1⟩
      go_wp2_with fail
      go_ret
      exact ⟨rfl, k1⟩
  by_cases hn1 : a0 < 1
  · as_aux_lemma =>
      go_enter Tryd.func4, Tryd.ntmps4
      go_wp2_with fail
      refine (alive_any _).mono ?_
      rintro e w1 ⟨rfl, k1⟩
      go_wp2_with fail
      refine (shnew_no a0 (.inl hn1) w1).mono ?_
      rintro e w2 ⟨rfl, k2⟩
      go_wp2_with fail
      go_ret
      exact ⟨rfl, below_still k1 k2 (Nat.le_refl _)⟩
  by_cases hn64 : 64 < a0
  · as_aux_lemma =>
      go_enter Tryd.func4, Tryd.ntmps4
      go_wp2_with fail
      refine (alive_any _).mono ?_
      rintro e w1 ⟨rfl, k1⟩
      go_wp2_with fail
      refine (shnew_no a0 (.inr hn64) w1).mono ?_
      rintro e w2 ⟨rfl, k2⟩
      go_wp2_with fail
      go_ret
      exact ⟨rfl, below_still k1 k2 (Nat.le_refl _)⟩
  obtain ⟨n0, rfl⟩ : ∃ n0 : Nat, a0 = n0 := ⟨a0.toNat, by omega⟩
  go_enter Tryd.func4, Tryd.ntmps4
  go_wp2_with fail
  refine (alive_any _).mono ?_
  rintro e w1 ⟨rfl, k1⟩
  go_wp2_with fail
  refine (shnew n0 (by omega) (by omega) w w1 k1).mono ?_
  rintro e w2 ⟨s, r, l, v, ls, lv, sl, bd, S, rfl, x2, n2, p2, y2, sh2, ks2, hs2⟩
  obtain ⟨b, hb⟩ : ∃ b, b = w2.heap.size := ⟨_, rfl⟩
  obtain ⟨w3, hw3⟩ : ∃ w3, w3 = w2.alloc (.cells #[.int .u64 0, .slice none 0 0, .slice none 0 0] 47) := ⟨_, rfl⟩
  have k3 : Still w2 w3 := by rw [hw3]; exact (still_refl w2).alloc _
  have bb3 : Blk w3 b #[.int .u64 0, .slice none 0 0, .slice none 0 0] 47 := by rw [hw3, hb]; exact Blk.new _ _ _
  have hsb : s < b := by have := Blk.lt sh2; omega
  have hwb : w.heap.size ≤ b := by have := x2.bel.size; omega
  have E3 := Lib.hid (show ∃ col, AX col ls v lv sl bd S s r l b (fun _ => 0) [] [] w w3 from by
    refine ⟨fun y => if y < w.heap.size then 0 else if y = b then 2 else 1, {
      fr := ⟨fun y hy => if_pos hy, below_still x2.bel k3 (Nat.le_refl _), Nat.le_refl _⟩
      x := SX.still ⟨x2, sh2, ks2, hs2⟩ k3
      xc := fun y hy => by
        have h1 : ¬ y < w.heap.size := fun h9 => hy (x2.low y h9)
        have h2 : y ≠ b := fun h9 => hy (x2.fr (by omega))
        rw [if_neg h1, if_neg h2]
      sc := by show (if s < w.heap.size then 0 else if s = b then 2 else 1) = 1; rw [if_neg (by omega), if_neg (by omega)]
      rs := ⟨.slice none 0 0, ⟨.slice none 0 0, 3, .inl rfl, ⟨by rw [n2]; exact bb3, by show (if b < w.heap.size then 0 else if b = b then 2 else 1) = 2; rw [if_neg (by omega), if_pos rfl]⟩, Owns.nil _ _ _ _ _⟩, Owns.nil _ _ _ _ _⟩
      t := TT.zero _ _ p2 _ }⟩)
  have HN3 := Lib.hid n2
  clear x2 n2 p2 y2 sh2 ks2 hs2 k3 k1 bb3 hsb hwb
  go_upto_region 11 with fail
  rw [← hw3, ← hb]
  clear hw3 hb
  go_wp2_with fail
  go_loopw [8, 9, 10, 11, 12, 13, 14, 15, 16, 17, 18, 19, 20] (fun i _ _ _ _ _ _ _ _ _ _ _ _ wr => ∃ (j : Nat) (col : Nat → Nat) (ls : LS) (S : WSt) (ev : Nat → Nat) (ts : List TaskV) (lr : List RE), j ≤ len1 ∧ i = .int .i64 j ∧ ts.length ≤ j ∧ lr.length ≤ j ∧ S.now ≤ 130 * j ∧ AX col ls v lv sl bd S s r l b ev ts lr w wr) (fun i _ _ _ _ _ _ _ _ _ _ _ _ _ => len1 - (intOf i).toNat)
  case atStart =>
    obtain ⟨col, h9⟩ := E3.out
    exact ⟨0, col, ls, S, _, [], [], Nat.zero_le _, rfl, Nat.le_refl _, Nat.le_refl _, by rw [HN3.out]; omega, h9⟩
  case round =>
    obtain ⟨j, col1, ls1, S1, ev, ts, lr, hj, rfl, htj, hlj, hnow, hE⟩ := hrel
    have E := Lib.hid hE
    clear hE
    by_cases hjl : j < len1
    · obtain ⟨ab, o, rfl, hb, hc⟩ := HA.out (by omega)
      obtain ⟨a0, b0, a1, b1, a2, b2, a3, b3, a4, b4, a5, b5, a6, b6⟩ := hc j hjl
      have cell : ∀ (i : Nat) (v : Value), w.cell? ⟨ab, i, none⟩ = some v → wr.cell? ⟨ab, i, none⟩ = some v := fun i v h => (E.out.x.x.bel.cell (p := ⟨ab, i, none⟩) hb).trans h
      have c0 := cell _ _ a0
      have c1 := cell _ _ a1
      have c2 := cell _ _ a2
      have c3 := cell _ _ a3
      have c4 := cell _ _ a4
      have c5 := cell _ _ a5
      have c6 := cell _ _ a6
      obtain ⟨kd, hkd⟩ : ∃ n, n = f1_0 j := ⟨_, rfl⟩
      obtain ⟨n1, hn1'⟩ : ∃ n, n = f1_1 j := ⟨_, rfl⟩
      obtain ⟨z2, hz2'⟩ : ∃ n, n = f1_2 j := ⟨_, rfl⟩
      obtain ⟨z3, hz3⟩ : ∃ n, n = f1_3 j := ⟨_, rfl⟩
      obtain ⟨z4, hz4⟩ : ∃ n, n = f1_4 j := ⟨_, rfl⟩
      obtain ⟨z5, hz5⟩ : ∃ n, n = f1_5 j := ⟨_, rfl⟩
      obtain ⟨z6, hz6⟩ : ∃ n, n = f1_6 j := ⟨_, rfl⟩
      rw [← hkd] at c0
      rw [← hn1'] at c1 b1
      rw [← hz2'] at c2
      rw [← hz3] at c3
      rw [← hz4] at c4
      rw [← hz5] at c5 b5
      rw [← hz6] at c6
      have hd5 := bd_u64 b5
      have hbn1 := bd_i64 b1
      clear a0 a1 a2 a3 a4 a5 a6 b0 b1 b2 b3 b4 b5 b6 hc cell hn1' hz4 hz5 hz6 hkd hz2' hz3
      go_upto_region 15 with fail
      obtain ⟨B, hB⟩ : ∃ B, B = wr.heap.size := ⟨_, rfl⟩
      obtain ⟨w4, hw4⟩ : ∃ w4, w4 = wr.alloc (.cells #[.int .i64 kd, .int .i64 n1, .int .u64 z2, .int .i64 z3, .int .u64 z4, .int .u64 z5, .int .u64 z6] 33) := ⟨_, rfl⟩
      have k4 : Still wr w4 := by rw [hw4]; exact (still_refl wr).alloc _
      have b4 : Blk w4 B #[.int .i64 kd, .int .i64 n1, .int .u64 z2, .int .i64 z3, .int .u64 z4, .int .u64 z5, .int .u64 z6] 33 := by rw [hw4, hB]; exact Blk.new _ _ _
      rw [← hw4, ← hB]
      obtain ⟨col4, hcol4⟩ : ∃ col4, col4 = ext col1 wr.heap.size 9 := ⟨_, rfl⟩
      have mv4 : Move (fun _ => False) col1 col4 wr w4 := by rw [hcol4]; exact Move.ext (k4.mono (fun _ _ f => f)) 9
      have hB9 : col4 B = 9 := by rw [hcol4]; exact ext_new col1 (by omega)
      have E4 := Lib.hid (E.out.new mv4)
      have B4 := Lib.hid (show BlkC col4 9 w4 B #[.int .i64 kd, .int .i64 n1, .int .u64 z2, .int .i64 z3, .int .u64 z4, .int .u64 z5, .int .u64 z6] 33 from ⟨b4, hB9⟩)
      have d0 : w4.cell? ⟨B, 0, none⟩ = some (.int .i64 kd) := b4.cell 0
      have d2 : w4.cell? ⟨B, 2, none⟩ = some (.int .u64 z2) := b4.cell 2
      have d3 : w4.cell? ⟨B, 3, none⟩ = some (.int .i64 z3) := b4.cell 3
      have d4 : w4.cell? ⟨B, 4, none⟩ = some (.int .u64 z4) := b4.cell 4
      have d5 : w4.cell? ⟨B, 5, none⟩ = some (.int .u64 z5) := b4.cell 5
      have d6 : w4.cell? ⟨B, 6, none⟩ = some (.int .u64 z6) := b4.cell 6
      clear hw4 hB k4 b4 mv4 hcol4 hB9 c0 c1 c2 c3 c4 c5 c6
      obtain ⟨bb, hbb⟩ : ∃ bb, (kd == 0) = bb := ⟨_, rfl⟩
      go_upto_if 63 with fail
      go_cut [8, 9, 10, 11, 12, 13] from 51 to 154 (fun iv av _ _ _ _ wx => iv = .int .i64 j ∧ av = .pointer (some ⟨B, 0, none⟩) ∧ ∃ (col : Nat → Nat) (ls : LS) (S : WSt) (ev : Nat → Nat) (ts : List TaskV) (lr : List RE), ts.length ≤ j + 1 ∧ lr.length ≤ j + 1 ∧ S.now ≤ 130 * j ∧ AX col ls v lv sl bd S s r l b ev ts lr w wx ∧ BlkC col 9 wx B #[.int .i64 kd, .int .i64 n1, .int .u64 z2, .int .i64 z3, .int .u64 z4, .int .u64 z5, .int .u64 z6] 33)
      case first =>
        cases bb with
        | false =>
          clear d0 d2 d3 d4 d5 d6
          go_wp2_with fail
          go_meet
          case rel => exact ⟨rfl, rfl, col4, ls1, S1, ev, ts, lr, by omega, by omega, hnow, E4.out, B4.out⟩
        | true =>
          by_cases hz : z3 < 0
          · go_wp2_with fail
            refine (arm_inv E4.out.x ⟨z2, z3, z4, z5, z6⟩ hz).mono ?_
            rintro e w5 ⟨rfl, k5⟩
            have E5 := Lib.hid (E4.out.still k5)
            have B5 := Lib.hid (B4.out.move (Move.still (S := fun _ => False) k5) (fun f => f))
            have e2 : w5.cell? ⟨B, 2, none⟩ = some (.int .u64 z2) := B5.out.1.cell 2
            have e3 : w5.cell? ⟨B, 3, none⟩ = some (.int .i64 z3) := B5.out.1.cell 3
            have e4 : w5.cell? ⟨B, 4, none⟩ = some (.int .u64 z4) := B5.out.1.cell 4
            have e5 : w5.cell? ⟨B, 5, none⟩ = some (.int .u64 z5) := B5.out.1.cell 5
            have e6 : w5.cell? ⟨B, 6, none⟩ = some (.int .u64 z6) := B5.out.1.cell 6
            clear k5 d0 d2 d3 d4 d5 d6
            go_wp2_with fail
            refine (rarm_inv b ⟨z2, z3, z4, z5, z6⟩ hz _).mono ?_
            rintro e w6 ⟨rfl, k6⟩
            have E6 := Lib.hid (E5.out.still k6)
            have B6 := Lib.hid (B5.out.move (Move.still (S := fun _ => False) k6) (fun f => f))
            clear k6 e2 e3 e4 e5 e6
            go_wp2_with fail
            go_meet
            case rel => exact ⟨rfl, rfl, col4, ls1, S1, ev, ts, lr, by omega, by omega, hnow, E6.out, B6.out⟩
          · have hz0 : 0 ≤ z3 := by omega
            go_wp2_with fail
            refine (arm_ok E4.out.x ⟨z2, z3, z4, z5, z6⟩ hz0 ⟨hd5⟩ (by omega) (by have := E4.out.t.cnt; omega)).mono ?_
            rintro e w5 ⟨d, en, ls5, S5, hd, rfl, x5, i5⟩
            have hd64 : d < 18446744073709551616 := by simp only at hd; omega
            obtain ⟨p1, p2, p3, p4⟩ := E4.out.prog i5.kd i5.kept x5
            have ht5 := E4.out.t.ins (z := ⟨z2, z3, z4, (d : Int), z6⟩) rfl i5 (fun y hy => E4.out.x.x.fr hy) hd64
            have m5 : Move (fun c => c = 1) col4 (ext col4 w4.heap.size 1) w4 w5 := Move.ext (i5.kept.mono fun y _ hy => E4.out.xc y hy) 1
            have B5 := Lib.hid (B4.out.move m5 (by decide))
            have e2 : w5.cell? ⟨B, 2, none⟩ = some (.int .u64 z2) := B5.out.1.cell 2
            have e3 : w5.cell? ⟨B, 3, none⟩ = some (.int .i64 z3) := B5.out.1.cell 3
            have e4 : w5.cell? ⟨B, 4, none⟩ = some (.int .u64 z4) := B5.out.1.cell 4
            have e5 : w5.cell? ⟨B, 5, none⟩ = some (.int .u64 z5) := B5.out.1.cell 5
            have e6 : w5.cell? ⟨B, 6, none⟩ = some (.int .u64 z6) := B5.out.1.cell 6
            have S5H := Lib.hid (And.intro p1 (And.intro p2 (And.intro p3 (And.intro x5 (And.intro ht5 i5.now)))))
            have hra := rarm_ok p4 ⟨z2, z3, z4, z5, z6⟩ hz0 ⟨hd5⟩ (by omega) (by omega) (by omega)
            have HRA := Lib.hid hra
            have HD := Lib.hid hd
            clear p1 p2 p3 p4 ht5 m5 x5 i5 hra hd d0 d2 d3 d4 d5 d6
            go_wp2_with fail
            refine HRA.out.mono ?_
            rintro e w6 ⟨d', col6, hd', rfl, m6, r6⟩
            obtain rfl : d' = d := by rw [hd', HD.out]
            obtain ⟨q1, q2, q3, q4⟩ := ax_ref S5H.out.1 S5H.out.2.2.2.1 S5H.out.2.1 S5H.out.2.2.1 m6
            rw [← S5H.out.2.2.2.2.2] at r6
            have ht := S5H.out.2.2.2.2.1
            rw [← S5H.out.2.2.2.2.2] at ht
            have E6 := Lib.hid (show AX col6 ls5 v lv sl bd S5 s r l b _ (ts ++ [⟨z2, z3, z4, (d' : Int), z6⟩]) (lr ++ [⟨ts.length, d', plc d' S5.now⟩]) w w6 from ⟨q1, q2, q3, q4, r6, ht⟩)
            have B6 := Lib.hid (B5.out.move m6 (by decide))
            clear m6 r6 q1 q2 q3 q4 ht hd' e2 e3 e4 e5 e6
            go_wp2_with fail
            go_meet
            case rel => exact ⟨rfl, rfl, col6, ls5, S5, _, _, _, by simp; omega, by simp; omega, by rw [S5H.out.2.2.2.2.2]; exact hnow, E6.out, B6.out⟩
      case rest =>
        obtain ⟨rfl, rfl, col5, ls5, S5, ev5, ts5, lr5, htj5, hlj5, hnow5, hE5, hB5⟩ := hcut
        have E5 := Lib.hid hE5
        have B5 := Lib.hid hB5
        clear hE5 hB5 hbb d0 d2 d3 d4 d5 d6
        obtain ⟨T, hT⟩ : ∃ T : Nat, (T : Int) = max 0 n1 % 130 := ⟨(max 0 n1 % 130).toNat, by omega⟩
        have hT130 : T < 130 := by omega
        go_wp2_with fail
        go_loopw [14, 15, 16] (fun k _ _ wr => ∃ (t : Nat) (col : Nat → Nat) (ls : LS) (S : WSt) (lr : List RE), t ≤ T ∧ k = .int .i64 t ∧ lr.length ≤ j + 1 ∧ S.now ≤ 130 * j + t ∧ AX col ls v lv sl bd S s r l b ev5 ts5 lr w wr ∧ BlkC col 9 wr B #[.int .i64 kd, .int .i64 n1, .int .u64 z2, .int .i64 z3, .int .u64 z4, .int .u64 z5, .int .u64 z6] 33) (fun k _ _ _ => T - (intOf k).toNat)
        case atStart => exact ⟨0, col5, ls5, S5, lr5, Nat.zero_le _, rfl, hlj5, by omega, E5.out, B5.out⟩
        case round =>
          obtain ⟨t, col6, ls6, S6, lr6, ht, rfl, hlj6, hnow6, hE6, hB6⟩ := hrel
          have E6 := Lib.hid hE6
          have B6 := Lib.hid hB6
          have d0 : wr.cell? ⟨B, 0, none⟩ = some (.int .i64 kd) := hB6.1.cell 0
          have d1 : wr.cell? ⟨B, 1, none⟩ = some (.int .i64 n1) := hB6.1.cell 1
          clear hE6 hB6
          go_upto_region 21 with fail
          go_cut [96] from 86 to 112 (fun bv wx => wx = wr ∧ bv = .bool (decide (kd = 1 ∧ t < T)))
          case first =>
            by_cases hk1 : kd = 1
            · have hkb : (kd == 1) = true := by rw [beq_iff_eq]; exact hk1
              by_cases htl : t < T
              · have hlt : decide ((t : Int) < max 0 n1 % 130) = true := decide_eq_true (by omega)
                have HR := Lib.hid (show decide (kd = 1 ∧ t < T) = true from decide_eq_true ⟨hk1, htl⟩)
                clear hk1 htl
                go_wp2_with fail
                go_meet
                case rel => exact ⟨rfl, by rw [HR.out]⟩
              · have hlt : decide ((t : Int) < max 0 n1 % 130) = false := decide_eq_false (by omega)
                have HR := Lib.hid (show decide (kd = 1 ∧ t < T) = false from decide_eq_false (fun h9 => htl h9.2))
                clear hk1 htl
                go_wp2_with fail
                go_meet
                case rel => exact ⟨rfl, by rw [HR.out]⟩
            · have hkb : (kd == 1) = false := by rw [beq_eq_false_iff_ne]; exact hk1
              have HR := Lib.hid (show decide (kd = 1 ∧ t < T) = false from decide_eq_false (fun h9 => hk1 h9.1))
              clear hk1
              go_wp2_with fail
              go_meet
              case rel => exact ⟨rfl, by rw [HR.out]⟩
          case rest =>
            obtain ⟨rfl, rfl⟩ := hcut
            clear d0 d1
            by_cases hC : kd = 1 ∧ t < T
            · have hb1 : decide (kd = 1 ∧ t < T) = true := decide_eq_true hC
              have htl := hC.2
              rw [hb1]
              clear hC hb1
              obtain ⟨Z, hZ⟩ := E6.out.t.tasks
              have hZv : ∀ e, Stands S6.pl e → S6.val e = vcell_t (Z e) := fun e he => by
                obtain ⟨x, hx, rfl⟩ := E6.out.t.stands.1 he
                have hl := E6.out.t.lt x hx
                rw [hZ x.n hl, E6.out.t.val _ hl]
              have HZV := Lib.hid hZv
              have HZ := Lib.hid hZ
              clear hZv hZ
              go_wp2_with fail
              refine (shturn E6.out.x Z HZV.out (by omega) (by have := E6.out.t.cnt; omega)).mono ?_
              rintro e w7 ⟨ls7, S7, es, R, rfl, x7, t7, r7⟩
              obtain ⟨p1, p2, p3, p4⟩ := E6.out.prog t7.kd t7.kept x7
              obtain ⟨ht1, ht2⟩ := E6.out.t.turn t7 (fun y hy => E6.out.x.x.fr hy)
              have hesZ : es.map Z = ((rout (S6.now + 1) lr6).map RE.n).map (tkN ts5) := by
                rw [ht1, List.map_map]
                refine List.map_congr_left fun i hi => ?_
                obtain ⟨x, hx, rfl⟩ := List.mem_map.1 hi
                obtain ⟨y, hy, e1, _⟩ := rout_mem hx
                show Z (ev5 x.n) = _
                rw [← e1]; exact HZ.out y.n (E6.out.t.lt y hy)
              rw [hesZ] at r7
              have m7 : Move (fun c => c = 1) col6 (ext col6 wc.heap.size 1) wc w7 := Move.ext (t7.kept.mono fun y _ hy => E6.out.xc y hy) 1
              have B7 := Lib.hid (B6.out.move m7 (by decide))
              have r7' : TRow (fun b' => ext col6 wc.heap.size 1 b' = 1) w7 R (((rout (S6.now + 1) lr6).map RE.n).map (tkN ts5)) := r7.mono (fun b' _ hb' => ext_new col6 hb'.1)
              have hro : (rout (S6.now + 1) lr6).length ≤ lr6.length := by have := rout_len (S6.now + 1) lr6; omega
              have hrr : (rrest (S6.now + 1) lr6).length ≤ lr6.length := by have := rout_len (S6.now + 1) lr6; omega
              have hn7 := t7.now
              have htu := rturn p4 (by omega) (by omega) (by omega) (fun x hx => ⟨E6.out.t.d64 x hx, E6.out.t.lt x hx⟩)
              have HTU := Lib.hid htu
              have S7H := Lib.hid (And.intro p1 (And.intro p2 (And.intro p3 (And.intro x7 (And.intro ht2 hn7)))))
              have R7 := Lib.hid r7'
              obtain ⟨ra, rc, hR9, -⟩ := r7'
              rw [List.length_map] at hR9
              subst hR9
              clear p1 p2 p3 p4 ht1 ht2 hesZ m7 htu x7 t7 r7 hn7
              generalize hO : (rout (S6.now + 1) lr6).map RE.n = O at *
              generalize hRR : rrest (S6.now + 1) lr6 = RR at *
              have hOl : O.length ≤ lr6.length := by rw [← hO, List.length_map]; exact hro
              clear hO hRR hro
              go_wp2_with fail
              refine HTU.out.mono ?_
              rintro e w8 ⟨o8, col8, rfl, m8, rs8, own8⟩
              obtain ⟨q1, q2, q3, q4⟩ := ax_ref S7H.out.1 S7H.out.2.2.2.1 S7H.out.2.1 S7H.out.2.2.1 m8
              have r8 := R7.out.keep m8.k (fun b' hb' _ h9 => by rw [hb'] at h9; omega)
              have ht8 := S7H.out.2.2.2.2.1
              rw [← S7H.out.2.2.2.2.2] at rs8
              have E8 := Lib.hid (show AX col8 ls7 v lv sl bd S7 s r l b ev5 ts5 RR w w8 from ⟨q1, q2, q3, q4, rs8, ht8⟩)
              have B8 := Lib.hid (B7.out.move m8 (by decide))
              have hcmp := rtasks _ _ _ _ _ _ w8 r8 (TRow.of_own own8) (by rw [List.length_map]; omega)
              rw [decide_eq_true rfl] at hcmp
              have HC := Lib.hid hcmp
              obtain ⟨oa, oc, rfl, -, -⟩ := own8.form
              clear m8 rs8 own8 q1 q2 q3 q4 r8 ht8 hcmp
              go_wp2_with fail
              refine HC.out.mono ?_
              rintro e w9 ⟨rfl, k9⟩
              have E9 := Lib.hid (E8.out.still k9)
              have B9 := Lib.hid (B8.out.move (Move.still (S := fun _ => False) k9) (fun f => f))
              clear k9
              go_wp2_with fail
              go_roundw
              case rel => exact ⟨t + 1, col8, ls7, S7, RR, by omega, by go_num, by omega, by rw [S7H.out.2.2.2.2.2]; omega, E9.out, B9.out⟩
              case measure => simp [intOf]; omega
            · have hb1 : decide (kd = 1 ∧ t < T) = false := decide_eq_false hC
              rw [hb1]
              clear hC hb1
              obtain ⟨hl1, hl2⟩ := rlst_is lr6.length lr6 rfl
              by_cases hex : ∃ e, Stands S6.pl e
              · obtain ⟨M, hM⟩ : ∃ M, rlst lr6 = some M := by
                  cases hlm : rlst lr6 with
                  | some a => exact ⟨a, rfl⟩
                  | none =>
                    obtain ⟨e, he⟩ := hex
                    obtain ⟨x, hx, _⟩ := E6.out.t.stands.1 he
                    rw [hl1 hlm] at hx; cases hx
                have HG := Lib.hid (And.intro hM (hl2 M hM))
                clear hl1 hl2 hM
                go_wp2_with fail
                refine (shnext E6.out.x (HT.out.below E6.out.x.x.bel hTl) (by have := E6.out.t.cnt; omega) hex).mono ?_
                rintro e w8 ⟨L, rfl, g1, g2, k8⟩
                have hLM : L = M := by
                  obtain ⟨e1, s1, u1⟩ := g1
                  obtain ⟨x1, hx1, rfl⟩ := E6.out.t.stands.1 s1
                  obtain ⟨⟨x2, hx2, u2⟩, h3⟩ := HG.out.2
                  have q1 := g2 _ (E6.out.t.stands.2 ⟨x2, hx2, rfl⟩)
                  rw [E6.out.t.due' hx2] at q1
                  have q2 := h3 x1 hx1
                  rw [E6.out.t.due' hx1] at u1
                  omega
                subst hLM
                have E8 := Lib.hid (E6.out.below k8)
                have HM := Lib.hid HG.out.1
                clear g1 g2 k8
                have E9 := Lib.hid (E8.out)
                obtain ⟨tv, hw9, hto⟩ := E8.out.rs
                have hrn := refnext hw9 (by omega) E8.out.t.d64
                obtain ⟨v9, c9, hc9, hbb9, hoo9⟩ := hw9
                obtain ⟨na, nc, rfl, -, -⟩ := hoo9.form
                have g0 : w8.cell? ⟨b, 0, none⟩ = some (.int .u64 (S6.now : Int)) := hbb9.1.cell 0
                have g1 : w8.cell? ⟨b, 1, none⟩ = some (.slice na lr6.length nc) := hbb9.1.cell 1
                have CB := Lib.hid hbb9.1.cells
                have hbl := hbb9.1.lt
                have HRN := Lib.hid hrn
                clear hrn hbb9 hoo9 hto
                go_wp2_with fail
                refine HRN.out.mono ?_
                rintro e w9 ⟨rfl, rfl⟩
                rw [HM.out]
                go_upto_region 28 with fail
                refine wp_region_text ([4], [9, 42]) [b] (by kernel_rfl) (by kernel_rfl) (cellsB_cons CB.out cellsB_nil) (by simp [segs, isEff, isLoad, askOps, asks, ptrEq, eqOrNe, isNil]; rfl) ?_
                (repeat ((first | (refine segs_nil ?_) | (refine segs_go (stay_drew) ?_ ?_; focus (simp [isLoad]; done)) | (refine segs_load (stay_drew) ?_ ?_; focus (intro h; first | exact ⟨b, _, rfl, by simp⟩ | (simp [Region.wanted, yielded, undef] at h; done))) | fail); go_wp2_with fail))
                refine (shnow (E9.out.still ((still_refl w8).drewN 1)).x).mono ?_
                rintro e w10 ⟨rfl, k10⟩
                have k10' : Still w8 w10 := ((still_refl w8).drewN 1).trans k10
                have HS := Lib.hid (show StayB [b] w8 w10 from fun x9 hx9 => by
                  simp only [List.mem_cons, List.not_mem_nil, or_false] at hx9
                  subst hx9
                  exact k10'.block _ hbl (fun f => f))
                have h0 := still_cl k10' g0
                have h1 := still_cl k10' g1
                have E10 := Lib.hid (E9.out.still k10')
                clear k10 k10' g0 g1
                go_wp2_with fail
                (repeat ((first | (refine segs_nil ?_) | (refine segs_go (HS.out) ?_ ?_; focus (simp [isLoad]; done)) | (refine segs_load (HS.out) ?_ ?_; focus (intro h; first | exact ⟨b, _, rfl, by simp⟩ | (simp [Region.wanted, yielded, undef] at h; done))) | fail); go_wp2_with fail))
                refine (sharmed E10.out.x).mono ?_
                rintro e w11 ⟨rfl, k11⟩
                rw [E10.out.t.cnt]
                have hbl10 := lt_of_cell h0
                have HS11 := Lib.hid (show StayB [b] w8 w11 from fun x9 hx9 => by
                  have hx8 := hx9
                  simp only [List.mem_cons, List.not_mem_nil, or_false] at hx8
                  subst hx8
                  exact (k11.block _ hbl10 (fun f => f)).trans (HS.out _ hx9))
                have i0 := still_cl k11 h0
                have i1 := still_cl k11 h1
                have E11 := Lib.hid (E10.out.still k11)
                clear k11 h0 h1
                go_wp2_with fail
                (repeat ((first | (refine segs_nil ?_) | (refine segs_go (HS11.out) ?_ ?_; focus (simp [isLoad]; done)) | (refine segs_load (HS11.out) ?_ ?_; focus (intro h; first | exact ⟨b, _, rfl, by simp⟩ | (simp [Region.wanted, yielded, undef] at h; done))) | fail); go_wp2_with fail))
                go_roundw
                case rel => exact ⟨j + 1, col6, ls6, S6, ev5, ts5, lr6, by omega, by go_num, htj5, hlj6, by omega, E11.out⟩
                case measure => simp [intOf]; omega

              · have hno : lr6 = [] := by
                  cases lr6 with
                  | nil => rfl
                  | cons x l => exact absurd ⟨_, E6.out.t.stands.2 ⟨x, by simp, rfl⟩⟩ hex
                have hz : nAll S6.pl = 0 := by rw [E6.out.t.cnt, hno]; rfl
                have HM := Lib.hid (show rlst lr6 = none by rw [hno]; rfl)
                clear hl1 hl2 hno hex
                go_wp2_with fail
                refine (shnext_no E6.out.x hz).mono ?_
                rintro e w8 ⟨rfl, k8⟩
                have E8 := Lib.hid (E6.out.still k8)
                clear k8 hz
                have E9 := Lib.hid (E8.out)
                obtain ⟨tv, hw9, hto⟩ := E8.out.rs
                have hrn := refnext hw9 (by omega) E8.out.t.d64
                obtain ⟨v9, c9, hc9, hbb9, hoo9⟩ := hw9
                obtain ⟨na, nc, rfl, -, -⟩ := hoo9.form
                have g0 : w8.cell? ⟨b, 0, none⟩ = some (.int .u64 (S6.now : Int)) := hbb9.1.cell 0
                have g1 : w8.cell? ⟨b, 1, none⟩ = some (.slice na lr6.length nc) := hbb9.1.cell 1
                have CB := Lib.hid hbb9.1.cells
                have hbl := hbb9.1.lt
                have HRN := Lib.hid hrn
                clear hrn hbb9 hoo9 hto
                go_wp2_with fail
                refine HRN.out.mono ?_
                rintro e w9 ⟨rfl, rfl⟩
                rw [HM.out]
                go_upto_region 28 with fail
                refine wp_region_text ([4], [9, 42]) [b] (by kernel_rfl) (by kernel_rfl) (cellsB_cons CB.out cellsB_nil) (by simp [segs, isEff, isLoad, askOps, asks, ptrEq, eqOrNe, isNil]; rfl) ?_
                (repeat ((first | (refine segs_nil ?_) | (refine segs_go (stay_drew) ?_ ?_; focus (simp [isLoad]; done)) | (refine segs_load (stay_drew) ?_ ?_; focus (intro h; first | exact ⟨b, _, rfl, by simp⟩ | (simp [Region.wanted, yielded, undef] at h; done))) | fail); go_wp2_with fail))
                refine (shnow (E9.out.still ((still_refl w8).drewN 1)).x).mono ?_
                rintro e w10 ⟨rfl, k10⟩
                have k10' : Still w8 w10 := ((still_refl w8).drewN 1).trans k10
                have HS := Lib.hid (show StayB [b] w8 w10 from fun x9 hx9 => by
                  simp only [List.mem_cons, List.not_mem_nil, or_false] at hx9
                  subst hx9
                  exact k10'.block _ hbl (fun f => f))
                have h0 := still_cl k10' g0
                have h1 := still_cl k10' g1
                have E10 := Lib.hid (E9.out.still k10')
                clear k10 k10' g0 g1
                go_wp2_with fail
                (repeat ((first | (refine segs_nil ?_) | (refine segs_go (HS.out) ?_ ?_; focus (simp [isLoad]; done)) | (refine segs_load (HS.out) ?_ ?_; focus (intro h; first | exact ⟨b, _, rfl, by simp⟩ | (simp [Region.wanted, yielded, undef] at h; done))) | fail); go_wp2_with fail))
                refine (sharmed E10.out.x).mono ?_
                rintro e w11 ⟨rfl, k11⟩
                rw [E10.out.t.cnt]
                have hbl10 := lt_of_cell h0
                have HS11 := Lib.hid (show StayB [b] w8 w11 from fun x9 hx9 => by
                  have hx8 := hx9
                  simp only [List.mem_cons, List.not_mem_nil, or_false] at hx8
                  subst hx8
                  exact (k11.block _ hbl10 (fun f => f)).trans (HS.out _ hx9))
                have i0 := still_cl k11 h0
                have i1 := still_cl k11 h1
                have E11 := Lib.hid (E10.out.still k11)
                clear k11 h0 h1
                go_wp2_with fail
                (repeat ((first | (refine segs_nil ?_) | (refine segs_go (HS11.out) ?_ ?_; focus (simp [isLoad]; done)) | (refine segs_load (HS11.out) ?_ ?_; focus (intro h; first | exact ⟨b, _, rfl, by simp⟩ | (simp [Region.wanted, yielded, undef] at h; done))) | fail); go_wp2_with fail))
                go_roundw
                case rel => exact ⟨j + 1, col6, ls6, S6, ev5, ts5, lr6, by omega, by go_num, htj5, hlj6, by omega, E11.out⟩
                case measure => simp [intOf]; omega

    · obtain rfl : j = len1 := by omega
      go_wp2_with fail
      go_ret
      exact ⟨rfl, E.out.x.x.bel⟩
end Go.Proofs.YthamdbfilpegjaaDoor
