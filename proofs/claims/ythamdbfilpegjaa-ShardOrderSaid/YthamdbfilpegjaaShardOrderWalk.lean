/-
  What stands here: the walk of ShardOrder. Under no condition but that its arguments fit their types.
-/
import Derived.Test.YthamdbfilpegjaaShardOM
import Derived.Deep.CutBlock
import Derived.Deep.CutRange
namespace Go.Proofs.Ythamdbfilpegjaa
set_option linter.unusedVariables false
set_option linter.unusedSimpArgs false
open Go.RowKit Go.Proofs
set_option maxHeartbeats 4000000 in
set_option maxRecDepth 100000 in
theorem shardOrder_walk (a0 : Option Addr) (len0 cap0 : Nat) (f0_0 : Nat → Int) (f0_1 : Nat → Int) (f0_2 : Nat → Int) (f0_3 : Nat → Int) (f0_4 : Nat → Int) (f0_5 : Nat → Int) (f0_6 : Nat → Int) (w : World) (w0 : (len0 ≤ cap0 ∧ cap0 ≤ maxLen) ∧ (0 < len0 → ∃ b o, a0 = some ⟨b, o, none⟩ ∧ b < w.heap.size ∧ ∀ i, i < len0 → w.cell? ⟨b, o + i * 7, none⟩ = some (.int .i64 (f0_0 i)) ∧ (Lit.int .i64 (f0_0 i)).wf = true ∧ w.cell? ⟨b, o + i * 7 + 1, none⟩ = some (.int .i64 (f0_1 i)) ∧ (Lit.int .i64 (f0_1 i)).wf = true ∧ w.cell? ⟨b, o + i * 7 + 2, none⟩ = some (.int .u64 (f0_2 i)) ∧ (Lit.int .u64 (f0_2 i)).wf = true ∧ w.cell? ⟨b, o + i * 7 + 3, none⟩ = some (.int .i64 (f0_3 i)) ∧ (Lit.int .i64 (f0_3 i)).wf = true ∧ w.cell? ⟨b, o + i * 7 + 4, none⟩ = some (.int .u64 (f0_4 i)) ∧ (Lit.int .u64 (f0_4 i)).wf = true ∧ w.cell? ⟨b, o + i * 7 + 5, none⟩ = some (.int .u64 (f0_5 i)) ∧ (Lit.int .u64 (f0_5 i)).wf = true ∧ w.cell? ⟨b, o + i * 7 + 6, none⟩ = some (.int .u64 (f0_6 i)) ∧ (Lit.int .u64 (f0_6 i)).wf = true)) :
    Calls Try.prog 3 #[.slice a0 len0 cap0] w fun e w' => e = .returned (.bool true) ∧ Below w.heap.size w w' := by
  have hle0 : len0 ≤ 9223372036854775807 := by have := w0.1; unfold maxLen at this; omega
  have HA := Lib.hid w0.2
  clear w0
  by_cases h60 : 60 < len0
  · as_aux_lemma =>
      go_enter Try.func3, Try.ntmps3
      go_wp2_with fail
      refine (alive_any _).mono ?_
      rintro e w1 ⟨rfl, k1⟩
      go_wp2_with fail
      go_ret
      exact ⟨rfl, k1⟩
  have hmm := @run_makeMap Try.prog
  go_enter Try.func3, Try.ntmps3
  go_wp2_with fail
  refine (alive_any _).mono ?_
  rintro e w1 ⟨rfl, k1⟩
  go_wp2_with fail
  refine (shnew 1 (by omega) (by omega) w w1 k1).mono ?_
  rintro e w2 ⟨s, r, l, v, ls, lv, sl, bd, S, rfl, x2, n2, p2, y2, sh2, ks2, hs2⟩
  obtain ⟨mb, hmb⟩ : ∃ mb, w2.heap.size = mb := ⟨_, rfl⟩
  obtain ⟨w3, hw3⟩ : ∃ w3, w3 = w2.alloc (.map #[] 0) := ⟨_, rfl⟩
  have k3 : Still w2 w3 := by rw [hw3]; exact (still_refl w2).alloc _
  have hsmb : s ≠ mb := fun e9 => by have := Blk.lt sh2; omega
  have HSM := Lib.hid hsmb
  have st2 : ∀ e, ¬ Stands S.pl e := fun e ⟨q, _, he⟩ => by rw [p2 q] at he; cases he
  have E3 := Lib.hid (show OX ls v lv sl bd S s r l mb 0 0 (fun _ => none) w w3 from {
    x := SX.still ⟨x2, sh2, ks2, hs2⟩ k3
    mp := by rw [hw3, ← hmb]; exact MapU.new _ _ _ _
    mz := x2.fr (by omega)
    mw := by have := x2.bel.size; omega })
  have O3 := Lib.hid (OM.zero (fun _ => ⟨0, 0, 0, 0, 0⟩) (fun _ => 0) S.due st2)
  have ST2 := Lib.hid st2
  have hc3 : nAll S.pl = 0 := nAll_none p2
  have HN3 := Lib.hid n2
  clear x2 n2 p2 y2 sh2 ks2 hs2 k3 k1 st2
  go_upto_region 9 with fail
  rw [← hw3]
  clear hw3 hmb hmm hsmb
  go_wp2_with fail
  go_loopw [6, 7, 8, 9, 10, 11, 12, 13, 14, 15, 16] (fun id la i _ _ _ _ _ _ _ _ wr => ∃ (j N last m : Nat) (ls : LS) (S : WSt) (Z : Nat → TaskV) (idn : Nat → Nat) (g : Int → Option Int), j ≤ len0 + 1 ∧ i = .int .i64 j ∧ id = .int .u64 N ∧ la = .int .u64 last ∧ N ≤ j ∧ m ≤ j ∧ last ≤ S.now ∧ S.now ≤ 150 * j ∧ nAll S.pl ≤ j ∧ OX ls v lv sl bd S s r l mb m (nAll S.pl) g w wr ∧ OM g Z idn S.due (Stands S.pl) N ∧ ∀ e, Stands S.pl e → S.val e = vcell_t (Z e)) (fun _ _ i _ _ _ _ _ _ _ _ _ => len0 + 1 - (intOf i).toNat)
  case atStart => exact ⟨0, 0, 0, 0, ls, S, _, _, _, Nat.zero_le _, rfl, rfl, rfl, Nat.le_refl _, Nat.le_refl _, Nat.zero_le _, by rw [HN3.out]; omega, by omega, by rw [hc3]; exact E3.out, O3.out, fun e he => absurd he (ST2.out e)⟩
  case round =>
    obtain ⟨j, N, last, m, ls1, S1, Z, idn, g, hj, rfl, rfl, rfl, hNj, hmj, hla, hnow, hcnt, hE, hO, hZ⟩ := hrel
    have E := Lib.hid hE
    have O := Lib.hid hO
    have HZ := Lib.hid hZ
    clear hE hO hZ
    by_cases hjl : j ≤ len0
    · by_cases hk0 : j < len0 ∧ f0_0 j = 0
      · obtain ⟨hjl2, hkind⟩ := hk0
        obtain ⟨b, o, rfl, hb, hc⟩ := HA.out (by omega)
        obtain ⟨a0, b0, a1, b1, a2, b2, a3, b3, a4, b4, a5, b5, a6, b6⟩ := hc j hjl2
        have cell : ∀ (i : Nat) (v : Value), w.cell? ⟨b, i, none⟩ = some v → wr.cell? ⟨b, i, none⟩ = some v := fun i v h => (E.out.x.x.bel.cell (p := ⟨b, i, none⟩) hb).trans h
        have c0 := cell _ _ a0
        have c1 := cell _ _ a1
        have c2 := cell _ _ a2
        have c3 := cell _ _ a3
        have c4 := cell _ _ a4
        have c5 := cell _ _ a5
        have c6 := cell _ _ a6
        rw [hkind] at c0
        obtain ⟨n1, hn1⟩ : ∃ n, n = f0_1 j := ⟨_, rfl⟩
        obtain ⟨z4, hz4⟩ : ∃ n, n = f0_4 j := ⟨_, rfl⟩
        obtain ⟨z5, hz5⟩ : ∃ n, n = f0_5 j := ⟨_, rfl⟩
        obtain ⟨z6, hz6⟩ : ∃ n, n = f0_6 j := ⟨_, rfl⟩
        rw [← hn1] at c1 b1
        rw [← hz5] at c5 b5
        have hd5 := bd_u64 b5
        rw [← hz4] at c4
        rw [← hz6] at c6
        have hbn1 := bd_i64 b1
        clear a0 a1 a2 a3 a4 a5 a6 b0 b1 b2 b3 b4 b5 b6 hc cell hn1 hz4 hz5 hz6
        go_upto_region 21 with fail
        obtain ⟨t5, ht5⟩ : ∃ t5 : Nat, t5 = (z5 % 1000).toNat := ⟨_, rfl⟩
        have ht5' : z5 % 1000 = (t5 : Int) := by omega
        have ht1000 : t5 < 1000 := by omega
        rw [ht5']
        obtain ⟨B, hB⟩ : ∃ B, B = wr.heap.size := ⟨_, rfl⟩
        obtain ⟨w4, hw4⟩ : ∃ w4, w4 = wr.alloc (.cells #[.int .u64 ((N : Int) + 1), .int .i64 0, .int .u64 z4, .int .u64 (t5 : Int), .int .u64 z6] 31) := ⟨_, rfl⟩
        have k4 : Still wr w4 := by rw [hw4]; exact (still_refl wr).alloc _
        have b4 : Blk w4 B #[.int .u64 ((N : Int) + 1), .int .i64 0, .int .u64 z4, .int .u64 (t5 : Int), .int .u64 z6] 31 := by rw [hw4, hB]; exact Blk.new _ _ _
        rw [← hw4, ← hB]
        have kB : ls1.kd B = 0 := E.out.x.x.fr (by omega)
        have d0 : w4.cell? ⟨B, 0, none⟩ = some (.int .u64 ((N : Int) + 1)) := b4.cell 0
        have d1 : w4.cell? ⟨B, 1, none⟩ = some (.int .i64 0) := b4.cell 1
        have d2 : w4.cell? ⟨B, 2, none⟩ = some (.int .u64 z4) := b4.cell 2
        have d3 : w4.cell? ⟨B, 3, none⟩ = some (.int .u64 (t5 : Int)) := b4.cell 3
        have d4 : w4.cell? ⟨B, 4, none⟩ = some (.int .u64 z6) := b4.cell 4
        have E4 := Lib.hid (E.out.still k4)
        have B4 := Lib.hid b4
        have KB := Lib.hid kB
        clear hw4 hB k4 b4 kB c0 c1 c2 c3 c4 c5 c6 ht5 ht5' hd5
        go_wp2_with fail
        refine (arm_ok E4.out.x ⟨(N : Int) + 1, 0, z4, t5, z6⟩ (Int.le_refl 0) ⟨by show (0 : Int) ≤ (t5 : Int) ∧ (t5 : Int) < 18446744073709551616; omega⟩ (by omega) (by omega)).mono ?_
        rintro e w5 ⟨d, en, ls5, S5, hd, rfl, x5, i5⟩
        have E5 := Lib.hid (E4.out.turn x5 i5.kd i5.kept)
        have b5 := B4.out.kept i5.kept (fun h9 => h9 KB.out)
        have e3 : w5.cell? ⟨B, 3, none⟩ = some (.int .u64 (t5 : Int)) := b5.cell 3
        have I5 := Lib.hid i5
        have hd' : d = max t5 (S1.now + 1) := by rw [hd]; simp
        have HD := Lib.hid hd'
        clear x5 i5 b5 hd hd' d0 d1 d2 d3 d4
        have hdn : S1.now < d := by rw [HD.out]; omega
        have hdt : t5 ≤ d := by rw [HD.out]; omega
        have hdx : d = t5 ∨ d = S1.now + 1 := by rw [HD.out]; omega
        have hd64 : d < 100000 := by rw [HD.out]; omega
        have hn5 : S5.now = S1.now := I5.out.now
        have hnow5 := shnow E5.out.x
        rw [hn5] at hnow5
        have HNW := Lib.hid hnow5
        have CB := Lib.hid (cells_of_cell e3)
        clear hnow5 hn5
        go_upto_region 22 with fail
        go_cut [105] from 36 to 169 (fun bv wx => bv = .bool false ∧ Still w5 wx)
        case first =>
          have hlt1 : decide (d < t5) = false := decide_eq_false (by omega)
          have hlt2 : decide (d ≤ S1.now) = false := decide_eq_false (by omega)
          go_wp2_with fail
          refine HNW.out.mono ?_
          rintro e w6 ⟨rfl, k6⟩
          have e36 : w6.cell? ⟨B, 3, none⟩ = some (.int .u64 (t5 : Int)) := still_cl k6 e3
          have hnow6 := shnow (E5.out.still k6).x
          rw [I5.out.now] at hnow6
          have HNW6 := Lib.hid hnow6
          clear hnow6
          by_cases hdd : d = t5
          · have hne : ((d : Int) != (t5 : Int)) = false := by simp [hdd]
            clear hdd hdx
            go_wp2_with fail
            go_meet
            case rel => exact ⟨rfl, k6⟩
          · have hne : ((d : Int) != (t5 : Int)) = true := by rw [bne_iff_ne]; omega
            have hd1 : d = S1.now + 1 := by omega
            have hne2 : ((d : Int) != (S1.now : Int) + 1) = false := by rw [bne_eq_false_iff_eq]; omega
            have HD1 := Lib.hid hd1
            clear hd1 hdx
            go_wp2_with fail
            refine HNW6.out.mono ?_
            rintro e w7 ⟨rfl, k7⟩
            go_wp2_with fail
            go_meet
            case rel => exact ⟨rfl, k6.trans k7⟩
        case rest =>
          obtain ⟨rfl, kc⟩ := hcut
          have EC := Lib.hid (E5.out.still kc)
          obtain ⟨Dm, ho, hD9⟩ := EC.out.mp
          have HDM := Lib.hid hD9
          have hkw : (Lit.int .u64 ((N : Int) + 1)).wf = true := WalkArith.wf_u64 (by omega)
          have hdw : (Lit.int .u64 (d : Int)).wf = true := WalkArith.wf_u64 (by omega)
          have hm9 : m ≤ 61 := by omega
          clear hD9 e3 kc
          go_wp2_with (first | (at_mapUpdate; go_loud (refine wpList_mapUpdate_own _ rfl _ _ _ 28 rfl 29 29 (Go.Maps.int_keyed Try.underlying29) Try.underlying28 _ mb m _ rfl ho (by unfold maxLen; omega) _ _ _ rfl rfl (Go.Maps.keyOf_int_mk Try.underlying29 hkw) _ [] (Go.plainElem_int Try.underlying29 hdw) ?_)) | fail)
          intro w8 ho8 g8
          have hfree : g ((N : Int) + 1) = none := O.out.free (.inr (by omega))
          have E8 := Lib.hid (EC.out.put (MapU.put Try.underlying29 ho HDM.out.1 HDM.out.2 ((N : Int) + 1) hkw hfree (d : Int) ho8) HSM.out g8).1
          clear ho ho8 g8 hfree
          go_wp2_with fail
          go_roundw
          case rel =>
            have hO8 := O.out.arm (e := en) (d := d) I5.out.no ⟨(N : Int) + 1, 0, z4, d, z6⟩ ⟨by show (N : Int) + 1 = ((N + 1 : Nat) : Int); omega, rfl⟩ (B := Stands S5.pl) I5.out.st
            rw [← I5.out.due] at hO8
            have e9 : ((N + 1 : Nat) : Int) = (N : Int) + 1 := by omega
            rw [e9] at hO8
            have hE8 := E8.out
            rw [← I5.out.cnt] at hE8
            refine ⟨j + 1, N + 1, last, m + 1, ls5, S5, _, _, _, by omega, by go_num, by go_num, rfl, by omega, by omega, by rw [I5.out.now]; exact hla, by rw [I5.out.now]; omega, by rw [I5.out.cnt]; omega, hE8, hO8, fun y hy => ?_⟩
            by_cases hye : y = en
            · rw [hye, I5.out.val, upd_same, upd_same]
            · rw [I5.out.val, upd_ne _ _ hye, upd_ne _ _ hye]
              exact HZ.out y (((I5.out.st y).1 hy).resolve_right hye)
          case measure => simp [intOf]; omega
      · have HK0 := Lib.hid hk0
        clear hk0
        obtain ⟨bb, hbb⟩ : ∃ bb, decide (j < len0) = bb := ⟨_, rfl⟩
        go_upto_if 45 with fail
        go_cut [6, 9] from 36 to 169 (fun iv tv wx => iv = .int .u64 N ∧ wx = wr ∧ ∃ T : Nat, T ≤ 150 ∧ tv = .int .i64 T)
        case first =>
          cases bb with
          | false =>
            go_wp2_with fail
            go_meet
            case rel => exact ⟨rfl, rfl, 150, Nat.le_refl _, rfl⟩
          | true =>
            have hjl2 : j < len0 := of_decide_eq_true hbb
            have hkind : (f0_0 j == 0) = false := by rw [beq_eq_false_iff_ne]; exact fun h9 => HK0.out ⟨hjl2, h9⟩
            obtain ⟨b, o, rfl, hb, hc⟩ := HA.out (by omega)
            obtain ⟨a0, b0, a1, b1, -⟩ := hc j hjl2
            have cell : ∀ (i : Nat) (v : Value), w.cell? ⟨b, i, none⟩ = some v → wr.cell? ⟨b, i, none⟩ = some v := fun i v h => (E.out.x.x.bel.cell (p := ⟨b, i, none⟩) hb).trans h
            have c0 := cell _ _ a0
            have c1 := cell _ _ a1
            obtain ⟨n1, hn1⟩ : ∃ n, n = f0_1 j := ⟨_, rfl⟩
            rw [← hn1] at c1 b1
            have hbn1 := bd_i64 b1
            clear a0 a1 b0 b1 hc cell hn1
            go_wp2_with fail
            go_meet
            case rel => exact ⟨rfl, rfl, (max 0 n1 % 130).toNat, by omega, by congr 1; omega⟩
        case rest =>
          obtain ⟨rfl, rfl, T, hT, rfl⟩ := hcut
          clear hbb
          go_wp2_with fail
          go_loopw [7, 13, 14, 15, 16] (fun la k _ _ _ wr => ∃ (t last : Nat) (ls : LS) (S : WSt) (g : Int → Option Int), t ≤ T ∧ k = .int .i64 t ∧ la = .int .u64 last ∧ last ≤ S.now ∧ S.now ≤ 150 * j + t ∧ nAll S.pl ≤ j ∧ OX ls v lv sl bd S s r l mb m (nAll S.pl) g w wr ∧ OM g Z idn S.due (Stands S.pl) N ∧ ∀ e, Stands S.pl e → S.val e = vcell_t (Z e)) (fun _ k _ _ _ _ => T - (intOf k).toNat)
          case atStart => exact ⟨0, last, ls1, S1, g, Nat.zero_le _, rfl, rfl, hla, by omega, hcnt, E.out, O.out, HZ.out⟩
          case round =>
            obtain ⟨t, la2, ls2, S2, g2, ht, rfl, rfl, hla2, hnow2, hcnt2, hE2, hO2, hZ2⟩ := hrel
            have E2 := Lib.hid hE2
            have O2 := Lib.hid hO2
            have Z2 := Lib.hid hZ2
            clear hE2 hO2 hZ2
            by_cases htl : t < T
            · go_wp2_with fail
              refine (shturn E2.out.x Z Z2.out (by omega) (by omega)).mono ?_
              rintro e w4 ⟨ls4, S4, es, R, rfl, x4, t4, r4⟩
              obtain ⟨a4, cap4, rfl, r5⟩ := r4
              have el : (es.map Z).length = es.length := List.length_map ..
              rw [el] at r5 ⊢
              obtain ⟨-, -, r6⟩ := r5
              have E4 := Lib.hid (E2.out.turn x4 t4.kd t4.kept)
              have T4 := Lib.hid t4
              have R4 := Lib.hid r6
              have hn4 : S4.now = S2.now + 1 := t4.now
              have hes : es.length ≤ j := by have := t4.cnt; omega
              have hc4 : nAll S2.pl = nAll S4.pl + es.length := t4.cnt.symm
              have HC4 := Lib.hid (And.intro hn4 hc4)
              clear x4 t4 r6 el hn4 hc4
              go_wp2_with fail
              go_loopw [7, 16] (fun la n wr => ∃ (q last : Nat) (g : Int → Option Int), q ≤ es.length ∧ n = .int .i64 q ∧ la = .int .u64 last ∧ last ≤ S4.now ∧ OX ls4 v lv sl bd S4 s r l mb m (nAll S4.pl + (es.length - q)) g w wr ∧ OM g Z idn S4.due (fun y => Stands S4.pl y ∨ y ∈ es.drop q) N ∧ Kept (fun y => y = mb) w4 wr) (fun _ n _ => es.length - (intOf n).toNat)
              case atStart =>
                have hE4 := E4.out
                rw [show nAll S2.pl = nAll S4.pl + (es.length - 0) from HC4.out.2] at hE4
                exact ⟨0, la2, g2, Nat.zero_le _, rfl, rfl, by have := HC4.out.1; omega, hE4, by
                  rw [T4.out.due]
                  refine O2.out.same fun y => ?_
                  rw [T4.out.st, List.drop_zero, T4.out.mem]
                  exact ⟨fun h9 => h9.elim (fun h8 => h8.1) (fun h8 => h8.1), fun h9 => (Classical.em (S2.due y = S2.now + 1)).elim (fun h8 => .inr ⟨h9, h8⟩) (fun h8 => .inl ⟨h9, h8⟩)⟩, Kept.refl _ _⟩
              case round =>
                obtain ⟨q, la5, g5, hq, rfl, rfl, hla5, hE5, hO5, hk5⟩ := hrel
                have E5 := Lib.hid hE5
                have O5 := Lib.hid hO5
                have K5 := Lib.hid hk5
                clear hE5 hO5 hk5
                by_cases hql : q < es.length
                · obtain ⟨x, hx⟩ : ∃ x, es[q]? = some x := ⟨_, List.getElem?_eq_getElem hql⟩
                  have hxm : x ∈ es := List.mem_of_getElem? hx
                  have hxd : x ∈ es.drop q := List.mem_of_getElem? (i := 0) (by rw [List.getElem?_drop]; exact hx)
                  obtain ⟨hv1, hv2⟩ := O5.out.val x (.inr hxd)
                  obtain ⟨nw, hnw⟩ : ∃ nw, nw = S4.now := ⟨_, rfl⟩
                  have hdx : S4.due x = nw := by rw [T4.out.due, ((T4.out.mem x).1 hxm).2, hnw, HC4.out.1]
                  have hgx := O5.out.has x (.inr hxd)
                  have hrx := O5.out.rng x (.inr hxd)
                  rw [hdx] at hv2 hgx
                  obtain ⟨k0, hk0'⟩ : ∃ k0, k0 = idn x := ⟨_, rfl⟩
                  rw [← hk0'] at hv1 hgx hrx
                  obtain ⟨b, rfl, hb, ⟨hbl, hbk⟩, hcb⟩ := R4.out (by omega)
                  have hbm : b ≠ mb := fun e9 => by have := E2.out.mp.lt; omega
                  have hz : (es.map Z)[q]? = some (Z x) := by rw [List.getElem?_map, hx]; rfl
                  have kc : ∀ i v, w4.cell? ⟨b, i, none⟩ = some v → wr.cell? ⟨b, i, none⟩ = some v := fun i v h9 => (World.cell?_of_block (a := ⟨b, i, none⟩) (K5.out.block b hb hbm)).trans h9
                  have c0 : wr.cell? ⟨b, q * 5, none⟩ = some (.int .u64 (k0 : Int)) := by rw [← hv1, Nat.mul_comm]; exact kc _ _ (hcb q _ hz 0 (by omega))
                  have c3 : wr.cell? ⟨b, q * 5 + 3, none⟩ = some (.int .u64 (nw : Int)) := by rw [← hv2, Nat.mul_comm]; exact kc _ _ (hcb q _ hz 3 (by omega))
                  have hkw : (Lit.int .u64 (k0 : Int)).wf = true := WalkArith.wf_u64 (by omega)
                  have hlk : ∀ W', W'.heap[mb]? = wr.heap[mb]? → (Instr.lookup 28 (.map (some mb)) (.int .u64 (k0 : Int)) false).run Try.prog W' = .ok (.int .u64 (nw : Int)) W' := fun W' e9 => by
                    have := (E5.out.mp.of_block e9).look Try.underlying29 Try.underlying29 Try.underlying28 (by kernel_rfl) k0 hkw
                    rwa [hgx] at this
                  have hlk0 := hlk wr.drew rfl
                  have HLK := Lib.hid hlk
                  have CB := Lib.hid (cells_of_cell c0)
                  have ML := Lib.hid E5.out.mp.block
                  have HX := Lib.hid (And.intro hx (And.intro hxd (And.intro hk0' (And.intro hgx (And.intro hnw hdx)))))
                  have hla9 : la5 ≤ nw := by rw [hnw]; exact hla5
                  have hln : decide (nw < la5) = false := decide_eq_false (by omega)
                  have hbl9 := hb
                  clear hx hxm hxd hv1 hv2 hgx hk0' hz kc hcb hlk hnw hdx
                  go_upto_region 34 with fail
                  refine wp_region_text ([4], [9]) [b, mb] (by kernel_rfl) (by kernel_rfl) (cellsB_cons CB.out (cellsB_map ML.out cellsB_nil)) (by simp [segs, isEff, isLoad, askOps, asks, ptrEq, eqOrNe, isNil]; rfl) ?_
                  refine segs_go stay_drew (by simp [isLoad]) ?_
                  go_wp2_with fail
                  refine segs_load stay_drew (fun _ => (by exact ⟨b, _, rfl, by simp⟩)) ?_
                  go_wp2_with fail
                  refine segs_load stay_drew (fun _ => (by exact ⟨_, fun w' h9 => HLK.out w' (h9 mb (by simp))⟩)) ?_
                  go_wp2_with fail
                  refine segs_load stay_drew (fun _ => (by exact ⟨b, _, rfl, by simp⟩)) ?_
                  go_wp2_with fail
                  refine segs_load stay_drew (fun _ => (by exact ⟨b, _, rfl, by simp⟩)) ?_
                  go_wp2_with fail
                  refine (shnow (E5.out.still ((still_refl wr).drewN 1)).x).mono ?_
                  rintro e w6 ⟨rfl, k6⟩
                  rw [← HX.out.2.2.2.2.1]
                  have k6' : Still wr w6 := ((still_refl wr).drewN 1).trans k6
                  have HS := Lib.hid (show StayB [b, mb] wr w6 from fun x9 hx9 => by
                    simp only [List.mem_cons, List.not_mem_nil, or_false] at hx9
                    rcases hx9 with rfl | rfl
                    · exact k6'.block _ (lt_of_cell c0) (fun f => f)
                    · exact k6'.block _ E5.out.mp.lt (fun f => f))
                  have K6 := Lib.hid k6'
                  clear k6 k6'
                  have d0 : w6.cell? ⟨b, q * 5, none⟩ = some (.int .u64 (k0 : Int)) := still_cl K6.out c0
                  have d3 : w6.cell? ⟨b, q * 5 + 3, none⟩ = some (.int .u64 (nw : Int)) := still_cl K6.out c3
                  go_wp2_with fail
                  refine segs_go HS.out (by simp [isLoad]) ?_
                  go_wp2_with fail
                  refine segs_load HS.out (fun _ => (by exact ⟨b, _, rfl, by simp⟩)) ?_
                  go_wp2_with fail
                  refine segs_nil ?_
                  have E6 := Lib.hid (E5.out.still K6.out)
                  obtain ⟨Dm, ho, hD9⟩ := E6.out.mp
                  have HDM := Lib.hid hD9
                  clear hlk0 c0 c3 hD9
                  go_wp2_with (first | (at_delete; go_loud (refine wpList_delete_own _ rfl _ _ 28 29 rfl 29 (Go.Maps.int_keyed Try.underlying29) Try.underlying28 _ mb m _ rfl ho _ _ rfl (Go.Maps.keyOf_int_mk Try.underlying29 hkw) ?_)) | fail)
                  intro w8 ho8 g8
                  have hcn : nAll S4.pl + (es.length - q) = nAll S4.pl + (es.length - (q + 1)) + 1 := by omega
                  have hk9 : (k0 : Int) = (idn x : Int) := by rw [HX.out.2.2.1]
                  have E8 := E6.out.put (MapU.del (c := nAll S4.pl + (es.length - (q + 1))) Try.underlying29 ho HDM.out.1 (HDM.out.2.trans hcn) (k0 : Int) hkw (by rw [HX.out.2.2.2.1]; rfl) ho8) HSM.out g8.grown
                  have hndx : x ∉ es.drop (q + 1) := fun h9 => by
                    have h8 : es.drop q = x :: es.drop (q + 1) := by rw [List.drop_eq_getElem_cons hql]; congr 1; exact Option.some.inj ((List.getElem?_eq_getElem hql).symm.trans HX.out.1)
                    have h7 := List.Sublist.nodup (List.drop_sublist q es) T4.out.nodup
                    rw [h8] at h7
                    exact (List.nodup_cons.1 h7).1 h9
                  have O8 := O5.out.del (e := x) (.inr HX.out.2.1) (B := fun y => Stands S4.pl y ∨ y ∈ es.drop (q + 1)) (fun y => by
                    have h8 : es.drop q = x :: es.drop (q + 1) := by rw [List.drop_eq_getElem_cons hql]; congr 1; exact Option.some.inj ((List.getElem?_eq_getElem hql).symm.trans HX.out.1)
                    have hxs : ¬ Stands S4.pl x := fun h9 => ((T4.out.st x).1 h9).2 (((T4.out.mem x).1 (List.mem_of_getElem? HX.out.1)).2)
                    rw [h8, List.mem_cons]
                    constructor
                    · rintro (h9 | h9)
                      · exact ⟨.inl h9, fun e9 => hxs (e9 ▸ h9)⟩
                      · exact ⟨.inr (.inr h9), fun e9 => hndx (e9 ▸ h9)⟩
                    · rintro ⟨h9 | h9 | h9, h7⟩
                      · exact .inl h9
                      · exact absurd h9 h7
                      · exact .inr h9)
                  have K8 := Lib.hid (K5.out.trans ((Kept.mono K6.out (fun _ _ f => f.elim)).trans E8.2))
                  have EE := Lib.hid E8.1
                  have OO := Lib.hid O8
                  have HK9 := Lib.hid hk9
                  clear ho ho8 g8 hcn hk9 E8 O8 hndx
                  go_wp2_with fail
                  go_roundw
                  case rel => exact ⟨q + 1, nw, _, by omega, by go_num, rfl, by rw [HX.out.2.2.2.2.1]; exact Nat.le_refl _, EE.out, by rw [HK9.out]; exact OO.out, K8.out⟩
                  case measure => simp [intOf]; omega
                · obtain rfl : q = es.length := by omega
                  go_wp2_with fail
                  go_roundw
                  case rel =>
                    have hE5 := E5.out
                    rw [show nAll S4.pl + (es.length - es.length) = nAll S4.pl by omega] at hE5
                    refine ⟨t + 1, la5, ls4, S4, g5, by omega, by go_num, rfl, hla5, by have := HC4.out.1; omega, by have := HC4.out.2; omega, hE5, O5.out.same (fun y => by rw [List.drop_length]; simp), fun y hy => ?_⟩
                    rw [T4.out.val]
                    exact Z2.out y ((T4.out.st y).1 hy).1
                  case measure => simp [intOf]; omega
            · obtain rfl : t = T := by omega
              go_wp2_with fail
              go_roundw
              case rel => exact ⟨j + 1, N, la2, m, ls2, S2, Z, idn, g2, by omega, by go_num, rfl, rfl, by omega, by omega, hla2, by omega, by omega, E2.out, O2.out, Z2.out⟩
              case measure => simp [intOf]; omega
    · have hjd : decide (j ≤ len0) = false := decide_eq_false hjl
      go_upto_block 6 with fail
      go_wp2_with fail
      go_loopw [17, 18, 19] (fun k _ _ wr => ∃ q : Nat, 1 ≤ q ∧ q ≤ N + 1 ∧ k = .int .u64 q ∧ OX ls1 v lv sl bd S1 s r l mb m (nAll S1.pl) g w wr) (fun k _ _ _ => N + 1 - (intOf k).toNat)
      case atStart => exact ⟨1, Nat.le_refl _, by omega, rfl, E.out⟩
      case round =>
        obtain ⟨q, hq1, hqN, rfl, hE2⟩ := hrel
        have E2 := Lib.hid hE2
        clear hE2
        by_cases hql : q ≤ N
        · have hkw : (Lit.int .u64 (q : Int)).wf = true := WalkArith.wf_u64 (by omega)
          have hlk := E2.out.mp.look_ok Try.underlying29 Try.underlying29 Try.underlying28 (by kernel_rfl) q hkw
          cases hg : g q with
          | none =>
            rw [hg] at hlk
            have hlk' : (Instr.lookup 28 (.map (some mb)) (.int .u64 (q : Int)) true).run Try.prog wr = .ok (.tuple #[.int .u64 0, .bool false]) wr := hlk
            clear hlk hg
            go_wp2_with fail
            go_roundw
            case rel => exact ⟨q + 1, by omega, by omega, by go_num, E2.out⟩
            case measure => simp [intOf]; omega
          | some d0 =>
            rw [hg] at hlk
            obtain ⟨x, hx, hqx⟩ := O.out.back _ _ hg
            have hgx := O.out.has x hx
            rw [← hqx, hg] at hgx
            obtain rfl : d0 = (S1.due x : Int) := Option.some.inj hgx
            have hlk' : (Instr.lookup 28 (.map (some mb)) (.int .u64 (q : Int)) true).run Try.prog wr = .ok (.tuple #[.int .u64 (S1.due x : Int), .bool true]) wr := hlk
            have hdl : decide (S1.due x ≤ S1.now) = false := decide_eq_false (by
              obtain ⟨p, hp, hm⟩ := hx
              have := (E2.out.x.x.right p x hp hm).1
              omega)
            clear hlk hg hgx hqx hx
            generalize S1.due x = dx at *
            go_wp2_with fail
            refine (shnow E2.out.x).mono ?_
            rintro e w4 ⟨rfl, k4⟩
            have E4 := Lib.hid (E2.out.still k4)
            go_wp2_with fail
            go_roundw
            case rel => exact ⟨q + 1, by omega, by omega, by go_num, E4.out⟩
            case measure => simp [intOf]; omega
        · obtain rfl : q = N + 1 := by omega
          go_wp2_with fail
          refine (sharmed E2.out.x).mono ?_
          rintro e w4 ⟨rfl, k4⟩
          have E4 := E2.out.still k4
          obtain ⟨Dm, ho, -, hsz⟩ := E4.mp
          have HB := Lib.hid E4.x.x.bel
          have HSZ := Lib.hid hsz
          clear E4 hsz
          go_wp2_with (first | (at_len; go_loud (refine wpList_len_own _ rfl _ 28 rfl 29 29 Try.underlying28 _ mb m _ rfl ho ?_)) | fail)
          rw [HSZ.out]
          go_wp2_with fail
          go_ret
          exact ⟨by simp, HB.out⟩
end Go.Proofs.Ythamdbfilpegjaa
