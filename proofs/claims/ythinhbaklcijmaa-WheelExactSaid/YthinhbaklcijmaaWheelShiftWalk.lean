/-
  What stands here: the walk of WheelShift. Under no condition but that its arguments fit their types.
-/
import Derived.Test.YthinhbaklcijmaaWheelTied
namespace Go.Proofs.Ythinhbaklcijmaa
set_option linter.unusedVariables false
set_option linter.unusedSimpArgs false
open Go.RowKit Go.Proofs
/-- two wheels beside each other -/
structure W2 (sa sb : LS) (va vb : Nat) (la lb : Nat → Nat) (ka kb : Nat → Nat → Nat) (ba bb : Nat) (Sa Sb : WSt) (ea eb D : Nat → Nat) (n b : Nat) (P : Nat → List Nat) (w W : World) : Prop where
  xa : WX_e sa va la ka ba Sa w W
  xb : WX_e sb vb lb kb bb Sb w W
  dis : ∀ y, sa.kd y ≠ 0 → sb.kd y = 0
  now : Sb.now = Sa.now + b
  ta : Tied sa Sa ea n D 0 P
  tb : Tied sb Sb eb n D b P
theorem W2.cnt {sa sb : LS} {va vb : Nat} {la lb : Nat → Nat} {ka kb : Nat → Nat → Nat} {ba bb : Nat} {Sa Sb : WSt} {ea eb D : Nat → Nat} {n b : Nat} {P : Nat → List Nat} {w W : World} (h : W2 sa sb va vb la lb ka kb ba bb Sa Sb ea eb D n b P w W) : nAll Sb.pl = nAll Sa.pl := nAll_map h.tb.pl h.ta.pl
theorem xins'_e {s : LS} {v : Nat} {lv : Nat → Nat} {sl : Nat → Nat → Nat} {bd : Nat} {S : WSt} {w W : World} (h : WX_e s v lv sl bd S w W) (hbig : nAll S.pl < 80000) (dI : Int) (d : Nat) (hdI : dI = (d : Int)) (hlt : S.now < d) (hd : d < 18446744073709551616) (z : Int) :
    Calls Try.prog 8 #[.pointer (some ⟨v, 0, none⟩), .int .u64 dI, .int .i64 z] W fun r w' => r = .returned (.tuple #[.pointer (some ⟨W.heap.size, 0, none⟩), .int .i64 0]) ∧ ∃ s' S', WX_e s' v lv sl bd S' w w' ∧ XIns s s' S S' W.heap.size d (fun _ => .int .i64 z) W w' := by
  subst hdI; exact xins_e h hbig d hlt hd z
theorem numbers'_any (w : World) (r : Value) (es : List Nat) (f : Nat → Int) (nI : Int) (now : Int) (hnI : nI = now) (hr : VRow (fun _ => True) w r (ptrs es)) (hc : ∀ e, e ∈ es → e < w.heap.size ∧ w.cell? ⟨e, 0, none⟩ = some (.int .u64 now) ∧ w.cell? ⟨e, 1, none⟩ = some (.int .i64 (f e))) (hl : es.length ≤ 100000) :
    Calls Try.prog 10 #[r, .int .u64 nI] w fun e w' => (∃ v, e = .returned (.tuple #[v, .bool true]) ∧ w'.ownsRow w.heap.size 3 1 v es.length (es.map fun e => Value.int .i64 (f e))) ∧ Below w.heap.size w w' := by
  subst hnI; exact numbers_any w r es f nI hr hc hl
theorem WX_e.other {sa sb : LS} {va vb : Nat} {la lb : Nat → Nat} {ka kb : Nat → Nat → Nat} {ba bb : Nat} {Sa Sb : WSt} {w W W' : World} (xa : WX_e sa va la ka ba Sa w W) (xb : WX_e sb vb lb kb bb Sb w W) (dis : ∀ y, sa.kd y ≠ 0 → sb.kd y = 0) (k : Kept (fun y => sa.kd y ≠ 0) W W') : WX_e sb vb lb kb bb Sb w W' :=
  xb.keep k (fun y hy => ⟨dis y hy, xa.lows hy⟩)
theorem dis_turn {sa sa' sb : LS} {W : World} (dis : ∀ y, sa.kd y ≠ 0 → sb.kd y = 0) (hk : ∀ y, y < W.heap.size → sa'.kd y = sa.kd y) (hf : ∀ y, W.heap.size ≤ y → sb.kd y = 0) : ∀ y, sa'.kd y ≠ 0 → sb.kd y = 0 := fun y hy => by
  rcases Nat.lt_or_ge y W.heap.size with h | h
  · exact dis y (by rw [← hk y h]; exact hy)
  · exact hf y h
theorem dis_symm {sa sb : LS} (dis : ∀ y, sa.kd y ≠ 0 → sb.kd y = 0) : ∀ y, sb.kd y ≠ 0 → sa.kd y = 0 := fun y hy => by
  rcases Nat.eq_zero_or_pos (sa.kd y) with h | h
  · exact h
  · exact absurd (dis y (by omega)) hy
theorem Tied.dld {s : LS} {S : WSt} {ev : Nat → Nat} {n : Nat} {D : Nat → Nat} {b : Nat} {P : Nat → List Nat} (h : Tied s S ev n D b P) {l : List Nat} (hl : ∀ i, i ∈ l → i < n) : ∀ e, e ∈ l.map ev → S.dl e = Value.int .u64 ((S.due e : Nat) : Int) := fun e he => by
  obtain ⟨i, hi, rfl⟩ := List.mem_map.1 he
  rw [h.dl i (hl i hi), h.due i (hl i hi)]
/-- what a call tells of entries that are due -/
theorem due_cells {s s' : LS} {v : Nat} {lv : Nat → Nat} {sl : Nat → Nat → Nat} {bd : Nat} {S S' : WSt} {w W W' W2 : World} {es O : List Nat} {R : Value} {ev D : Nat → Nat} {n b : Nat} {P : Nat → List Nat} (a : XAdv s s' S S' es R W W') (t : Tied s S ev n D b P) (x : WX_e s' v lv sl bd S' w W2) (he : es = O.map ev) (hO : ∀ i, i ∈ O → i < n) {N : Nat} (hN : S.now + 1 = N) :
    ∀ e, e ∈ es → e < W2.heap.size ∧ W2.cell? ⟨e, 0, none⟩ = some (.int .u64 (N : Int)) ∧ W2.cell? ⟨e, 1, none⟩ = some (.int .i64 (intOf (S.val e 0))) := fun e hm => by
  obtain ⟨g1, g2, g3⟩ := wval_e x.wb (a.six e hm)
  have hm' : e ∈ O.map ev := he ▸ hm
  refine ⟨g1, ?_, ?_⟩
  · rw [g2, a.dl, t.dld hO e hm', (a.mem e |>.1 hm).2, hN]
  · rw [g3, a.val, ← t.val1 hO e hm']
theorem irow_nums {l : List Nat} : l.map (fun (i : Nat) => Value.int .i64 (i : Int)) = (l.map (fun (i : Nat) => (i : Int))).map (Value.int .i64) := by rw [List.map_map]; rfl
set_option maxHeartbeats 4000000 in
set_option maxRecDepth 100000 in
theorem wheelShift_walk (a0 : Int) (a1 : Option Addr) (len1 cap1 : Nat) (z1 : List Int) (a2 : Int) (a3 : Int) (a4 : Int) (a5 : Int) (w : World) (w0 : (Lit.int .u32 a0).wf = true) (w1 : IsRow .u16 w a1 len1 cap1 z1) (w2 : (Lit.int .u16 a2).wf = true) (w3 : (Lit.int .u8 a3).wf = true) (w4 : (Lit.int .u8 a4).wf = true) (w5 : (Lit.int .u8 a5).wf = true) :
    Calls Try.prog 3 #[.int .u32 a0, .slice a1 len1 cap1, .int .u16 a2, .int .u8 a3, .int .u8 a4, .int .u8 a5] w fun e w' => e = .returned (.bool true) ∧ Below w.heap.size w w' := by
  have h0 := bd_u32 w0
  have h2 := bd_u16 w2
  have h3 := bd_u8 w3
  have h4 := bd_u8 w4
  have h5 := bd_u8 w5
  have hle := w1.le
  unfold maxLen at hle
  have HA := Lib.hid w1
  clear w0 w1 w2 w3 w4 w5
  obtain ⟨N0, rfl⟩ : ∃ N0 : Nat, a0 = N0 := ⟨a0.toNat, by omega⟩
  obtain ⟨K, rfl⟩ : ∃ K : Nat, a2 = K := ⟨a2.toNat, by omega⟩
  obtain ⟨T, rfl⟩ : ∃ T : Nat, a3 = T := ⟨a3.toNat, by omega⟩
  obtain ⟨l4, rfl⟩ : ∃ l4 : Nat, a4 = l4 := ⟨a4.toNat, by omega⟩
  obtain ⟨l5, rfl⟩ : ∃ l5 : Nat, a5 = l5 := ⟨a5.toNat, by omega⟩
  by_cases h60 : 60 < len1
  · go_enter Try.func3, Try.ntmps3
    go_wp2_with fail
    refine (alive_any _).mono ?_
    rintro e w1 ⟨rfl, k1⟩
    go_wp2_with fail
    go_ret
    exact ⟨rfl, k1⟩
  · obtain ⟨b, hb⟩ : ∃ b, b = 16777216 * K := ⟨_, rfl⟩
    have hb1 : b ≤ 1099511627776 := by omega
    go_enter Try.func3, Try.ntmps3
    go_wp2_with fail
    refine (alive_any _).mono ?_
    rintro e w1 ⟨rfl, k1⟩
    go_upto_region 6 with fail
    have hbI : (K : Int) * 16777216 = (b : Int) := by omega
    rw [hbI]
    have HBK := Lib.hid hb
    clear hb hbI
    obtain ⟨Nb, hNb⟩ : ∃ Nb, Nb = N0 + b := ⟨_, rfl⟩
    have hNI : (N0 : Int) + (b : Int) = (Nb : Int) := by omega
    have hx := fun (W : World) (hW : Below w.heap.size w W) => xnew_e Nb (by omega) w W hW
    simp only [← hNI] at hx
    have HX := Lib.hid hx
    have HNB := Lib.hid hNb
    have hNbb : Nb ≤ 1103806595072 := by omega
    clear hx hNI hNb
    go_wp2_with fail
    refine (xnew_e N0 (by omega) w w1 k1).mono ?_
    rintro r w2 ⟨va, sa, la, ka, ba, Sa, rfl, xa, na, pa, k2, za, ya⟩
    go_wp2_with fail
    refine (HX.out w2 xa.bel).mono ?_
    rintro r w3 ⟨vb, sb, lb, kb, bb, Sb, rfl, xb, nb, pb, k3, zb, yb⟩
    have h3W := Lib.hid (show W2 sa sb va vb la lb ka kb ba bb Sa Sb (fun _ => 0) (fun _ => 0) (fun j => N0 + 1 + (z1.getD j 0).toNat) 0 b (fun _ => []) w w3 from
      ⟨xa.still k3, xb, fun y hy => by
        rcases Nat.lt_or_ge y w2.heap.size with h9 | h9
        · exact zb y h9
        · exact absurd (xa.fr h9) hy, by rw [nb, na, HNB.out], Tied.zero _ _ pa _ _ _, Tied.zero _ _ pb _ _ _⟩)
    have hca : nAll Sa.pl = 0 := nAll_none pa
    have NA := Lib.hid na
    clear xa xb pa pb za zb ya yb nb na k2 k3 k1
    go_wp2_with fail
    go_loopw [16, 17, 18, 19, 20, 21] (fun i _ _ _ _ _ wr => ∃ (j : Nat) (sa sb : LS) (Sa Sb : WSt) (ea eb : Nat → Nat) (P : Nat → List Nat), j ≤ len1 ∧ i = .int .i64 j ∧ W2 sa sb va vb la lb ka kb ba bb Sa Sb ea eb (fun j => N0 + 1 + (z1.getD j 0).toNat) j b P w wr ∧ nAll Sa.pl = j ∧ Sa.now = N0) (fun i _ _ _ _ _ _ => len1 - (intOf i).toNat)
    case atStart => exact ⟨0, sa, sb, Sa, Sb, _, _, _, Nat.zero_le _, rfl, h3W.out, hca, NA.out⟩
    case round =>
      obtain ⟨j, sa1, sb1, Sa1, Sb1, ea, eb, P, hj, rfl, hW, hcnt, hnow⟩ := hrel
      have X := Lib.hid hW
      have HNOW := Lib.hid hnow
      have hn1 : Sa1.now ≤ 4294967295 := by omega
      clear hW hnow
      by_cases hjl : j < len1
      · obtain ⟨ab, ao, rfl, hab, hac⟩ := HA.out.at_ (by omega)
        have c1 := (X.out.xa.bel.cell (p := ⟨ab, ao + j, none⟩) hab).trans (hac j hjl)
        obtain ⟨u, hu⟩ : ∃ u : Nat, z1.getD j 0 = u := ⟨(z1.getD j 0).toNat, by have := get_u16 HA.out.wf j; omega⟩
        have hu2 : u < 65536 := by have := get_u16 HA.out.wf j; omega
        have hD : N0 + 1 + (z1.getD j 0).toNat = N0 + 1 + u := by rw [hu]; rfl
        have HD := Lib.hid hD
        rw [hu] at c1
        clear hac hu hD
        go_wp2_with fail
        refine (xins'_e X.out.xa (by omega) _ (N0 + 1 + (z1.getD j 0).toNat + 0) (by rw [HD.out]; omega) (by rw [HNOW.out, HD.out]; omega) (by rw [HD.out]; omega) _).mono ?_
        rintro r w4 ⟨rfl, s4, S4, x4, i4⟩
        have xb4 := X.out.xa.other X.out.xb X.out.dis i4.kept
        have dis4 := dis_turn X.out.dis i4.kd (fun y hy => X.out.xb.fr hy)
        have ta4 := X.out.ta.ins i4 (fun y hy => X.out.xa.fr hy) rfl
        have DI := Lib.hid dis4
        have TA := Lib.hid ta4
        have X4 := Lib.hid x4
        have XB := Lib.hid xb4
        have I4 := Lib.hid i4
        have hcb : nAll Sb1.pl < 80000 := by have := X.out.cnt; omega
        clear x4 i4 xb4 dis4 ta4
        go_wp2_with fail
        refine (xins'_e XB.out hcb _ (N0 + 1 + (z1.getD j 0).toNat + b) (by rw [HD.out]; omega) (by have := X.out.now; rw [HNOW.out] at this; rw [this, HD.out]; omega) (by rw [HD.out]; omega) _).mono ?_
        rintro r w5 ⟨rfl, s5, S5, x5, i5⟩
        have hq : plc (N0 + 1 + (z1.getD j 0).toNat + b) Sb1.now = plc (N0 + 1 + (z1.getD j 0).toNat + 0) Sa1.now := by
          rw [X.out.now, HBK.out, plc_by]; rfl
        have H5 := Lib.hid (show W2 s4 s5 va vb la lb ka kb ba bb S4 S5 (upd ea j wr.heap.size) (upd eb j w4.heap.size) (fun j => N0 + 1 + (z1.getD j 0).toNat) (j + 1) b (putAt P (plc (N0 + 1 + (z1.getD j 0).toNat + 0) Sa1.now) j) w w5 ∧ nAll S4.pl = j + 1 ∧ S4.now = N0 from
          ⟨⟨XB.out.other X4.out (dis_symm DI.out) i5.kept, x5, dis_symm (dis_turn (dis_symm DI.out) i5.kd (fun y hy => X4.out.fr hy)), by rw [i5.now, I4.out.now]; exact X.out.now, TA.out, X.out.tb.ins i5 (fun y hy => XB.out.fr hy) hq⟩, by rw [I4.out.cnt, hcnt], I4.out.now.trans HNOW.out⟩)
        clear x5 i5 hq
        go_wp2_with fail
        go_roundw
        case rel => exact ⟨j + 1, s4, s5, S4, S5, _, _, _, by omega, by go_num, H5.out⟩
        case measure => simp [intOf]; omega
      · obtain rfl : j = len1 := by omega
        go_wp2_with fail
        go_loopw [22, 23, 24, 25, 26, 27, 28, 29, 30] (fun i _ _ _ _ _ _ _ _ wr => ∃ (t : Nat) (sa sb : LS) (Sa Sb : WSt) (P : Nat → List Nat), t ≤ T ∧ i = .int .i64 t ∧ W2 sa sb va vb la lb ka kb ba bb Sa Sb ea eb (fun j => N0 + 1 + (z1.getD j 0).toNat) j b P w wr ∧ nAll Sa.pl ≤ j ∧ Sa.now = N0 + t) (fun i _ _ _ _ _ _ _ _ _ => T - (intOf i).toNat)
        case atStart => exact ⟨0, sa1, sb1, Sa1, Sb1, P, Nat.zero_le _, rfl, X.out, by omega, HNOW.out⟩
        case round =>
          obtain ⟨t, sa2, sb2, Sa2, Sb2, P2, ht, rfl, hW2, hcnt2, hnow2⟩ := hrel
          have X2 := Lib.hid hW2
          have HN2 := Lib.hid hnow2
          have hcb2 : nAll Sb2.pl < 80000 := by have := hW2.cnt; omega
          clear hW2 hnow2
          by_cases htl : t < T
          · go_wp2_with fail
            refine (xadv_e X2.out.xa (by omega) (by rw [HN2.out]; omega)).mono ?_
            rintro r w4 ⟨s4, S4, esa, Ra, rfl, x4, a4⟩
            have XB := Lib.hid (X2.out.xa.other X2.out.xb X2.out.dis a4.kept)
            have DI := Lib.hid (dis_turn X2.out.dis a4.kd (fun y hy => X2.out.xb.fr hy))
            obtain ⟨ea1, ea2, ea3⟩ := X2.out.ta.adv (N := N0 + t) a4 (fun y hy => X2.out.xa.fr hy) (k := 0) rfl (by rw [HN2.out]; rfl)
            have EA := Lib.hid ea1
            have OL := Lib.hid ea2
            have TA := Lib.hid ea3
            have A4 := Lib.hid a4
            have X4 := Lib.hid x4
            clear a4 x4 ea1 ea2 ea3
            go_wp2_with fail
            refine (xadv_e XB.out hcb2 (by have := X2.out.now; rw [HN2.out] at this; rw [this]; omega)).mono ?_
            rintro r w5 ⟨s5, S5, esb, Rb, rfl, x5, a5⟩
            obtain ⟨eb1, eb2, eb3⟩ := X2.out.tb.adv (N := N0 + t) a5 (fun y hy => X2.out.xb.fr (Nat.le_trans A4.out.kept.size hy) ) HBK.out (by rw [X2.out.now, HN2.out])
            have H5 := Lib.hid (show W2 s4 s5 va vb la lb ka kb ba bb S4 S5 ea eb (fun j => N0 + 1 + (z1.getD j 0).toNat) j b (restOf (fun j => N0 + 1 + (z1.getD j 0).toNat) (N0 + t + 1) P2) w w5 from
              ⟨XB.out.other X4.out (dis_symm DI.out) a5.kept, x5, dis_symm (dis_turn (dis_symm DI.out) a5.kd (fun y hy => X4.out.fr hy)), by rw [a5.now, A4.out.now, X2.out.now]; omega, TA.out, eb3⟩)
            have HS := Lib.hid (show nAll S4.pl ≤ j ∧ S4.now = N0 + (t + 1) from ⟨by have := A4.out.cnt; omega, by rw [A4.out.now, HN2.out]; omega⟩)
            have ca := Lib.hid (due_cells A4.out X2.out.ta H5.out.xa EA.out OL.out (N := N0 + t + 1) (by rw [HN2.out]))
            have cb := Lib.hid (due_cells a5 X2.out.tb x5 eb1 eb2 (N := N0 + t + 1 + b) (by rw [X2.out.now, HN2.out]; omega))
            have ra := Lib.hid ((A4.out.row.keep a5.kept (fun y hy _ h9 => h9 (X2.out.xb.fr hy.1))).mono (R := fun _ => True) (fun _ _ => trivial))
            have rb := Lib.hid (a5.row.mono (R := fun _ => True) (fun _ _ => trivial))
            have va' := X2.out.ta.vals OL.out
            have vb' := X2.out.tb.vals eb2
            rw [← EA.out] at va'
            rw [← eb1] at vb'
            have VA := Lib.hid (va'.trans irow_nums)
            have VB := Lib.hid (vb'.trans irow_nums)
            have hla : esa.length ≤ 100000 := by have := A4.out.cnt; omega
            have hlb : esb.length ≤ 100000 := by have := a5.cnt; omega
            clear x5 a5 eb1 eb2 eb3 va' vb'
            go_wp2_with fail
            refine (numbers'_any w5 Ra esa _ _ ((N0 + t + 1 : Nat) : Int) (by omega) ra.out ca.out hla).mono ?_
            rintro r w6 ⟨⟨r6, rfl, o6⟩, bel6⟩
            rw [VA.out] at o6
            have R6 := Lib.hid (show IRow (w5.heap.size ≤ ·) w6 r6 _ from VRow.of_owns o6)
            have cb6 : ∀ e, e ∈ esb → e < w6.heap.size ∧ w6.cell? ⟨e, 0, none⟩ = some (.int .u64 ((N0 + t + 1 + b : Nat) : Int)) ∧ w6.cell? ⟨e, 1, none⟩ = some (.int .i64 (intOf (Sb2.val e 0))) := fun e he => by
              obtain ⟨g1, g2, g3⟩ := cb.out e he
              exact ⟨Nat.lt_of_lt_of_le g1 bel6.size, (bel6.cell (p := ⟨e, 0, none⟩) g1).trans g2, (bel6.cell (p := ⟨e, 1, none⟩) g1).trans g3⟩
            have CB := Lib.hid cb6
            have RB := Lib.hid (rb.out.below bel6)
            have B6 := Lib.hid bel6
            clear o6 cb6 bel6 ra ca rb cb
            go_wp2_with fail
            refine (numbers'_any w6 Rb esb _ _ ((N0 + t + 1 + b : Nat) : Int) (by omega) RB.out CB.out hlb).mono ?_
            rintro r w7 ⟨⟨r7, rfl, o7⟩, bel7⟩
            rw [VB.out] at o7
            have i7 := ints_any _ _ _ _ _ _ w7 (R6.out.below bel7) (VRow.of_owns o7)
            rw [decide_eq_true rfl] at i7
            have B7 := Lib.hid (B6.out.trans (bel7.mono B6.out.size))
            clear o7 bel7 R6 RB CB
            go_wp2_with fail
            refine i7.mono ?_
            rintro r w8 ⟨rfl, k8⟩
            have B8 := Lib.hid (show Still w5 w8 from Kept.of_still ⟨B7.out.os, B7.out.tape, B7.out.output, B7.out.size, fun k hk _ => B7.out.block k hk⟩ k8)
            have H8 := Lib.hid (show W2 s4 s5 va vb la lb ka kb ba bb S4 S5 ea eb (fun j => N0 + 1 + (z1.getD j 0).toNat) j b (restOf (fun j => N0 + 1 + (z1.getD j 0).toNat) (N0 + t + 1) P2) w w8 from ⟨H5.out.xa.still B8.out, H5.out.xb.still B8.out, H5.out.dis, H5.out.now, H5.out.ta, H5.out.tb⟩)
            clear i7 k8
            go_wp2_with fail
            go_roundw
            case rel => exact ⟨t + 1, s4, s5, S4, S5, _, by omega, by go_num, H8.out, HS.out.1, HS.out.2⟩
            case measure => simp [intOf]; omega
          · obtain rfl : t = T := by omega
            go_upto_region 25 with fail
            obtain ⟨p4, hp4⟩ : ∃ p4 : Nat, (l4 : Int) % 4 = p4 := ⟨l4 % 4, by omega⟩
            obtain ⟨p5, hp5⟩ : ∃ p5 : Nat, (l5 : Int) % 64 = p5 := ⟨l5 % 64, by omega⟩
            have q4 : p4 < 4 := by omega
            have q5 : p5 < 64 := by omega
            rw [hp4, hp5]
            clear hp4 hp5
            have hq : p4 * 64 + p5 < 257 := by omega
            have hpa := X2.out.ta.pl _ hq
            have hpb := X2.out.tb.pl _ hq
            have fa := X2.out.ta.val1 (l := P2 (p4 * 64 + p5)) (fun i hi => X2.out.ta.lt _ i hq hi)
            have fb := X2.out.tb.val1 (l := P2 (p4 * 64 + p5)) (fun i hi => X2.out.ta.lt _ i hq hi)
            have ua := X2.out.ta.vals (l := P2 (p4 * 64 + p5)) (fun i hi => X2.out.ta.lt _ i hq hi)
            have ub := X2.out.tb.vals (l := P2 (p4 * 64 + p5)) (fun i hi => X2.out.ta.lt _ i hq hi)
            rw [← hpa] at fa ua
            rw [← hpb] at fb ub
            have ha256 := X2.out.ta.pl 256 (by omega)
            have hb256 := X2.out.tb.pl 256 (by omega)
            have ga := X2.out.ta.val1 (l := P2 256) (fun i hi => X2.out.ta.lt _ i (by omega) hi)
            have gb := X2.out.tb.val1 (l := P2 256) (fun i hi => X2.out.ta.lt _ i (by omega) hi)
            have ya := X2.out.ta.vals (l := P2 256) (fun i hi => X2.out.ta.lt _ i (by omega) hi)
            have yb := X2.out.tb.vals (l := P2 256) (fun i hi => X2.out.ta.lt _ i (by omega) hi)
            rw [← ha256] at ga ya
            rw [← hb256] at gb yb
            have UA := Lib.hid (ua.trans irow_nums)
            have UB := Lib.hid (ub.trans irow_nums)
            have YA := Lib.hid (ya.trans irow_nums)
            have YB := Lib.hid (yb.trans irow_nums)
            have FA := Lib.hid fa
            have FB := Lib.hid fb
            have GA := Lib.hid ga
            have GB := Lib.hid gb
            have CT := Lib.hid X2.out.cnt
            clear hpa hpb fa fb ua ub ha256 hb256 ga gb ya yb
            go_wp2_with fail
            refine (wat_e _ X2.out.xa.wb (by omega) _ p4 p5 q4 q5 FA.out).mono ?_
            rintro r w4 ⟨⟨r4, rfl, o4⟩, bel4⟩
            rw [UA.out] at o4
            have R4 := Lib.hid (show IRow (wr.heap.size ≤ ·) w4 r4 _ from VRow.of_owns o4)
            have XB4 := Lib.hid (X2.out.xb.below bel4)
            have XA4 := Lib.hid (X2.out.xa.below bel4)
            clear o4 bel4
            go_wp2_with fail
            refine (wat_e _ XB4.out.wb (by omega) _ p4 p5 q4 q5 FB.out).mono ?_
            rintro r w5 ⟨⟨r5, rfl, o5⟩, bel5⟩
            rw [UB.out] at o5
            have i5 := ints_any _ _ _ _ _ _ w5 (R4.out.below bel5) (VRow.of_owns o5)
            rw [decide_eq_true rfl] at i5
            have XB5 := Lib.hid (XB4.out.below bel5)
            have XA5 := Lib.hid (XA4.out.below bel5)
            clear o5 bel5 R4
            go_wp2_with fail
            refine i5.mono ?_
            rintro r w6 ⟨rfl, k6⟩
            have XB6 := Lib.hid (XB5.out.still k6)
            have XA6 := Lib.hid (XA5.out.still k6)
            clear i5 k6
            go_wp2_with fail
            refine (wbeyond_e _ XA6.out.wb (by omega) _ GA.out).mono ?_
            rintro r w7 ⟨⟨r7, rfl, o7⟩, bel7⟩
            rw [YA.out] at o7
            have R7 := Lib.hid (show IRow (w6.heap.size ≤ ·) w7 r7 _ from VRow.of_owns o7)
            have XB7 := Lib.hid (XB6.out.below bel7)
            have XA7 := Lib.hid (XA6.out.below bel7)
            clear o7 bel7
            go_wp2_with fail
            refine (wbeyond_e _ XB7.out.wb (by omega) _ GB.out).mono ?_
            rintro r w8 ⟨⟨r8, rfl, o8⟩, bel8⟩
            rw [YB.out] at o8
            have i8 := ints_any _ _ _ _ _ _ w8 (R7.out.below bel8) (VRow.of_owns o8)
            rw [decide_eq_true rfl] at i8
            have XB8 := Lib.hid (XB7.out.below bel8)
            have XA8 := Lib.hid (XA7.out.below bel8)
            clear o8 bel8 R7
            go_wp2_with fail
            refine i8.mono ?_
            rintro r w9 ⟨rfl, k9⟩
            have XB9 := Lib.hid (XB8.out.still k9)
            have XA9 := Lib.hid (XA8.out.still k9)
            clear i8 k9
            go_wp2_with fail
            refine (wlen_e _ XA9.out.wb).mono ?_
            rintro r w10 ⟨rfl, rfl⟩
            go_wp2_with fail
            refine (wlen_e _ XB9.out.wb).mono ?_
            rintro r w10 ⟨rfl, rfl⟩
            rw [CT.out]
            go_wp2_with fail
            go_ret
            exact ⟨rfl, XA9.out.bel⟩
end Go.Proofs.Ythinhbaklcijmaa
