/-
  What stands here: the document's example of a wheel. Under no condition.
-/
import Derived.Test.YthinhbaklcijmaaDoorWheelOne
namespace Go.Proofs.YthinhbaklcijmaaDoor
set_option linter.unusedVariables false
set_option linter.unusedSimpArgs false
open Go.RowKit Go.Proofs
theorem irow_one {w : World} {g : Nat} {z : Int} {t : TypeId} (h : Blk w g #[.int .i64 z] t) : IRow (fun _ => True) w (.slice (some ⟨g, 0, none⟩) 1 1) [z] :=
  ⟨some ⟨g, 0, none⟩, 1, rfl, Nat.le_refl _, by unfold maxLen; omega, fun _ => ⟨g, 0, rfl, h.lt, trivial, fun j hj => by
    obtain rfl : j = 0 := by simpa using hj
    exact h.cell 0⟩⟩
set_option maxHeartbeats 4000000 in
set_option maxRecDepth 100000 in
theorem alive_any (w : World) : Calls Tryd.prog 6 #[] w fun e w' => e = .returned (.bool true) ∧ Below w.heap.size w w' := by
  go_enter Tryd.func6, Tryd.ntmps6
  go_wp2_with fail
  refine (xnew_e 0 (by omega) w w (Below.refl _ _)).mono ?_
  rintro r w1 ⟨v, s1, lv, sl, bd, S1, rfl, x1, n1, p1, k1, z1, y1⟩
  have X1 := Lib.hid x1
  have c1 : nAll S1.pl = 0 := nAll_none p1
  have st1 : ∀ e, ¬ Stands S1.pl e := fun e ⟨q, _, he⟩ => by rw [p1 q] at he; cases he
  clear x1 k1
  go_wp2_with fail
  refine (xins_e X1.out (by omega) 5 (by omega) (by omega) 1).mono ?_
  rintro r w2 ⟨rfl, s2, S2, x2, i2⟩
  have X2 := Lib.hid x2
  have hc2 : nAll S2.pl = 1 := by rw [i2.cnt, c1]
  have hn2 : S2.now = 0 := i2.now.trans n1
  clear x2
  go_wp2_with fail
  refine (xins_e X2.out (by omega) 70 (by omega) (by omega) 2).mono ?_
  rintro r w3 ⟨rfl, s3, S3, x3, i3⟩
  have hab : w1.heap.size < w2.heap.size := by
    have := (wval_e X2.out.wb i2.ke).1; exact this
  generalize w1.heap.size = a at *
  generalize w2.heap.size = b at *
  have hpl : S3.pl = putAt (putAt S1.pl 5 a) 65 b := by
    rw [i3.pl, i2.pl, hn2, n1]; rfl
  have hval : S3.val = upd (upd S1.val a (fun _ => .int .i64 1)) b (fun _ => .int .i64 2) := by rw [i3.val, i2.val]
  have hdue : S3.due a = 5 ∧ S3.due b = 70 := by
    rw [i3.due, i2.due]
    exact ⟨by rw [upd_ne _ _ (by omega), upd_same], upd_same _ _ _⟩
  have hst : ∀ y, Stands S3.pl y ↔ y = a ∨ y = b := fun y => by
    rw [i3.st, i2.st]
    constructor
    · rintro ((h | h) | h)
      · exact absurd h (st1 y)
      · exact .inl h
      · exact .inr h
    · rintro (h | h)
      · exact .inl (.inr h)
      · exact .inr h
  obtain ⟨f, hf⟩ : ∃ f : Nat → Int, f = fun e => if e = a then 1 else 2 := ⟨_, rfl⟩
  have hfv : ∀ e, e = a ∨ e = b → S3.val e 0 = .int .i64 (f e) := fun e he => by
    rw [hval, hf]
    rcases he with rfl | rfl
    · rw [upd_ne _ _ (by omega), upd_same]; simp
    · rw [upd_same]; simp only; rw [if_neg (by omega)]
  have hfa : f a = 1 := by rw [hf]; exact if_pos rfl
  have hfb : f b = 2 := by rw [hf]; exact if_neg (by omega)
  have h5 : S3.pl 5 = [a] := by
    rw [hpl]; unfold putAt
    rw [upd_ne _ _ (by omega), upd_same, p1]; rfl
  have h65 : S3.pl 65 = [b] := by
    rw [hpl]; unfold putAt
    rw [upd_same, upd_ne _ _ (by omega), p1]; rfl
  have hc3 : nAll S3.pl = 2 := by rw [i3.cnt, hc2]
  have hn3 : S3.now = 0 := i3.now.trans hn2
  have X3 := Lib.hid x3
  have HD := Lib.hid hdue
  have HST := Lib.hid hst
  have HFV := Lib.hid hfv
  have HF := Lib.hid (show f a = 1 ∧ f b = 2 from ⟨hfa, hfb⟩)
  have H5 := Lib.hid h5
  have H65 := Lib.hid h65
  have hc3' : nAll S3.pl < 80000 := by omega
  clear x3 i2 i3 X2 X1 hpl hval hdue hst hf hfv hfa hfb h5 h65 p1 z1 y1 st1 c1 hc2 hn2 n1
  go_wp2_with fail
  refine (wat_e w3 X3.out.wb (by omega) f 0 5 (by omega) (by omega) (fun e he => HFV.out e ((HST.out e).1 ⟨5, by omega, he⟩))).mono ?_
  rintro r w4 ⟨⟨r4, rfl, o4⟩, bel4⟩
  rw [show 0 * 64 + 5 = 5 from rfl, H5.out] at o4
  have r4' : IRow (fun _ => True) w4 r4 [1] := by
    have := (VRow.of_owns o4).mono (R := fun _ => True) (fun _ _ => trivial)
    rwa [show ([a].map fun e => Value.int .i64 (f e)) = [1].map (Value.int .i64) by rw [List.map_cons, HF.out.1]; rfl] at this
  have X4 := Lib.hid (X3.out.below bel4)
  have i5 := ints_any _ _ [1] [1] _ _ (w4.alloc (.cells #[.int .i64 1] 3)) (r4'.still ((still_refl w4).alloc _)) (irow_one (Blk.new w4 #[.int .i64 1] 3))
  rw [decide_eq_true rfl] at i5
  clear o4 r4' bel4
  go_wp2_with fail
  refine i5.mono ?_
  rintro r w5 ⟨rfl, k5⟩
  have X5 := Lib.hid (X4.out.still (((still_refl w4).alloc _).trans k5))
  clear i5 k5 X4
  go_wp2_with fail
  refine (wat_e w5 X5.out.wb (by omega) f 1 1 (by omega) (by omega) (fun e he => HFV.out e ((HST.out e).1 ⟨65, by omega, he⟩))).mono ?_
  rintro r w6 ⟨⟨r6, rfl, o6⟩, bel6⟩
  rw [show 1 * 64 + 1 = 65 from rfl, H65.out] at o6
  have r6' : IRow (fun _ => True) w6 r6 [2] := by
    have := (VRow.of_owns o6).mono (R := fun _ => True) (fun _ _ => trivial)
    rwa [show ([b].map fun e => Value.int .i64 (f e)) = [2].map (Value.int .i64) by rw [List.map_cons, HF.out.2]; rfl] at this
  have X6 := Lib.hid (X5.out.below bel6)
  have i7 := ints_any _ _ [2] [2] _ _ (w6.alloc (.cells #[.int .i64 2] 3)) (r6'.still ((still_refl w6).alloc _)) (irow_one (Blk.new w6 #[.int .i64 2] 3))
  rw [decide_eq_true rfl] at i7
  clear o6 r6' bel6 X5
  go_wp2_with fail
  refine i7.mono ?_
  rintro r w7 ⟨rfl, k7⟩
  have X7 := Lib.hid (X6.out.still (((still_refl w6).alloc _).trans k7))
  clear i7 k7 X6
  go_wp2_with fail
  go_loopw [6, 7, 8, 9] (fun n i _ _ wr => ∃ (t m : Nat) (s : LS) (S : WSt), t ≤ 64 ∧ i = .int .i64 t ∧ n = .int .i64 m ∧ m ≤ 1 ∧ (m = if t < 5 then 0 else 1) ∧ WX_e s v lv sl bd S w wr ∧ S.now = t ∧ S.due = S3.due ∧ S.val = S3.val ∧ (∀ y, Stands S.pl y ↔ (y = a ∧ t < 5) ∨ y = b) ∧ nAll S.pl < 80000) (fun _ i _ _ _ => 64 - (intOf i).toNat)
  case atStart => exact ⟨0, 0, s3, S3, by omega, rfl, by simp, by omega, by simp, X7.out, hn3, rfl, rfl, fun y => by rw [HST.out]; simp, hc3'⟩
  case round =>
    obtain ⟨t, m, s, S, ht, rfl, rfl, hm1, hm, hX, hnow, hdue, hval, hst, hcn⟩ := hrel
    have X := Lib.hid hX
    have DUE := Lib.hid hdue
    have VAL := Lib.hid hval
    have ST := Lib.hid hst
    have HN := Lib.hid hnow
    have HM := Lib.hid hm
    clear hX hdue hval hst hnow hm
    by_cases hlt : t < 64
    · go_wp2_with fail
      refine (xadv_e X.out hcn (by rw [HN.out]; omega)).mono ?_
      rintro r w8 ⟨s8, S8, es, R, rfl, x8, a8⟩
      have hes : es = if t = 4 then [a] else [] := by
        by_cases h4 : t = 4
        · rw [if_pos h4]
          refine only_one a8.nodup (fun e => ?_)
          rw [a8.mem, ST.out, DUE.out, HN.out]
          constructor
          · rintro ⟨(⟨h1, h2⟩ | h1), h3⟩
            · exact h1
            · rw [h1, HD.out.2] at h3; omega
          · rintro rfl
            exact ⟨.inl ⟨rfl, by omega⟩, by rw [HD.out.1]; omega⟩
        · rw [if_neg h4]
          refine only_none (fun e he => ?_)
          rw [a8.mem, ST.out, DUE.out, HN.out] at he
          obtain ⟨(⟨h1, h2⟩ | h1), h3⟩ := he
          · rw [h1, HD.out.1] at h3; omega
          · rw [h1, HD.out.2] at h3; omega
      have ST8 := Lib.hid (show ∀ y, Stands S8.pl y ↔ (y = a ∧ t + 1 < 5) ∨ y = b from fun y => by
        rw [a8.st, ST.out, DUE.out, HN.out]
        constructor
        · rintro ⟨(⟨h1, h2⟩ | h1), h3⟩
          · rw [h1, HD.out.1] at h3; exact .inl ⟨h1, by omega⟩
          · exact .inr h1
        · rintro (⟨h1, h2⟩ | h1)
          · exact ⟨.inl ⟨h1, by omega⟩, by rw [h1, HD.out.1]; omega⟩
          · exact ⟨.inr h1, by rw [h1, HD.out.2]; omega⟩)
      have A8 := Lib.hid a8
      have X8 := Lib.hid x8
      have hlen : es.length = if t = 4 then 1 else 0 := by rw [hes]; split <;> rfl
      obtain ⟨ra, rc, rfl⟩ := a8.row.len
      rw [ptrs_len, hlen]
      have hcn8 : nAll S8.pl < 80000 := by have := a8.cnt; omega
      have hsum : m + (if t = 4 then 1 else 0) = if t + 1 < 5 then 0 else 1 := by
        rw [HM.out]
        by_cases h4 : t = 4
        · subst h4; rfl
        · rw [if_neg h4]
          by_cases h5 : t < 5
          · rw [if_pos h5, if_pos (by omega)]
          · rw [if_neg h5, if_neg (by omega)]
      have hb2 : (if t = 4 then 1 else 0) ≤ 1 := by split <;> omega
      clear x8 a8 hes hlen
      generalize (if t = 4 then 1 else 0) = n1 at *
      have hm2 : m + n1 ≤ 1 := by rw [hsum]; split <;> omega
      have HSUM := Lib.hid hsum
      clear hsum
      go_wp2_with fail
      go_roundw
      case rel => exact ⟨t + 1, m + n1, s8, S8, by omega, by go_num, by go_num, hm2, HSUM.out, X8.out, by rw [A8.out.now, HN.out], A8.out.due.trans DUE.out, A8.out.val.trans VAL.out, ST8.out, hcn8⟩
      case measure => simp [intOf]; omega
    · obtain rfl : t = 64 := by omega
      obtain rfl : m = 1 := by rw [HM.out]; rfl
      have hb6 : S.pl 6 = [b] := by
        have hq : ∀ e, e ∈ S.pl 6 → e = b := fun e he => by
          rcases (ST.out e).1 ⟨6, by omega, he⟩ with ⟨_, h⟩ | h
          · omega
          · exact h
        obtain ⟨q, hq1, hq2⟩ := (ST.out b).2 (.inr rfl)
        have h6 := (X.out.right q b hq1 hq2).2
        rw [DUE.out, HD.out.2, HN.out] at h6
        obtain rfl : q = 6 := h6.symm
        exact only_one (X.out.wb.nodup 6 (by omega)) (fun e => ⟨hq e, fun h => h ▸ hq2⟩)
      have H6 := Lib.hid hb6
      clear hb6
      go_wp2_with fail
      refine (wat_e _ X.out.wb (by omega) f 0 6 (by omega) (by omega) (fun e he => by rw [VAL.out]; rw [show 0 * 64 + 6 = 6 from rfl, H6.out] at he; exact HFV.out e (.inr (List.mem_singleton.1 he)))).mono ?_
      rintro r w8 ⟨⟨r8, rfl, o8⟩, bel8⟩
      rw [show 0 * 64 + 6 = 6 from rfl, H6.out] at o8
      have r8' : IRow (fun _ => True) w8 r8 [2] := by
        have := (VRow.of_owns o8).mono (R := fun _ => True) (fun _ _ => trivial)
        rwa [show ([b].map fun e => Value.int .i64 (f e)) = [2].map (Value.int .i64) by rw [List.map_cons, HF.out.2]; rfl] at this
      have X8 := Lib.hid (X.out.below bel8)
      have i9 := ints_any _ _ [2] [2] _ _ (w8.alloc (.cells #[.int .i64 2] 3)) (r8'.still ((still_refl w8).alloc _)) (irow_one (Blk.new w8 #[.int .i64 2] 3))
      rw [decide_eq_true rfl] at i9
      clear o8 r8' bel8
      go_wp2_with fail
      refine i9.mono ?_
      rintro r w9 ⟨rfl, k9⟩
      have X9 := Lib.hid (X8.out.still (((still_refl w8).alloc _).trans k9))
      clear i9 k9 X8
      go_wp2_with fail
      refine (wnow_e w9 X9.out.wb).mono ?_
      rintro r w10 ⟨rfl, rfl⟩
      rw [HN.out]
      go_wp2_with fail
      go_ret
      exact ⟨rfl, X9.out.bel⟩
end Go.Proofs.YthinhbaklcijmaaDoor
