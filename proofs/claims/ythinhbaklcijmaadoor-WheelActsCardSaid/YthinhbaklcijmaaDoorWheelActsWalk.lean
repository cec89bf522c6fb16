/-
  What stands here: the walk of WheelActs. Under the condition that the library's table is as its initialiser lays it.
-/
import Derived.Test.YthinhbaklcijmaaDoorWheelSame
import Derived.Test.YthinhbaklcijmaaDoorWheelAlive
namespace Go.Proofs.YthinhbaklcijmaaDoor
set_option linter.unusedVariables false
set_option linter.unusedSimpArgs false
open Go.RowKit Go.Proofs
theorem Tied.congrD {s : LS} {S : WSt} {ev : Nat → Nat} {n : Nat} {D D' : Nat → Nat} {b : Nat} {P : Nat → List Nat} (h : Tied s S ev n D b P) (hD : ∀ i, i < n → D' i = D i) : Tied s S ev n D' b P :=
  ⟨h.pl, h.lt, h.six, fun i hi => by rw [hD i hi]; exact h.due i hi, fun i hi => by rw [hD i hi]; exact h.dl i hi, h.val, h.inj⟩
theorem Tied.dld' {s : LS} {S : WSt} {ev : Nat → Nat} {n : Nat} {D : Nat → Nat} {b : Nat} {P : Nat → List Nat} (h : Tied s S ev n D b P) {l : List Nat} (hl : ∀ i, i ∈ l → i < n) : ∀ e, e ∈ l.map ev → S.dl e = Value.int .u64 ((S.due e : Nat) : Int) := fun e he => by
  obtain ⟨i, hi, rfl⟩ := List.mem_map.1 he
  rw [h.dl i (hl i hi), h.due i (hl i hi)]
theorem erase_on {f : Nat → Nat} {k : Nat} : ∀ {l : List Nat}, (∀ x, x ∈ l → f x = f k → x = k) → (l.erase k).map f = (l.map f).erase (f k)
  | [], _ => rfl
  | x :: l, h => by
    by_cases e : x = k
    · subst e; rw [List.erase_cons_head, List.map_cons, List.erase_cons_head]
    · rw [List.erase_cons_tail (by simpa using e), List.map_cons, List.map_cons, List.erase_cons_tail (by simp; exact fun h9 => e (h x (by simp) h9)), erase_on (fun y hy => h y (by simp [hy]))]
theorem Tied.rem' {s s' : LS} {S S' : WSt} {ev : Nat → Nat} {n : Nat} {D : Nat → Nat} {b : Nat} {P P' : Nat → List Nat} {k : Nat} {W W' : World} (h : Tied s S ev n D b P) (hk : k < n) (r : XRem s s' S S' (ev k) W W') (hP : ∀ q, q < 257 → P' q = (P q).erase k) : Tied s' S' ev n D b P' := by
  refine ⟨fun q hq => ?_, fun q i hq hi => h.lt q i hq (List.mem_of_mem_erase (by rw [hP q hq] at hi; exact hi)), fun i hi => by rw [r.kd]; exact h.six i hi, fun i hi => by rw [r.due]; exact h.due i hi, fun i hi => by rw [r.dl]; exact h.dl i hi, fun i hi => by rw [r.val]; exact h.val i hi, h.inj⟩
  rw [r.pl q hq, h.pl q hq, hP q hq]
  exact (erase_on fun x hx e => h.inj x k (h.lt q x hq hx) hk e).symm
theorem nodup_of_map {f : Nat → Nat} : ∀ {l : List Nat}, (l.map f).Nodup → l.Nodup
  | [], _ => List.nodup_nil
  | x :: l, g => by
    rw [List.map_cons, List.nodup_cons] at g
    exact List.nodup_cons.2 ⟨fun h => g.1 (List.mem_map_of_mem h), nodup_of_map g.2⟩
theorem nums_erase (k r : Nat) : ∀ {l : List RE}, (nums l r).Nodup → nums (l.filter fun x => !(x.n == k)) r = (nums l r).erase k
  | [], _ => rfl
  | x :: l, h => by
    have e1 : nums (x :: l) r = if x.q = r then x.n :: nums l r else nums l r := by
      unfold nums
      by_cases hx : x.q = r
      · rw [if_pos hx, List.filter_cons_of_pos (by simpa using hx)]; rfl
      · rw [if_neg hx, List.filter_cons_of_neg (by simpa using hx)]
    have e2 : nums ((x :: l).filter fun x => !(x.n == k)) r = if x.n = k then nums (l.filter fun x => !(x.n == k)) r else (if x.q = r then x.n :: nums (l.filter fun x => !(x.n == k)) r else nums (l.filter fun x => !(x.n == k)) r) := by
      by_cases hx : x.n = k
      · rw [if_pos hx, List.filter_cons_of_neg (by simp [hx])]
      · rw [if_neg hx, List.filter_cons_of_pos (by simp [hx])]
        unfold nums
        by_cases hq : x.q = r
        · rw [if_pos hq, List.filter_cons_of_pos (by simpa using hq)]; rfl
        · rw [if_neg hq, List.filter_cons_of_neg (by simpa using hq)]
    rw [e1] at h
    rw [e1, e2]
    by_cases hq : x.q = r
    · rw [if_pos hq] at h
      rw [if_pos hq, if_pos hq]
      obtain ⟨h1, h2⟩ := List.nodup_cons.1 h
      have ih := nums_erase k r (l := l) h2
      by_cases hx : x.n = k
      · rw [if_pos hx, ih, hx, List.erase_cons_head]
        exact List.erase_of_not_mem (by rw [← hx]; exact h1)
      · rw [if_neg hx, ih, List.erase_cons_tail (by simpa using hx)]
    · rw [if_neg hq] at h
      rw [if_neg hq, if_neg hq]
      have ih := nums_erase k r (l := l) h
      split <;> exact ih
/-- a wheel, the document's, and the row of entries -/
structure AW (col : Nat → Nat) (ls : LS) (v : Nat) (lv : Nat → Nat) (sl : Nat → Nat → Nat) (bd : Nat) (S : WSt) (ev : Nat → Nat) (n : Nat) (D : Nat → Nat) (b : Nat) (lr : List RE) (l : Value) (w W : World) : Prop where
  i : WI col ls v lv sl bd S ev n D b lr w W
  row : Owns col 9 W 28 1 l n (ptrs ((List.range n).map ev))
set_option maxHeartbeats 4000000 in
set_option maxRecDepth 100000 in
theorem wheelActs_walk (a0 : Int) (a1 : Option Addr) (len1 cap1 : Nat) (f1_0 : Nat → Int) (f1_1 : Nat → Int) (f1_2 : Nat → Int) (a2 : Int) (a3 : Int) (w : World) (w0 : (Lit.int .u64 a0).wf = true) (w1 : (len1 ≤ cap1 ∧ cap1 ≤ maxLen) ∧ (0 < len1 → ∃ b o, a1 = some ⟨b, o, none⟩ ∧ b < w.heap.size ∧ ∀ i, i < len1 → w.cell? ⟨b, o + i * 3, none⟩ = some (.int .i64 (f1_0 i)) ∧ (Lit.int .i64 (f1_0 i)).wf = true ∧ w.cell? ⟨b, o + i * 3 + 1, none⟩ = some (.int .i64 (f1_1 i)) ∧ (Lit.int .i64 (f1_1 i)).wf = true ∧ w.cell? ⟨b, o + i * 3 + 2, none⟩ = some (.int .u64 (f1_2 i)) ∧ (Lit.int .u64 (f1_2 i)).wf = true)) (w2 : (Lit.int .i64 a2).wf = true) (w3 : (Lit.int .i64 a3).wf = true) (hT : Tab w) :
    Calls Tryd.prog 4 #[.int .u64 a0, .slice a1 len1 cap1, .int .i64 a2, .int .i64 a3] w fun e w' => e = .returned (.bool true) ∧ Below w.heap.size w w' := by
  have hle0 : len1 ≤ 9223372036854775807 := by have := w1.1; unfold maxLen at this; omega
  have HA := Lib.hid w1.2
  have HT := Lib.hid hT
  have hTl := hT.lt
  have h0 := bd_u64 w0
  clear w0 w1 w2 w3 hT
  obtain ⟨N0, rfl⟩ : ∃ N0 : Nat, a0 = N0 := ⟨a0.toNat, by omega⟩
  by_cases h60 : 60 < len1
  · as_aux_lemma =>
      go_enter Tryd.func4, Tryd.ntmps4
      go_wp2_with fail
      refine (alive_any _).mono ?_
      rintro e w1 ⟨rfl, k1⟩
      go_wp2_with fail
      go_ret
      exact ⟨rfl, k1⟩
  obtain ⟨i0, hi, hz0, hz1, hz2⟩ := info_parts infoElem_e
  obtain ⟨j0, hj, hj0, hj1, hj2⟩ := info_parts infoInt
  go_enter Tryd.func4, Tryd.ntmps4
  go_wp2_with fail
  refine (alive_any _).mono ?_
  rintro e w1 ⟨rfl, k1⟩
  go_wp2_with fail
  refine (xnew_e N0 (by omega) w w1 k1).mono ?_
  rintro r w2 ⟨v, s, lv, sl, bd, S, rfl, x2, n2, p2, k2, z2', y2⟩
  obtain ⟨b, hb⟩ : ∃ b, b = w2.heap.size := ⟨_, rfl⟩
  obtain ⟨w3, hw3⟩ : ∃ w3, w3 = w2.alloc (.cells #[.int .u64 (N0 : Int), .slice none 0 0] 42) := ⟨_, rfl⟩
  have k3 : Still w2 w3 := by rw [hw3]; exact (still_refl w2).alloc _
  have bb3 : Blk w3 b #[.int .u64 (N0 : Int), .slice none 0 0] 42 := by rw [hw3, hb]; exact Blk.new _ _ _
  have hwb : w.heap.size ≤ b := by have := x2.bel.size; omega
  have E3 := Lib.hid (show ∃ col, AW col s v lv sl bd S (fun _ => 0) 0 (fun _ => 0) b [] (.slice none 0 0) w w3 from by
    refine ⟨fun y => if y < w.heap.size then 0 else if y = b then 2 else 1, {
      i := {
        fr := ⟨fun y hy => if_pos hy, below_still x2.bel k3 (Nat.le_refl _), Nat.le_refl _⟩
        x := x2.still k3
        xc := fun y hy => by
          have h1 : ¬ y < w.heap.size := fun h9 => hy (x2.low y h9)
          have h2 : y ≠ b := fun h9 => hy (x2.fr (by omega))
          rw [if_neg h1, if_neg h2]
        rs := ⟨.slice none 0 0, 3, .inl rfl, ⟨by rw [n2]; exact bb3, by show (if b < w.heap.size then 0 else if b = b then 2 else 1) = 2; rw [if_neg (by omega), if_pos rfl]⟩, Owns.nil _ _ _ _ _⟩
        t := Tied.zero _ _ p2 _ _ _
        lt' := fun x hx => by cases hx
        dd := fun x hx => by cases hx
        d64 := fun x hx => by cases hx
        ql := fun x hx => by cases hx }
      row := Owns.nil _ _ _ _ _ }⟩)
  clear x2 n2 p2 k2 z2' y2 k3 k1 bb3 hwb
  go_upto_region 7 with fail
  rw [← hw3, ← hb]
  clear hw3 hb
  go_wp2_with fail
  go_loopw [11, 12, 13, 14, 15, 16, 17, 18, 19, 20, 21, 22, 23, 24, 25] (fun l i _ _ _ _ _ _ _ _ _ _ _ _ _ wr => ∃ (j : Nat) (col : Nat → Nat) (ls : LS) (S : WSt) (ev : Nat → Nat) (n : Nat) (D : Nat → Nat) (lr : List RE), j ≤ len1 ∧ i = .int .i64 j ∧ n ≤ j ∧ lr.length ≤ j ∧ AW col ls v lv sl bd S ev n D b lr l w wr) (fun _ i _ _ _ _ _ _ _ _ _ _ _ _ _ _ => len1 - (intOf i).toNat)
  case atStart =>
    obtain ⟨col, h9⟩ := E3.out
    exact ⟨0, col, s, S, _, 0, _, [], Nat.zero_le _, rfl, Nat.le_refl _, Nat.le_refl _, h9⟩
  case round =>
    obtain ⟨j, col1, ls1, S1, ev, n, D, lr, hjn, rfl, hnj, hlj, hE⟩ := hrel
    have E := Lib.hid hE
    clear hE
    by_cases hjl : j < len1
    · obtain ⟨ab, o, rfl, hb, hc⟩ := HA.out (by omega)
      obtain ⟨a0, b0, a1, b1, a2, b2⟩ := hc j hjl
      have cell : ∀ (i : Nat) (v : Value), w.cell? ⟨ab, i, none⟩ = some v → wr.cell? ⟨ab, i, none⟩ = some v := fun i v h => (E.out.i.x.bel.cell (p := ⟨ab, i, none⟩) hb).trans h
      have c0 := cell _ _ a0
      have c1 := cell _ _ a1
      have c2 := cell _ _ a2
      obtain ⟨kd, hkd⟩ : ∃ n, n = f1_0 j := ⟨_, rfl⟩
      obtain ⟨n1, hn1'⟩ : ∃ n, n = f1_1 j := ⟨_, rfl⟩
      obtain ⟨z2, hz2'⟩ : ∃ n, n = f1_2 j := ⟨_, rfl⟩
      rw [← hkd] at c0
      rw [← hn1'] at c1 b1
      rw [← hz2'] at c2 b2
      have hd2 := bd_u64 b2
      have hbn1 := bd_i64 b1
      obtain ⟨d, rfl⟩ : ∃ d : Nat, z2 = d := ⟨z2.toNat, by omega⟩
      clear a0 a1 a2 b0 b1 b2 hc cell hn1' hkd hz2'
      go_upto_block 2 with fail
      obtain ⟨B, hB⟩ : ∃ B, B = wr.heap.size := ⟨_, rfl⟩
      obtain ⟨w4, hw4⟩ : ∃ w4, w4 = wr.alloc (.cells #[.int .i64 kd, .int .i64 n1, .int .u64 (d : Int)] 44) := ⟨_, rfl⟩
      have k4 : Still wr w4 := by rw [hw4]; exact (still_refl wr).alloc _
      have b4 : Blk w4 B #[.int .i64 kd, .int .i64 n1, .int .u64 (d : Int)] 44 := by rw [hw4, hB]; exact Blk.new _ _ _
      rw [← hw4, ← hB]
      obtain ⟨col4, hcol4⟩ : ∃ col4, col4 = ext col1 wr.heap.size 10 := ⟨_, rfl⟩
      have mv4 : Move (fun _ => False) col1 col4 wr w4 := by rw [hcol4]; exact Move.ext (k4.mono (fun _ _ f => f)) 10
      have hB9 : col4 B = 10 := by rw [hcol4]; exact ext_new col1 (by omega)
      have E4 := Lib.hid (show AW col4 ls1 v lv sl bd S1 ev n D b lr u11 w w4 from ⟨E.out.i.new mv4, E.out.row.move mv4 (fun f => f)⟩)
      have B4 := Lib.hid (show BlkC col4 10 w4 B #[.int .i64 kd, .int .i64 n1, .int .u64 (d : Int)] 44 from ⟨b4, hB9⟩)
      have d0 : w4.cell? ⟨B, 0, none⟩ = some (.int .i64 kd) := b4.cell 0
      have d1 : w4.cell? ⟨B, 1, none⟩ = some (.int .i64 n1) := b4.cell 1
      have d2 : w4.cell? ⟨B, 2, none⟩ = some (.int .u64 (d : Int)) := b4.cell 2
      clear hw4 hB k4 b4 mv4 hcol4 hB9 c0 c1 c2
      go_cut [11] from 36 to 212 (fun l wx => ∃ (col : Nat → Nat) (ls : LS) (S : WSt) (ev : Nat → Nat) (n : Nat) (D : Nat → Nat) (lr : List RE), n ≤ j + 1 ∧ lr.length ≤ j + 1 ∧ AW col ls v lv sl bd S ev n D b lr l w wx)
      case first =>
        obtain ⟨la, lc, rfl, -, -⟩ := E4.out.row.form
        by_cases hk0 : kd = 0
        · subst hk0
          have g0 : w4.cell? ⟨b, 0, none⟩ = some (.int .u64 (S1.now : Int)) := by
            obtain ⟨v', c', -, h9, -⟩ := E4.out.i.rs
            exact h9.1.cell 0
          have CB := Lib.hid (cells_of_cell d2)
          have Cb := Lib.hid (cells_of_cell g0)
          by_cases hdn : d ≤ S1.now
          · have hdb : decide (d ≤ S1.now) = true := decide_eq_true hdn
            as_aux_lemma =>
              go_wp2_with fail
              refine (wins_no_e w4 E4.out.i.x.wb d hdn (n : Int)).mono ?_
              rintro r w5 ⟨rfl, rfl⟩
              go_upto_region 14 with fail
              refine wp_region_text ([4], [9, 39]) [B, b] (by kernel_rfl) (by kernel_rfl) (cellsB_cons CB.out (cellsB_cons Cb.out cellsB_nil)) (by simp [segs, isEff, isLoad, askOps, asks, ptrEq, eqOrNe, isNil]; rfl) ?_
              (repeat ((first | (refine segs_nil ?_) | (refine segs_go (stay_drew) ?_ ?_; focus (simp [isLoad]; done)) | (refine segs_load (stay_drew) ?_ ?_; focus (intro h; first | exact ⟨B, _, rfl, by simp⟩ | exact ⟨b, _, rfl, by simp⟩ | (simp [Region.wanted, yielded, undef] at h; done))) | fail); go_wp2_with fail))
              go_roundw
              case rel =>
                have ks : Still w4 w4.drew := (still_refl w4).drewN 1
                exact ⟨j + 1, col4, ls1, S1, ev, n, D, lr, by omega, by go_num, by omega, by omega, E4.out.i.still ks, E4.out.row.still ks⟩
              case measure => simp [intOf]; omega
          · have hdb : decide (d ≤ S1.now) = false := decide_eq_false hdn
            as_aux_lemma =>
              go_wp2_with fail
              refine (xins2_e E4.out.i.x (by have := E4.out.i.cnt; omega) (d : Int) d rfl (by omega) (by omega) (n : Int)).mono ?_
              rintro r w5 ⟨rfl, s5, S5, x5, i5⟩
              obtain ⟨m5, p1, p2, p3⟩ := wi_prog E4.out.i i5.kd i5.kept
              have hDn : upd D n d n = d := upd_same _ _ _
              have hDo : ∀ i, i < n → upd D n d i = D i := fun i hi => upd_ne _ _ (by omega)
              have ht5 : Tied s5 S5 (upd ev n w4.heap.size) (n + 1) (upd D n d) 0 (putAt (nums lr) (plc d S1.now) n) := by
                have i5' := i5
                rw [show d = upd D n d n + 0 by rw [hDn]; rfl] at i5'
                exact (E4.out.i.t.congrD hDo).ins i5' (fun y hy => E4.out.i.x.fr hy) (by rw [hDn]; rfl)
              have hrow5 := E4.out.row.move m5 (by decide)
              have hB5 := B4.out.move m5 (by decide)
              obtain ⟨e1, e2, e3⟩ := wval_e x5.wb (i5.ke)
              have hdl : S5.dl w4.heap.size = .int .u64 (d : Int) := by rw [i5.dl, upd_same]
              have hvl : S5.val w4.heap.size 0 = .int .i64 (n : Int) := by rw [i5.val, upd_same]
              rw [hdl] at e2
              rw [hvl] at e3
              have q2 : w5.cell? ⟨B, 2, none⟩ = some (.int .u64 (d : Int)) := hB5.1.cell 2
              have q0 : w5.cell? ⟨b, 0, none⟩ = some (.int .u64 (S1.now : Int)) := by
                obtain ⟨v', c', -, h9, -⟩ := p3
                exact h9.1.cell 0
              have CB5 := Lib.hid (cells_of_cell q2)
              have Cb5 := Lib.hid (cells_of_cell q0)
              have CE5 := Lib.hid (cells_of_cell e2)
              have S5H := Lib.hid (And.intro p1 (And.intro p2 (And.intro x5 (And.intro ht5 (And.intro i5.now (And.intro hrow5 hB5))))))
              have hpl := refplace (p3.move (Move.still (S := fun _ => False) (((still_refl w5).drewN 1).drewN 1)) (fun f => f) (fun f => f) (fun f => f)) n d (by omega) (by have := E4.out.i.x.wb.now; omega) (by omega)
              have HPL := Lib.hid hpl
              have HEW := Lib.hid (show ∃ ew, ew = w4.heap.size from ⟨_, rfl⟩)
              generalize hew : w4.heap.size = ew at *
              clear m5 p1 p2 p3 hDn hDo ht5 hrow5 hB5 e1 hdl hvl x5 i5 hpl g0 d0 d1 d2 hew
              go_upto_region 14 with fail
              refine wp_region_text ([4], [9, 39]) [B, b] (by kernel_rfl) (by kernel_rfl) (cellsB_cons CB5.out (cellsB_cons Cb5.out cellsB_nil)) (by simp [segs, isEff, isLoad, askOps, asks, ptrEq, eqOrNe, isNil]; rfl) ?_
              (repeat ((first | (refine segs_nil ?_) | (refine segs_go (stay_drew) ?_ ?_; focus (simp [isLoad]; done)) | (refine segs_load (stay_drew) ?_ ?_; focus (intro h; first | exact ⟨B, _, rfl, by simp⟩ | exact ⟨b, _, rfl, by simp⟩ | (simp [Region.wanted, yielded, undef] at h; done))) | fail); (go_upto_region 17 with fail)))
              refine wp_region_text ([4], [9, 28]) [ew, B] (by kernel_rfl) (by kernel_rfl) (cellsB_cons CE5.out (cellsB_cons CB5.out cellsB_nil)) (by simp [segs, isEff, isLoad, askOps, asks, ptrEq, eqOrNe, isNil]; rfl) ?_
              (repeat ((first | (refine segs_nil ?_) | (refine segs_go (stay_drew) ?_ ?_; focus (simp [isLoad]; done)) | (refine segs_load (stay_drew) ?_ ?_; focus (intro h; first | exact ⟨ew, _, rfl, by simp⟩ | exact ⟨B, _, rfl, by simp⟩ | (simp [Region.wanted, yielded, undef] at h; done))) | fail); go_wp2_with fail))
              refine HPL.out.mono ?_
              rintro r w6 ⟨rfl, col6, m6, h6⟩
              have mW : Move RWP _ col6 w5 w6 := (Move.still (((still_refl w5).drewN 1).drewN 1)).trans m6
              obtain ⟨f6, x6, y6⟩ := wi_ref S5H.out.1 S5H.out.2.2.1 S5H.out.2.1 mW (by decide) (by decide)
              have row6 := S5H.out.2.2.2.2.2.1.move mW (by decide)
              have ht6 := S5H.out.2.2.2.1
              have hnm : putAt (nums lr) (plc d S1.now) n = nums (lr ++ [⟨n, d, plc d S1.now⟩]) := (nums_snoc lr ⟨n, d, plc d S1.now⟩).symm
              rw [hnm] at ht6
              rw [← S5H.out.2.2.2.2.1] at h6 ht6
              have mem : ∀ x, x ∈ lr ++ [(⟨n, d, plc d S5.now⟩ : RE)] → x ∈ lr ∨ x = ⟨n, d, plc d S5.now⟩ := fun x hx => by
                rcases List.mem_append.1 hx with h9 | h9
                · exact .inl h9
                · exact .inr (List.mem_singleton.1 h9)
              have E6 := Lib.hid (show WI col6 s5 v lv sl bd S5 (upd ev n ew) (n + 1) (upd D n d) b (lr ++ [⟨n, d, plc d S5.now⟩]) w w6 from {
                fr := f6
                x := x6
                xc := y6
                rs := h6
                t := ht6
                lt' := fun x hx => by
                  rcases mem x hx with h9 | rfl
                  · have := E4.out.i.lt' x h9; omega
                  · show n < n + 1; omega
                dd := fun x hx => by
                  rcases mem x hx with h9 | rfl
                  · rw [upd_ne _ _ (by have := E4.out.i.lt' x h9; omega)]; exact E4.out.i.dd x h9
                  · exact (upd_same _ _ _).symm
                d64 := fun x hx => by
                  rcases mem x hx with h9 | rfl
                  · exact E4.out.i.d64 x h9
                  · show d < _; omega
                ql := fun x hx => by
                  rcases mem x hx with h9 | rfl
                  · exact E4.out.i.ql x h9
                  · exact plc_lt _ _ })
              have hoa := row6.alloc (.cells #[.pointer (some ⟨ew, 0, none⟩)] 28)
              have hup : (List.range (n + 1)).map (upd ev n ew) = (List.range n).map ev ++ [ew] := by
                rw [List.range_succ, List.map_append]
                congr 1
                · exact List.map_congr_left fun i hi => upd_ne _ _ (by have := List.mem_range.1 hi; omega)
                · simp [upd_same]
              have R6 := Lib.hid (And.intro row6 hup)
              clear mW f6 x6 y6 row6 ht6 h6 m6 mem hup hnm q2 q0 e2 e3
              go_wp2_with (first | (at_builtin; refine wpList_append _ rfl _ _ 34 rfl 0 28 i0 (.pointer none) 1 8 Tryd.underlying34 hi hz0 hz1 hz2 rfl (by decide) _ _ _ rfl (hoa) ⟨w6.heap.size, 0, none⟩ 1 1 [.pointer (some ⟨ew, 0, none⟩)] rfl rfl (by intro j u hj; match j, hj with | 0, hj => simp at hj; subst hj; first | (simp [Addr.add]; done) | exact (Blk.newAt _ _ _ (by simp)).cell 0) (by intro u hu; simp at hu; subst hu; rfl) (by unfold maxLen; omega) (by omega) (by first | omega | (simp; omega) | simp) ?_) | fail)
              intro l7 w7 hap
              obtain ⟨o7, mv7⟩ := Owns.more R6.out.1 hap
              obtain ⟨f7, x7, y7⟩ := wi_ref E6.out.fr E6.out.x E6.out.xc mv7 (by decide) (by decide)
              have E7 := Lib.hid (show AW _ s5 v lv sl bd S5 (upd ev n ew) (n + 1) (upd D n d) b (lr ++ [⟨n, d, plc d S5.now⟩]) l7 w w7 from {
                i := ⟨f7, x7, y7, E6.out.rs.move mv7 (by decide) (by decide) (by decide), E6.out.t, E6.out.lt', E6.out.dd, E6.out.d64, E6.out.ql⟩
                row := by
                  rw [R6.out.2, show ptrs ((List.range n).map ev ++ [ew]) = ptrs ((List.range n).map ev) ++ [.pointer (some ⟨ew, 0, none⟩)] by unfold ptrs; rw [List.map_append]; rfl]
                  exact o7 })
              clear hap hoa o7 mv7 f7 x7 y7
              go_wp2_with fail
              go_meet
              case rel => exact ⟨_, s5, S5, _, n + 1, _, _, by omega, by simp; omega, E7.out⟩
        · have hk0b : (kd == 0) = false := by rw [beq_eq_false_iff_ne]; exact hk0
          by_cases hk1 : kd = 1
          · subst hk1
            by_cases hn0 : 0 < n
            · clear hk0
              as_aux_lemma =>
                have hmI : max 0 n1 % (n : Int) = (((max 0 n1).toNat % n : Nat) : Int) := by
                  have := Int.natCast_emod (max 0 n1).toNat n
                  rw [Int.toNat_of_nonneg (by omega)] at this
                  exact this.symm
                obtain ⟨q, hq⟩ : ∃ q, q = (max 0 n1).toNat % n := ⟨_, rfl⟩
                have hqn : q < n := by rw [hq]; exact Nat.mod_lt _ hn0
                rw [← hq] at hmI
                have hnb : decide (0 < n) = true := decide_eq_true hn0
                obtain ⟨g, cap, cur, hv9, hg1, hgb, -, -, -, hcell, -⟩ := owns_one E4.out.row (i := q) (x := .pointer (some ⟨ev q, 0, none⟩)) (by unfold ptrs; rw [List.getElem?_map, List.getElem?_map, List.getElem?_range hqn]; rfl)
                simp only [Value.slice.injEq, true_and] at hv9
                obtain ⟨rfl, rfl⟩ := hv9
                have hmod := Lib.hid hmI
                clear hq hgb
                go_upto_region 23 with fail
                rw [hmod.out]
                clear hmI hmod
                have hsx : Stands S1.pl (ev q) ↔ ∃ x, x ∈ lr ∧ x.n = q := by
                  rw [E4.out.i.stands]
                  exact ⟨fun ⟨x, hx, e⟩ => ⟨x, hx, E4.out.i.t.inj _ _ (E4.out.i.lt' x hx) hqn e⟩, fun ⟨x, hx, e⟩ => ⟨x, hx, by rw [e]⟩⟩
                by_cases hs : Stands S1.pl (ev q)
                · have hcn := E4.out.i.cnt
                  go_wp2_with fail
                  refine (xrem_e E4.out.i.x (by omega) hs).mono ?_
                  rintro r w5 ⟨rfl, s5, S5, x5, r5⟩
                  obtain ⟨m5, p1, p2, p3⟩ := wi_prog E4.out.i (ls' := s5) (fun y _ => by rw [r5.kd]) r5.kept
                  have hrow5 := E4.out.row.move m5 (by decide)
                  have hrr := refrem p3 q (by omega)
                  have HRR := Lib.hid hrr
                  have ST := Lib.hid (And.intro p1 (And.intro p2 (And.intro x5 (And.intro r5 hrow5))))
                  clear m5 p1 p2 p3 hrow5 hrr x5 r5 d0 d1 d2 hcell
                  go_wp2_with fail
                  refine HRR.out.mono ?_
                  rintro r w6 ⟨bb, col6, hbb, rfl, m6, h6⟩
                  obtain rfl : bb = true := hbb.2 (hsx.1 hs)
                  obtain ⟨f6, x6, y6⟩ := wi_ref ST.out.1 ST.out.2.2.1 ST.out.2.1 m6 (by decide) (by decide)
                  rw [← ST.out.2.2.2.1.now] at h6
                  have ht6 : Tied s5 S5 ev n D 0 (nums (lr.filter fun x => !(x.n == q))) := E4.out.i.t.rem' hqn ST.out.2.2.2.1 (fun r hr => nums_erase q r (by
                    have := E4.out.i.x.uniq.1 r hr
                    rw [E4.out.i.t.pl r hr] at this
                    exact nodup_of_map this))
                  have hsub : ∀ x, x ∈ (lr.filter fun x => !(x.n == q)) → x ∈ lr := fun x hx => (List.mem_filter.1 hx).1
                  have hfl := List.length_filter_le (fun x : RE => !(x.n == q)) lr
                  have E6 := Lib.hid (show AW col6 s5 v lv sl bd S5 ev n D b (lr.filter fun x => !(x.n == q)) (.slice (some ⟨g, 0, none⟩) n lc) w w6 from {
                    i := ⟨f6, x6, y6, h6, ht6, fun x hx => E4.out.i.lt' x (hsub x hx), fun x hx => E4.out.i.dd x (hsub x hx), fun x hx => E4.out.i.d64 x (hsub x hx), fun x hx => E4.out.i.ql x (hsub x hx)⟩
                    row := ST.out.2.2.2.2.move m6 (by decide) })
                  clear f6 x6 y6 m6 h6 ht6 hsub hs hsx
                  have hnq : (binOp .neq 4 (.bool true) (.bool true)).run Tryd.prog w6 = .ok (.bool false) w6 := by kernel_rfl
                  go_wp2_with fail
                  go_meet
                  case rel => exact ⟨col6, s5, S5, ev, n, D, _, by omega, by omega, E6.out⟩
                · go_wp2_with fail
                  refine (wrem_out_e w4 E4.out.i.x.wb (E4.out.i.t.six q hqn) hs).mono ?_
                  rintro r w5 ⟨rfl, rfl⟩
                  have hrr := refrem E4.out.i.rs q (by omega)
                  have HRR := Lib.hid hrr
                  clear hrr d0 d1 d2 hcell
                  go_wp2_with fail
                  refine HRR.out.mono ?_
                  rintro r w6 ⟨bb, col6, hbb, rfl, m6, h6⟩
                  have hno : ¬ ∃ x, x ∈ lr ∧ x.n = q := fun h9 => hs (hsx.2 h9)
                  obtain rfl : bb = false := by
                    cases bb with
                    | false => rfl
                    | true => exact absurd (hbb.1 rfl) hno
                  have hfe : (lr.filter fun x => !(x.n == q)) = lr := List.filter_eq_self.2 fun x hx => by simp; exact fun h9 => hno ⟨x, hx, h9⟩
                  rw [hfe] at h6
                  obtain ⟨f6, x6, y6⟩ := wi_ref E4.out.i.fr E4.out.i.x E4.out.i.xc m6 (by decide) (by decide)
                  have E6 := Lib.hid (show AW col6 ls1 v lv sl bd S1 ev n D b lr (.slice (some ⟨g, 0, none⟩) n lc) w w6 from {
                    i := ⟨f6, x6, y6, h6, E4.out.i.t, E4.out.i.lt', E4.out.i.dd, E4.out.i.d64, E4.out.i.ql⟩
                    row := E4.out.row.move m6 (by decide) })
                  clear f6 x6 y6 m6 h6 hfe hno hs hsx
                  go_wp2_with fail
                  go_meet
                  case rel => exact ⟨col6, ls1, S1, ev, n, D, lr, by omega, by omega, E6.out⟩
            · have hnb : decide (0 < n) = false := decide_eq_false hn0
              clear hk0
              go_wp2_with fail
              go_meet
              case rel => exact ⟨col4, ls1, S1, ev, n, D, lr, by omega, by omega, E4.out⟩
          · have hk1b : (kd == 1) = false := by rw [beq_eq_false_iff_ne]; exact hk1
            by_cases hk2 : kd = 2
            · subst hk2
              as_aux_lemma =>
                clear hk0 hk1
                obtain ⟨T, hT⟩ : ∃ T : Nat, (T : Int) = max 0 n1 % 130 := ⟨(max 0 n1 % 130).toNat, by omega⟩
                have hT130 : T < 130 := by omega
                go_wp2_with fail
                go_loopw [18, 19, 20, 21, 22, 23, 24, 25] (fun k _ _ _ _ _ _ _ wr => ∃ (t : Nat) (col : Nat → Nat) (ls : LS) (S : WSt) (lr : List RE), t ≤ T ∧ k = .int .i64 t ∧ lr.length ≤ j + 1 ∧ AW col ls v lv sl bd S ev n D b lr (.slice la n lc) w wr ∧ BlkC col 10 wr B #[.int .i64 2, .int .i64 n1, .int .u64 (d : Int)] 44) (fun k _ _ _ _ _ _ _ _ => T - (intOf k).toNat)
                case atStart => exact ⟨0, col4, ls1, S1, lr, Nat.zero_le _, rfl, by omega, E4.out, B4.out⟩
                case round =>
                  obtain ⟨t, col5, ls5, S5, lr5, ht, rfl, hlj5, hE5, hB5⟩ := hrel
                  have E5 := Lib.hid hE5
                  have B5 := Lib.hid hB5
                  have c1 : wr.cell? ⟨B, 1, none⟩ = some (.int .i64 n1) := hB5.1.cell 1
                  have g0 : wr.cell? ⟨b, 0, none⟩ = some (.int .u64 (S5.now : Int)) := by
                    obtain ⟨v', c', -, h9, -⟩ := hE5.i.rs
                    exact h9.1.cell 0
                  clear hE5 hB5 d0 d1 d2
                  by_cases htl : t < T
                  · have hlt : decide ((t : Int) < max 0 n1 % 130) = true := decide_eq_true (by omega)
                    by_cases hov : S5.now = 18446744073709551615
                    · have hadv := wadv_over_e wr E5.out.i.x.wb hov
                      have HADV := Lib.hid hadv
                      rw [hov] at g0
                      clear hadv hov
                      go_wp2_with fail
                      refine HADV.out.mono ?_
                      rintro r w6 ⟨rfl, k6⟩
                      have g6 := still_cl k6 g0
                      have E6 := Lib.hid (show AW col5 ls5 v lv sl bd S5 ev n D b lr5 (.slice la n lc) w w6 from ⟨E5.out.i.still k6, E5.out.row.still k6⟩)
                      clear k6 g0 c1
                      go_wp2_with fail
                      go_meet
                      case rel => exact ⟨col5, ls5, S5, ev, n, D, lr5, by omega, hlj5, E6.out⟩
                    · have hn5 : S5.now < 18446744073709551615 := by have := E5.out.i.x.wb.now; omega
                      have hcn := E5.out.i.cnt
                      go_wp2_with fail
                      refine (xadv_e E5.out.i.x (by omega) hn5).mono ?_
                      rintro r w6 ⟨s6, S6, es, R, rfl, x6, a6⟩
                      obtain ⟨m6, p1, p2, p3⟩ := wi_prog E5.out.i a6.kd a6.kept
                      have hDx : ∀ x, x ∈ lr5 → D x.n = x.d := fun x hx => (E5.out.i.dd x hx).symm
                      obtain ⟨t1, t2, t3⟩ := E5.out.i.t.adv (N := S5.now) (k := 0) a6 (fun y hy => E5.out.i.x.fr hy) rfl rfl
                      rw [← rout_nums hDx] at t1 t2
                      rw [← rrest_nums hDx] at t3
                      have hro : (rout (S5.now + 1) lr5).length ≤ lr5.length := by have := rout_len (S5.now + 1) lr5; omega
                      have hrr : (rrest (S5.now + 1) lr5).length ≤ lr5.length := by have := rout_len (S5.now + 1) lr5; omega
                      have hmem : ∀ x, x ∈ rrest (S5.now + 1) lr5 → x.n < n ∧ x.d = D x.n ∧ x.d < 18446744073709551616 ∧ x.q < 257 := fun x hx => by
                        obtain ⟨y, hy, e1, e2⟩ := rrest_mem hx
                        refine ⟨by rw [← e1]; exact E5.out.i.lt' y hy, by rw [← e1, ← e2]; exact E5.out.i.dd y hy, by rw [← e2]; exact E5.out.i.d64 y hy, rstg_q E5.out.i.ql 4 x (List.mem_filter.1 hx).1⟩
                      have hra := refadv p3 hn5 (by omega) E5.out.i.d64
                      have hrow6 := E5.out.row.move m6 (by decide)
                      have hB6 := B5.out.move m6 (by decide)
                      have hvals := E5.out.i.t.vals t2
                      have hval1 := E5.out.i.t.val1 t2
                      have hdld := E5.out.i.t.dld' t2
                      rw [← t1] at hvals hval1 hdld
                      have g6 : w6.cell? ⟨b, 0, none⟩ = some (.int .u64 (S5.now : Int)) := by
                        obtain ⟨v', c', -, h9, -⟩ := p3
                        exact h9.1.cell 0
                      have hnb : ((S5.now : Int) == 18446744073709551615) = false := by rw [beq_eq_false_iff_ne]; omega
                      have hR := a6.row
                      have hR' : VRow (fun b' => ext col5 wr.heap.size 1 b' = 1) w6 R (ptrs es) := hR.mono (fun b' hb' => ext_new col5 hb'.1)
                      obtain ⟨O, hO⟩ : ∃ O, O = rout (S5.now + 1) lr5 := ⟨_, rfl⟩
                      obtain ⟨RR, hRR⟩ : ∃ RR, RR = rrest (S5.now + 1) lr5 := ⟨_, rfl⟩
                      rw [← hO] at t1 t2 hra hro
                      rw [← hRR] at hra hrr hmem t3
                      have hes : es.length = O.length := by rw [t1, List.length_map, List.length_map]
                      have hvn : (es.map fun e => Value.int .i64 (intOf (S5.val e 0))) = numRow (O.map RE.n) := by rw [hvals, ← hO]; rfl
                      have hcells : ∀ (W2 : World), WX_e s6 v lv sl bd S6 w W2 → ∀ e, e ∈ es → e < W2.heap.size ∧ W2.cell? ⟨e, 0, none⟩ = some (.int .u64 ((S5.now + 1 : Nat) : Int)) ∧ W2.cell? ⟨e, 1, none⟩ = some (.int .i64 (intOf (S5.val e 0))) := fun W2 hx2 e he => by
                        obtain ⟨q1, q2, q3⟩ := wval_e hx2.wb (a6.six e he)
                        refine ⟨q1, ?_, ?_⟩
                        · rw [q2, a6.dl, hdld e he, (a6.mem e |>.1 he).2]
                        · rw [q3, a6.val, ← hval1 e he]
                      obtain ⟨ra, rc, rfl⟩ := hR'.len
                      rw [ptrs_len] at hR'
                      have ST := Lib.hid (And.intro p1 (And.intro p2 (And.intro x6 (And.intro t3 (And.intro a6.now (And.intro hrow6 (And.intro hB6 hR')))))))
                      have HM := Lib.hid hmem
                      have HRA := Lib.hid hra
                      have HV := Lib.hid (And.intro hes (And.intro hvn hcells))
                      clear m6 p1 p2 p3 hDx t1 t2 t3 hmem hra hrow6 hB6 hvals hval1 hdld hR hR' hO hRR hvn hcells a6 x6 c1 g0
                      rw [ptrs_len, hes]
                      go_wp2_with fail
                      refine HRA.out.mono ?_
                      rintro r w7 ⟨o7, col7, rfl, m7, h7, own7⟩
                      obtain ⟨f7, x7, y7⟩ := wi_ref ST.out.1 ST.out.2.2.1 ST.out.2.1 m7 (by decide) (by decide)
                      have R7 := Lib.hid (ST.out.2.2.2.2.2.2.2.keep m7.k (fun b' hb' _ h9 => by rw [hb'] at h9; omega))
                      rw [← ST.out.2.2.2.2.1] at h7
                      have E7 := Lib.hid (show AW col7 s6 v lv sl bd S6 ev n D b RR (.slice la n lc) w w7 from {
                        i := ⟨f7, x7, y7, h7, ST.out.2.2.2.1, fun x hx => (HM.out x hx).1, fun x hx => (HM.out x hx).2.1, fun x hx => (HM.out x hx).2.2.1, fun x hx => (HM.out x hx).2.2.2⟩
                        row := ST.out.2.2.2.2.2.1.move m7 (by decide) })
                      have B7 := Lib.hid (ST.out.2.2.2.2.2.2.1.move m7 (by decide))
                      have hnow6 : S6.now = S5.now + 1 := ST.out.2.2.2.2.1
                      have g7 : w7.cell? ⟨b, 0, none⟩ = some (.int .u64 ((S5.now + 1 : Nat) : Int)) := by
                        obtain ⟨v', c', -, h9, -⟩ := h7
                        have := h9.1.cell 0
                        rw [this, ← hnow6]; rfl
                      have OW := Lib.hid own7
                      obtain ⟨da, dc, rfl, -, -⟩ := own7.form
                      have HN6 := Lib.hid hnow6
                      clear f7 x7 y7 m7 h7 own7 g6 hnow6
                      go_wp2_with fail
                      go_loopw [22, 23] (fun wv iv wq => ∃ i : Nat, i ≤ O.length ∧ iv = .int .i64 i ∧ Below w7.heap.size w7 wq ∧ wq.ownsRow w7.heap.size 3 1 wv i (numRow ((O.take i).map RE.n))) (fun _ iv _ => O.length - (intOf iv).toNat)
                      case atStart => exact ⟨0, Nat.zero_le _, rfl, Below.refl _ _, World.ownsRow_nil _ _ _ _⟩
                      case round =>
                        obtain ⟨i, hi9, rfl, hbel, hoo⟩ := hrel
                        have HBL := Lib.hid hbel
                        have HOO := Lib.hid hoo
                        clear hbel hoo
                        by_cases hil : i < O.length
                        · obtain ⟨x, hx⟩ : ∃ x, O[i]? = some x := ⟨_, List.getElem?_eq_getElem hil⟩
                          have htk : numRow ((O.take (i + 1)).map RE.n) = numRow ((O.take i).map RE.n) ++ [.int .i64 (x.n : Int)] := by rw [List.take_add_one, hx, List.map_append, ← numRow_snoc]; rfl
                          obtain ⟨g, cap, hv9, hg1, hg2, -, -, hg5, hg6⟩ := OW.out.row_at (by omega)
                          simp only [Value.slice.injEq, true_and] at hv9
                          obtain ⟨rfl, rfl⟩ := hv9
                          have e0 : wr.cell? ⟨g, i * 4, none⟩ = some (.int .i64 (x.n : Int)) := (HBL.out.cell (p := ⟨g, i * 4, none⟩) hg2).trans ((hg6 (i * 4 + 0) (by omega)).trans (cellsR_at O i x 0 hx (by omega)))
                          obtain ⟨oa, oc, rfl⟩ := owns_slice HOO.out
                          have hoa : (wr.alloc (.cells #[.int .i64 (x.n : Int)] 3)).ownsRow w7.heap.size 3 1 (.slice oa i oc) i (numRow ((O.take i).map RE.n)) := owns_kept2 HOO.out ((Kept.refl (fun _ => False) _).alloc _) (fun _ _ f => f)
                          have hbz : w7.heap.size ≤ (wr.alloc (.cells #[.int .i64 (x.n : Int)] 3)).heap.size := by have := HBL.out.size; simp; omega
                          have HTK := Lib.hid htk
                          clear hg6 hg5 hx htk
                          go_wp2_with (first | (at_builtin; refine wpList_append _ rfl _ _ 52 rfl w7.heap.size 3 j0 (.int .i64 0) 1 8 Tryd.underlying52 hj hj0 hj1 hj2 rfl (by decide) _ _ _ rfl (hoa) ⟨wr.heap.size, 0, none⟩ 1 1 [.int .i64 (x.n : Int)] rfl rfl (by intro j u hj; match j, hj with | 0, hj => simp at hj; subst hj; first | (simp [Addr.add]; done) | exact (Blk.newAt _ _ _ (by simp)).cell 0) (by intro u hu; simp at hu; subst hu; rfl) (by unfold maxLen; omega) (by omega) (by first | omega | (simp; omega) | simp) ?_) | fail)
                          intro v8 w8 hap
                          have k8 : Below w7.heap.size w7 w8 := below_step HBL.out (hap.kept (Kept.refl (fun y => (Value.slice oa i oc).ownBlock = some y) wr) (fun b' _ hb' => hb')) (Nat.le_refl _) (fun i' hi' h9 => by have := owns_block HOO.out i' h9; omega)
                          have o8 : w8.ownsRow w7.heap.size 3 1 v8 (i + 1) (numRow ((O.take (i + 1)).map RE.n)) := by rw [HTK.out, List.map_take]; exact hap.owns
                          have FIN := Lib.hid (And.intro k8 o8)
                          clear hap hoa k8 o8
                          go_wp2_with fail
                          go_roundw
                          case rel => exact ⟨i + 1, by omega, by go_num, FIN.out.1, FIN.out.2⟩
                          case measure => simp [intOf]; omega
                        · obtain rfl : i = O.length := by omega
                          rw [List.take_length] at HOO
                          have g8 := bel_cl HBL.out g7
                          have E8 := Lib.hid (E7.out.i.below HBL.out)
                          have hnum := numbers_any wr (.slice ra O.length rc) es (fun e => intOf (S5.val e 0)) ((S5.now + 1 : Nat) : Int) (by
                            have h9 := R7.out.below HBL.out
                            rw [HV.out.1] at h9
                            exact h9.mono (fun _ _ => trivial)) (HV.out.2.2 wr E8.out.x) (by rw [HV.out.1]; omega)
                          rw [HV.out.2.1, HV.out.1] at hnum
                          have HNUM := Lib.hid hnum
                          obtain ⟨oa, oc, rfl⟩ := owns_slice HOO.out
                          clear hnum g7
                          go_wp2_with fail
                          refine HNUM.out.mono ?_
                          rintro r w8 ⟨⟨v8, rfl, o8⟩, k8⟩
                          have hln : (O.map RE.n).length = O.length := List.length_map ..
                          have he := eq_rows (ns := O.map RE.n) (by rw [hln]; exact o8) (Below.refl _ w8) (by rw [hln]; exact HOO.out) (k8.mono (Nat.le_refl _))
                          have HE := Lib.hid he
                          have k78 : Below w7.heap.size w7 w8 := HBL.out.trans (k8.mono HBL.out.size)
                          have K8 := Lib.hid k78
                          obtain ⟨a8, c8, rfl⟩ := owns_slice o8
                          clear he o8 k8 k78 hln
                          go_wp2_with fail
                          refine HE.out.mono ?_
                          rintro r w9 ⟨rfl, k9⟩
                          have k79 : Below w7.heap.size w7 w9 := below_still K8.out k9 (Nat.le_refl _)
                          have k79' : Still w7 w9 := ⟨k79.os, k79.tape, k79.output, k79.size, fun i hi _ => k79.block i hi⟩
                          have FIN := Lib.hid (And.intro (show AW col7 s6 v lv sl bd S6 ev n D b RR (.slice la n lc) w w9 from ⟨E7.out.i.below k79, E7.out.row.still k79'⟩) (B7.out.move (Move.still (S := fun _ => False) k79') (fun f => f)))
                          clear k9 k79 k79'
                          go_wp2_with fail
                          go_roundw
                          case rel => exact ⟨t + 1, col7, s6, S6, RR, by omega, by go_num, by omega, FIN.out.1, FIN.out.2⟩
                          case measure => simp [intOf]; omega
                  · have hlt : decide ((t : Int) < max 0 n1 % 130) = false := decide_eq_false (by omega)
                    go_wp2_with fail
                    go_meet
                    case rel => exact ⟨col5, ls5, S5, ev, n, D, lr5, by omega, hlj5, E5.out⟩
            · have hk2b : (kd == 2) = false := by rw [beq_eq_false_iff_ne]; exact hk2
              clear hk0 hk1 hk2
              go_wp2_with fail
              go_meet
              case rel => exact ⟨col4, ls1, S1, ev, n, D, lr, by omega, by omega, E4.out⟩
      case rest =>
        obtain ⟨col5, ls5, S5, ev5, n5, D5, lr5, hn5, hl5, hE5⟩ := hcut
        have hsm := same_any hE5.i (HT.out.below hE5.i.x.bel hTl) (by omega) a2 a3
        have HSM := Lib.hid hsm
        have E5 := Lib.hid hE5
        clear hE5 hsm d0 d1 d2
        as_aux_lemma =>
          go_wp2_with fail
          refine HSM.out.mono ?_
          rintro e w6 ⟨rfl, k6⟩
          have k6' : Still wc w6 := ⟨k6.os, k6.tape, k6.output, k6.size, fun i hi _ => k6.block i hi⟩
          have E6 := Lib.hid (show AW col5 ls5 v lv sl bd S5 ev5 n5 D5 b lr5 u11 w w6 from ⟨E5.out.i.below k6, E5.out.row.still k6'⟩)
          clear k6 k6'
          go_wp2_with fail
          go_roundw
          case rel => exact ⟨j + 1, col5, ls5, S5, ev5, n5, D5, lr5, by omega, by go_num, hn5, hl5, E6.out⟩
          case measure => simp [intOf]; omega
    · obtain rfl : j = len1 := by omega
      have hsm := same_any E.out.i (HT.out.below E.out.i.x.bel hTl) (by omega) a2 a3
      have HSM := Lib.hid hsm
      clear hsm
      go_wp2_with fail
      refine HSM.out.mono ?_
      rintro e w6 ⟨rfl, k6⟩
      go_wp2_with fail
      go_ret
      exact ⟨rfl, E.out.i.x.bel.trans (k6.mono E.out.i.x.bel.size)⟩
end Go.Proofs.YthinhbaklcijmaaDoor
