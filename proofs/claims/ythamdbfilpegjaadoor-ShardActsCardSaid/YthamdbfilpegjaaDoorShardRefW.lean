/-
  What stands here: the document's shard. Under no condition but that the world holds it.
-/
import Derived.Test.YthamdbfilpegjaaDoorRefWheel
import Derived.Test.YthamdbfilpegjaaDoorShardTurn
namespace Go.Proofs.YthamdbfilpegjaaDoor
set_option linter.unusedVariables false
set_option linter.unusedSimpArgs false
open Go.RowKit Go.Proofs
def cellsT (ts : List TaskV) : List Value := ts.flatMap TaskV.cl
theorem cellsT_snoc (ts : List TaskV) (z : TaskV) : cellsT (ts ++ [z]) = cellsT ts ++ z.cl := by unfold cellsT; simp
theorem cellsT_at : ∀ (ts : List TaskV) (j : Nat) (z : TaskV) (i : Nat), ts[j]? = some z → i < 5 → (cellsT ts)[j * 5 + i]? = z.cl[i]?
  | [], _, _, _, h, _ => by simp at h
  | y :: l, 0, x, i, h, hi => by
    simp at h
    subst h
    show (y.cl ++ cellsT l)[0 * 5 + i]? = _
    rw [Nat.zero_mul, Nat.zero_add, List.getElem?_append_left (by show i < 5; exact hi)]
  | y :: l, j + 1, x, i, h, hi => by
    show (y.cl ++ cellsT l)[(j + 1) * 5 + i]? = _
    have h5 : y.cl.length = 5 := rfl
    rw [List.getElem?_append_right (by omega), show (j + 1) * 5 + i - y.cl.length = j * 5 + i by omega]
    exact cellsT_at l j x i (by simpa using h) hi
/-- the document's shard: its wheel, and the row of its tasks, of the colour 7 -/
def RSh (col : Nat → Nat) (b now : Nat) (l : List RE) (ts : List TaskV) (W : World) : Prop :=
  ∃ tv, RWh col b 47 now l [tv] W ∧ Owns col 7 W 31 5 tv ts.length (cellsT ts)
theorem RSh.move {S : Nat → Prop} {col col' : Nat → Nat} {b now : Nat} {l : List RE} {ts : List TaskV} {W W' : World} (h : RSh col b now l ts W) (m : Move S col col' W W') (hS : ∀ c, S c → c = 0 ∨ c = 1 ∨ c = 6 ∨ 8 ≤ c) : RSh col' b now l ts W' := by
  obtain ⟨tv, h1, h2⟩ := h
  exact ⟨tv, h1.move m (fun h => by have := hS 2 h; omega) (fun h => by have := hS 3 h; omega) (fun h => by have := hS 5 h; omega), h2.move m (fun h => by have := hS 7 h; omega)⟩
/-- the colours of the document's shard -/
abbrev RSS (c : Nat) : Prop := 2 ≤ c ∧ c ≤ 8
theorem rarm_inv (b : Nat) (z : TaskV) (hz : z.slot < 0) (w : World) : Calls Tryd.prog 12 #[.pointer (some ⟨b, 0, none⟩), z.v] w fun e w' => e = .returned (.tuple #[.int .u64 0, .int .i64 1]) ∧ Still w w' := by
  simp only [TaskV.v]
  obtain ⟨W0, hW0⟩ : ∃ W0, W0 = w.alloc (.cells #[.int .u64 z.id, .int .i64 z.slot, .int .u64 z.gen, .int .u64 z.dl, .int .u64 z.per] 31) := ⟨_, rfl⟩
  have k0 : Still w W0 := by rw [hW0]; exact (still_refl w).alloc _
  have bT : Blk W0 w.heap.size #[.int .u64 z.id, .int .i64 z.slot, .int .u64 z.gen, .int .u64 z.dl, .int .u64 z.per] 31 := by rw [hW0]; exact Blk.new _ _ _
  have HW0 := Lib.hid hW0
  have c1 : W0.cell? ⟨w.heap.size, 1, none⟩ = some (.int .i64 z.slot) := bT.cell 1
  clear hW0
  go_enter Tryd.func12, Tryd.ntmps12
  go_wp2_with fail
  go_ret2
  exact ⟨rfl, by (repeat (first | (with_reducible exact Kept.refl _ _) | (with_reducible refine Kept.drewN ?_ _) | (with_reducible refine Kept.drew ?_) | (with_reducible refine Kept.put ?_ _ _) | (with_reducible refine Kept.alloc ?_ _)))⟩
set_option maxRecDepth 100000 in
set_option maxHeartbeats 2000000 in
theorem rarm_over {col : Nat → Nat} {b : Nat} {l : List RE} {ts : List TaskV} {w : World} (h : RSh col b 18446744073709551615 l ts w) (z : TaskV) (hz : 0 ≤ z.slot) : Calls Tryd.prog 12 #[.pointer (some ⟨b, 0, none⟩), z.v] w fun e w' => e = .returned (.tuple #[.int .u64 0, .int .i64 9]) ∧ Still w w' := by
  simp only [TaskV.v]
  obtain ⟨tv, ⟨v, c, -, hb, -⟩, -⟩ := h
  have c0 : (w.alloc (.cells #[.int .u64 z.id, .int .i64 z.slot, .int .u64 z.gen, .int .u64 z.dl, .int .u64 z.per] 31)).cell? ⟨b, 0, none⟩ = some (.int .u64 18446744073709551615) := (hb.1.alloc _).cell 0
  go_enter Tryd.func12, Tryd.ntmps12
  go_wp2_with fail
  go_ret2
  exact ⟨rfl, by (repeat (first | (with_reducible exact Kept.refl _ _) | (with_reducible refine Kept.drewN ?_ _) | (with_reducible refine Kept.drew ?_) | (with_reducible refine Kept.put ?_ _ _) | (with_reducible refine Kept.alloc ?_ _)))⟩
set_option maxRecDepth 100000 in
set_option maxHeartbeats 4000000 in
theorem rarm_ok {col : Nat → Nat} {b now : Nat} {l : List RE} {ts : List TaskV} {w : World} (h : RSh col b now l ts w) (z : TaskV) (hz : 0 ≤ z.slot) (hd : TaskOk z) (hnow : now < 18446744073709551615) (hl : l.length < 50000) (hts : ts.length < 50000) :
    Calls Tryd.prog 12 #[.pointer (some ⟨b, 0, none⟩), z.v] w fun e w' => ∃ (d : Nat) (col' : Nat → Nat), d = max z.dl.toNat (now + 1) ∧ e = .returned (.tuple #[.int .u64 (d : Int), .int .i64 0]) ∧ Move RSS col col' w w' ∧ RSh col' b now (l ++ [⟨ts.length, d, plc d now⟩]) (ts ++ [{ z with dl := (d : Int) }]) w' := by
  simp only [TaskV.v]
  obtain ⟨i0, hi, hz0, hz1, hz2⟩ := info_parts infoTask
  obtain ⟨tv, hw, ho⟩ := h
  obtain ⟨ta, tc, rfl, -, -⟩ := ho.form
  obtain ⟨B, hB⟩ : ∃ B, B = w.heap.size := ⟨_, rfl⟩
  obtain ⟨w0, hw0⟩ : ∃ w0, w0 = w.alloc (.cells #[.int .u64 z.id, .int .i64 z.slot, .int .u64 z.gen, .int .u64 z.dl, .int .u64 z.per] 31) := ⟨_, rfl⟩
  have k0 : Still w w0 := by rw [hw0]; exact (still_refl w).alloc _
  have bT : Blk w0 B #[.int .u64 z.id, .int .i64 z.slot, .int .u64 z.gen, .int .u64 z.dl, .int .u64 z.per] 31 := by rw [hw0, hB]; exact Blk.new _ _ _
  obtain ⟨col0, hcol0⟩ : ∃ col0, col0 = ext col w.heap.size 6 := ⟨_, rfl⟩
  have mv0 : Move (fun _ => False) col col0 w w0 := by rw [hcol0]; exact Move.ext (k0.mono (fun _ _ f => f)) 6
  have hB6 : col0 B = 6 := by rw [hcol0]; exact ext_new col (by omega)
  have hw1 := hw.move mv0 (fun f => f) (fun f => f) (fun f => f)
  have ho1 := ho.move mv0 (fun f => f)
  have M0 := Lib.hid (mv0.mono (T := RSS) (fun _ f => f.elim))
  have HW0 := Lib.hid (And.intro hw0 hB)
  have c1 : w0.cell? ⟨B, 1, none⟩ = some (.int .i64 z.slot) := bT.cell 1
  have c3 : w0.cell? ⟨B, 3, none⟩ = some (.int .u64 z.dl) := bT.cell 3
  have f3 := bT.free 3
  have BT := Lib.hid (And.intro bT hB6)
  have WO := Lib.hid (And.intro hw1 ho1)
  obtain ⟨va, ca, -, hb9, -⟩ := hw1
  have e0 : w0.cell? ⟨b, 0, none⟩ = some (.int .u64 (now : Int)) := hb9.1.cell 0
  have CB := Lib.hid hb9.1.cells
  have CT := Lib.hid bT.cells
  have hdb := hd.dl
  obtain ⟨d, hdd⟩ : ∃ d, d = max z.dl.toNat (now + 1) := ⟨_, rfl⟩
  have hne : ((now : Int) == 18446744073709551615) = false := by rw [beq_eq_false_iff_ne]; omega
  have HDD := Lib.hid hdd
  clear hw0 hB k0 bT hcol0 mv0 hB6 ho1 hb9 hw ho hdd
  go_enter Tryd.func12, Tryd.ntmps12
  obtain ⟨bb, hbb⟩ : ∃ bb, decide (z.dl ≤ (now : Int)) = bb := ⟨_, rfl⟩
  go_upto_region 5 with (first | (rw [← HW0.out.1, ← HW0.out.2]) | fail)
  refine wp_region_text ([4], [9, 42]) [B, b] (by kernel_rfl) (by kernel_rfl) (cellsB_cons CT.out (cellsB_cons CB.out cellsB_nil)) (by simp [segs, isEff, isLoad, askOps, asks, ptrEq, eqOrNe, isNil]; rfl) ?_
  (repeat ((first | (refine segs_nil ?_) | (refine segs_go (stay_drew) ?_ ?_; focus (simp [isLoad]; done)) | (refine segs_load (stay_drew) ?_ ?_; focus (intro h; first | exact ⟨B, _, rfl, by simp⟩ | exact ⟨b, _, rfl, by simp⟩ | (simp [Region.wanted, yielded, undef] at h; done))) | fail); (go_upto_if 22 with fail)))
  go_cut [] from 23 to 29 (fun wx => ∃ colx, Move RSS col0 colx w0 wx ∧ RWh colx b 47 now l [.slice ta ts.length tc] wx ∧ Owns colx 7 wx 31 5 (.slice ta ts.length tc) ts.length (cellsT ts) ∧ BlkC colx 6 wx B #[.int .u64 z.id, .int .i64 z.slot, .int .u64 z.gen, .int .u64 (d : Int), .int .u64 z.per] 31)
  case first =>
    have hdr : Still w0 w0.drew := ((still_refl w0).drewN 1)
    cases bb with
    | false =>
      have hgt : ¬ z.dl ≤ (now : Int) := of_decide_eq_false hbb
      have hdz : z.dl = (d : Int) := by have := HDD.out; omega
      have HDZ := Lib.hid hdz
      clear hdz
      go_wp2_with fail
      go_meet
      case rel => exact ⟨col0, Move.still hdr, WO.out.1.move (Move.still (S := fun _ => False) hdr) (fun f => f) (fun f => f) (fun f => f), WO.out.2.move (Move.still (S := fun _ => False) hdr) (fun f => f), by rw [← HDZ.out]; exact BT.out.1.drew, BT.out.2⟩
    | true =>
      have hgt : z.dl ≤ (now : Int) := of_decide_eq_true hbb
      have hdz : (now : Int) + 1 = (d : Int) := by have := HDD.out; omega
      have kk : Kept (fun y => y = B) w0 (w0.drew.setCell ⟨B, 3, none⟩ (.int .u64 (d : Int))) := ((Kept.refl _ w0).drew).setCell (S := fun y => y = B) (fun _ => rfl) _
      have mm : Move (fun c => c = 6) col0 col0 w0 (w0.drew.setCell ⟨B, 3, none⟩ (.int .u64 (d : Int))) := Move.still' kk (fun y hy => by rw [hy]; exact BT.out.2)
      have FIN := Lib.hid (show ∃ colx, Move RSS col0 colx w0 (w0.drew.setCell ⟨B, 3, none⟩ (.int .u64 (d : Int))) ∧ RWh colx b 47 now l [.slice ta ts.length tc] (w0.drew.setCell ⟨B, 3, none⟩ (.int .u64 (d : Int))) ∧ Owns colx 7 (w0.drew.setCell ⟨B, 3, none⟩ (.int .u64 (d : Int))) 31 5 (.slice ta ts.length tc) ts.length (cellsT ts) ∧ BlkC colx 6 (w0.drew.setCell ⟨B, 3, none⟩ (.int .u64 (d : Int))) B #[.int .u64 z.id, .int .i64 z.slot, .int .u64 z.gen, .int .u64 (d : Int), .int .u64 z.per] 31 from
        ⟨col0, mm.mono (fun c hc => by rw [hc]; decide), WO.out.1.move mm (by decide) (by decide) (by decide), WO.out.2.move mm (by decide), BT.out.1.drew.set' rfl, BT.out.2⟩)
      have HDZ := Lib.hid hdz
      clear kk mm
      go_wp2_with fail
      go_meet
      case rel => exact FIN.out
  case rest =>
    obtain ⟨colx, mx, hwx, hox, hbx⟩ := hcut
    clear c1 c3 f3 e0 CB CT hbb
    have g1 : wc.cell? ⟨b, 2, none⟩ = some (.slice ta ts.length tc) := by
      obtain ⟨v', c', -, h9, -⟩ := hwx
      exact h9.1.cell 2
    have d3 : wc.cell? ⟨B, 3, none⟩ = some (.int .u64 (d : Int)) := hbx.1.cell 3
    have CB : Hid (∃ c t f, wc.heap[b]? = some (.cells c t f)) := Lib.hid (cells_of_cell g1)
    have CT := Lib.hid hbx.1.cells
    have hbl := lt_of_cell g1
    have hBl := hbx.1.lt
    have hpl := refplace (hwx.move (Move.still (S := fun _ => False) ((still_refl wc).drewN 1)) (fun f => f) (fun f => f) (fun f => f)) ts.length d (by have := HDD.out; omega) (by omega) (by omega)
    have HPL := Lib.hid hpl
    have HB6 := Lib.hid (And.intro hbx (And.intro hox mx))
    clear hpl hbx hox mx hwx
    go_upto_region 7 with fail
    refine wp_region_end ([4], [9, 42]) [b, B] rfl (by kernel_rfl) (by kernel_rfl) (by kernel_rfl) (cellsB_cons CB.out (cellsB_cons CT.out cellsB_nil)) (by simp [segs, isEff, isLoad, askOps, asks, ptrEq, eqOrNe, isNil]; rfl) ?_
    (repeat ((first | (refine segs_nil ?_) | (refine segs_go (stay_drew) ?_ ?_; focus (simp [isLoad]; done)) | (refine segs_load (stay_drew) ?_ ?_; focus (intro h; first | exact ⟨b, _, rfl, by simp⟩ | exact ⟨B, _, rfl, by simp⟩ | (simp [Region.wanted, yielded, undef] at h; done))) | fail); go_wp2_with fail))
    refine HPL.out.mono ?_
    rintro e w6 ⟨rfl, col6, m6, h6⟩
    have m6' : Move RWP colx col6 wc w6 := (Move.still ((still_refl wc).drewN 1)).trans m6
    have M6 := Lib.hid (HB6.out.2.2.trans (m6'.mono (T := RSS) (fun c9 hc9 => by show 2 ≤ c9 ∧ c9 ≤ 8; omega)))
    have hb6 := HB6.out.1.move m6' (by decide)
    have ho6 := HB6.out.2.1.move m6' (by decide)
    obtain ⟨v6, c6, hc6, hbb6, hoo6⟩ := h6
    have q0 : w6.cell? ⟨B, 0, none⟩ = some (.int .u64 z.id) := hb6.1.cell 0
    have q1 : w6.cell? ⟨B, 1, none⟩ = some (.int .i64 z.slot) := hb6.1.cell 1
    have q2 : w6.cell? ⟨B, 2, none⟩ = some (.int .u64 z.gen) := hb6.1.cell 2
    have q3 : w6.cell? ⟨B, 3, none⟩ = some (.int .u64 (d : Int)) := hb6.1.cell 3
    have q4 : w6.cell? ⟨B, 4, none⟩ = some (.int .u64 z.per) := hb6.1.cell 4
    have g6 : w6.cell? ⟨b, 2, none⟩ = some (.slice ta ts.length tc) := hbb6.1.cell 2
    have f6 := hbb6.1.free 2
    have CB6 := Lib.hid hbb6.1.cells
    have CT6 := Lib.hid hb6.1.cells
    have hbl6 := hbb6.1.lt
    have hBl6 := hb6.1.lt
    have hod := ho6.move (Move.still (S := fun _ => False) ((still_refl w6).drewN 1)) (fun f => f)
    have hoa : ((w6.alloc (.cells #[.int .u64 z.id, .int .i64 z.slot, .int .u64 z.gen, .int .u64 (d : Int), .int .u64 z.per] 31)).drew).ownsRow 0 31 5 (.slice ta ts.length tc) ts.length (cellsT ts) := hod.alloc _
    have R6 := Lib.hid (And.intro hbb6 (And.intro hoo6 (And.intro hb6 hod)))
    clear m6 m6' hb6 ho6 hbb6 hoo6 hod g1 d3 CB CT hbl hBl
    go_upto_region 8 with fail
    refine wp_region_end ([4], [9, 42]) [b, B] rfl (by kernel_rfl) (by kernel_rfl) (by kernel_rfl) (cellsB_cons CB6.out (cellsB_cons CT6.out cellsB_nil)) (by simp [segs, isEff, isLoad, askOps, asks, ptrEq, eqOrNe, isNil]; rfl) ?_
    refine segs_go stay_drew (by simp [isLoad]) ?_
    go_wp2_with fail
    refine segs_load stay_drew (fun _ => (by exact ⟨b, _, rfl, by simp⟩)) ?_
    go_wp2_with fail
    refine segs_load stay_drew (fun _ => (by exact ⟨B, _, rfl, by simp⟩)) ?_
    go_wp2_with fail
    have hs4 : StayB [b, B] w6 (w6.alloc (.cells #[.int .u64 z.id, .int .i64 z.slot, .int .u64 z.gen, .int .u64 (d : Int), .int .u64 z.per] 31)).drew := StayB.kept (w := w6) (fun _ _ => rfl) (((Kept.refl (fun _ => False) _).alloc _).drew) (fun x hx => by
      simp only [List.mem_cons, List.not_mem_nil, or_false] at hx
      rcases hx with rfl | rfl
      · exact ⟨hbl6, fun f => f⟩
      · exact ⟨hBl6, fun f => f⟩)
    refine segs_go hs4 (by simp [isLoad]) ?_
    go_wp2_with (first | (at_builtin; refine wpList_append _ rfl _ _ 36 rfl 0 31 i0 (.agg #[.int .u64 0, .int .i64 0, .int .u64 0, .int .u64 0, .int .u64 0]) 5 40 Tryd.underlying36 hi hz0 hz1 hz2 rfl (by decide) _ _ _ rfl (hoa) ⟨w6.heap.size, 0, none⟩ 1 1 [.int .u64 z.id, .int .i64 z.slot, .int .u64 z.gen, .int .u64 (d : Int), .int .u64 z.per] rfl rfl (by intro j u hj; rw [addr_add, Nat.zero_add]; exact ((Blk.newAt _ _ _ (by simp)).cell j).trans (by simpa using hj)) (by intro u hu; simp only [List.mem_cons, List.not_mem_nil, or_false] at hu; (repeat (rcases hu with hu | hu; · subst hu; rfl)); subst hu; rfl) (by unfold maxLen; omega) (by omega) (by first | omega | (simp; omega) | simp) ?_) | fail)
    intro v5 w5 hap
    obtain ⟨o5, mv5⟩ := Owns.more (w := w6.drew) (v := .slice ta ts.length tc) R6.out.2.2.2 hap
    have hb5 := BlkC.move (W := w6.drew) (W' := w5) ⟨R6.out.1.1.drew, R6.out.1.2⟩ mv5 (by decide)
    have hB5 := BlkC.move (W := w6.drew) (W' := w5) ⟨R6.out.2.2.1.1.drew, R6.out.2.2.1.2⟩ mv5 (by decide)
    have hoo5 := Owns.move (w := w6.drew) (w' := w5) (R6.out.2.1.move (Move.still (S := fun _ => False) ((still_refl w6).drewN 1)) (fun f => f)) mv5 (by show ¬ c6 = 7; omega)
    have M5 := Lib.hid (M6.out.trans (((Move.still ((still_refl w6).drewN 1)) : Move RSS col6 col6 w6 w6.drew).trans (mv5.mono (T := RSS) (fun c9 hc9 => by rw [hc9]; decide))))
    obtain ⟨va5, vc5, rfl⟩ := owns_slice o5.1
    have hs5 : StayB [b, B] w6 w5 := StayB.kept (w := w6.drew) stay_drew mv5.k (fun x hx => by
      simp only [List.mem_cons, List.not_mem_nil, or_false] at hx
      rcases hx with rfl | rfl
      · exact ⟨hbl6, fun h9 => by rw [R6.out.1.2] at h9; cases h9⟩
      · exact ⟨hBl6, fun h9 => by rw [R6.out.2.2.1.2] at h9; cases h9⟩)
    have f5 := hb5.1.free 2
    have g5 : w5.cell? ⟨b, 2, none⟩ = some (.slice ta ts.length tc) := hb5.1.cell 2
    have q5 : w5.cell? ⟨B, 3, none⟩ = some (.int .u64 (d : Int)) := hB5.1.cell 3
    have hbB : B ≠ b := fun e9 => by have h1 := hb5.2; have h2 := hB5.2; rw [e9, h1] at h2; cases h2
    have q5' : (w5.setCell ⟨b, 2, none⟩ (.slice va5 (ts.length + 1) vc5)).cell? ⟨B, 3, none⟩ = some (.int .u64 (d : Int)) := (hB5.1.other hbB _).cell 3
    have R5 := Lib.hid (And.intro o5 (And.intro hb5 hoo5))
    clear hap hoa o5 mv5 hb5 hB5 hoo5
    go_wp2_with fail
    refine segs_go hs5 (by simp [isLoad]) ?_
    go_wp2_with fail
    refine segs_nil ?_
    go_wp2_with fail
    go_ret2
    have k9 : Kept (fun y => y = b) w5 (w5.setCell ⟨b, 2, none⟩ (.slice va5 (ts.length + 1) vc5)) := (Kept.refl _ w5).setCell (S := fun y => y = b) (fun _ => rfl) _
    have hne : ∀ (c9 : Nat), c9 ≠ 2 → ∀ x, x < w5.heap.size → ext col6 w6.drew.heap.size 7 x = c9 → ¬ x = b := fun c9 h9 x hx hc e => by rw [e, R5.out.2.1.2] at hc; exact h9 hc.symm
    refine ⟨d, _, HDD.out, rfl, M0.out.trans (M5.out.trans (Move.still' k9 (fun y hy => by rw [hy, R5.out.2.1.2]; decide))), .slice va5 (ts.length + 1) vc5, ⟨v6, c6, hc6, ⟨R5.out.2.1.1.set' rfl, R5.out.2.1.2⟩, R5.out.2.2.kept k9 (hne c6 (by omega))⟩, ?_⟩
    rw [List.length_append, List.length_singleton, cellsT_snoc]
    exact R5.out.1.kept k9 (hne 7 (by omega))
/-- the task of a number -/
def tkN (ts : List TaskV) (i : Nat) : TaskV := (ts[i]?).getD ⟨0, 0, 0, 0, 0⟩
set_option maxRecDepth 100000 in
set_option maxHeartbeats 4000000 in
theorem rturn {col : Nat → Nat} {b now : Nat} {l : List RE} {ts : List TaskV} {w : World} (h : RSh col b now l ts w) (hnow : now < 18446744073709551615) (hl : l.length < 50000) (hts : ts.length < 50000) (hd : ∀ x, x ∈ l → x.d < 18446744073709551616 ∧ x.n < ts.length) :
    Calls Tryd.prog 14 #[.pointer (some ⟨b, 0, none⟩)] w fun e w' => ∃ o col', e = .returned o ∧ Move RSS col col' w w' ∧ RSh col' b (now + 1) (rrest (now + 1) l) ts w' ∧ Owns col' 8 w' 31 5 o ((rout (now + 1) l).map RE.n).length (cells5 (tkN ts) ((rout (now + 1) l).map RE.n)) := by
  obtain ⟨i0, hi, hz0, hz1, hz2⟩ := info_parts infoTask
  obtain ⟨tv, hw, ho⟩ := h
  obtain ⟨ta, tc, rfl, -, -⟩ := ho.form
  have HO := Lib.hid ho
  have hra := refadv hw hnow hl (fun x hx => (hd x hx).1)
  have hln := rout_len (now + 1) l
  have hod : ∀ x, x ∈ rout (now + 1) l → x.n < ts.length := fun x hx => by
    obtain ⟨y, hy, e1, _⟩ := rout_mem hx
    rw [← e1]; exact (hd y hy).2
  obtain ⟨O, hO⟩ : ∃ O, O = rout (now + 1) l := ⟨_, rfl⟩
  rw [← hO] at hra hln hod ⊢
  have HRA := Lib.hid hra
  have HOD := Lib.hid hod
  have HOO := Lib.hid hO
  clear hw ho hra hod hO hd
  go_enter Tryd.func14, Tryd.ntmps14
  go_wp2_with fail
  refine HRA.out.mono ?_
  rintro e w1 ⟨o1, col1, rfl, m1, h1, p1⟩
  obtain ⟨da, dc, rfl, -, -⟩ := p1.form
  have S1 := Lib.hid (And.intro (m1.mono (T := RSS) (fun c9 hc9 => by show 2 ≤ c9 ∧ c9 ≤ 8; omega)) (And.intro h1 (And.intro p1 (HO.out.move m1 (by show ¬ (2 ≤ 7 ∧ 7 ≤ 5); omega)))))
  clear m1 h1 p1
  go_wp2_with fail
  go_loopw [4, 5] (fun ov iv wr => ∃ (j : Nat) (colj : Nat → Nat), j ≤ O.length ∧ iv = .int .i64 j ∧ Move RSS col colj w wr ∧ RWh colj b 47 (now + 1) (rrest (now + 1) l) [.slice ta ts.length tc] wr ∧ Owns colj 4 wr 85 4 (.slice da O.length dc) O.length (cellsR O) ∧ Owns colj 7 wr 31 5 (.slice ta ts.length tc) ts.length (cellsT ts) ∧
    Owns colj 8 wr 31 5 ov j (cells5 (tkN ts) ((O.take j).map RE.n))) (fun _ iv _ => O.length - (intOf iv).toNat)
  case atStart => exact ⟨0, col1, Nat.zero_le _, rfl, S1.out.1, S1.out.2.1, S1.out.2.2.1, S1.out.2.2.2, Owns.nil _ _ _ _ _⟩
  case round =>
    obtain ⟨j, colj, hj, rfl, hm, hr, hp, hq, ho⟩ := hrel
    have X := Lib.hid (And.intro hm (And.intro hr (And.intro hp hq)))
    have HOU := Lib.hid ho
    clear hm
    by_cases hjl : j < O.length
    · obtain ⟨x, hx⟩ : ∃ x, O[j]? = some x := ⟨_, List.getElem?_eq_getElem hjl⟩
      have hxn := HOD.out x (List.mem_of_getElem? hx)
      obtain ⟨z, hz⟩ : ∃ z, ts[x.n]? = some z := ⟨_, List.getElem?_eq_getElem hxn⟩
      have htk : (O.take (j + 1)).map RE.n = (O.take j).map RE.n ++ [x.n] := by rw [List.take_add_one, hx, List.map_append]; rfl
      obtain ⟨g, cap, hv9, hg1, hg2, -, -, hg5, hg6⟩ := hp.row_at (by omega)
      simp only [Value.slice.injEq, true_and] at hv9
      obtain ⟨rfl, rfl⟩ := hv9
      have d0 : wr.cell? ⟨g, j * 4, none⟩ = some (.int .i64 (x.n : Int)) := (hg6 (j * 4 + 0) (by omega)).trans (cellsR_at O j x 0 hx (by omega))
      obtain ⟨gt, capt, hv8, ht1, ht2, -, -, ht5, ht6⟩ := hq.row_at (by omega)
      simp only [Value.slice.injEq, true_and] at hv8
      obtain ⟨rfl, rfl⟩ := hv8
      have hte : ∀ i, i < 5 → wr.cell? ⟨gt, x.n * 5 + i, none⟩ = z.cl[i]? := fun i hi => (ht6 (x.n * 5 + i) (by omega)).trans (cellsT_at ts x.n z i hz hi)
      have t0 : wr.cell? ⟨gt, x.n * 5, none⟩ = some (.int .u64 z.id) := hte 0 (by omega)
      have t1 : wr.cell? ⟨gt, x.n * 5 + 1, none⟩ = some (.int .i64 z.slot) := hte 1 (by omega)
      have t2 : wr.cell? ⟨gt, x.n * 5 + 2, none⟩ = some (.int .u64 z.gen) := hte 2 (by omega)
      have t3 : wr.cell? ⟨gt, x.n * 5 + 3, none⟩ = some (.int .u64 z.dl) := hte 3 (by omega)
      have t4 : wr.cell? ⟨gt, x.n * 5 + 4, none⟩ = some (.int .u64 z.per) := hte 4 (by omega)
      have g1 : wr.cell? ⟨b, 2, none⟩ = some (.slice (some ⟨gt, 0, none⟩) ts.length tc) := by
        obtain ⟨v', c', -, h9, -⟩ := hr
        exact h9.1.cell 2
      obtain ⟨oa, oc, rfl, -, -⟩ := ho.form
      have hod := ho.move (Move.still (S := fun _ => False) ((still_refl wr).drewN 1)) (fun f => f)
      have hoa : ((wr.alloc (.cells #[.int .u64 z.id, .int .i64 z.slot, .int .u64 z.gen, .int .u64 z.dl, .int .u64 z.per] 31)).drew).ownsRow 0 31 5 (.slice oa j oc) j (cells5 (tkN ts) ((O.take j).map RE.n)) := hod.alloc _
      have HZ := Lib.hid (And.intro hz htk)
      have HD := Lib.hid hod
      have CG := Lib.hid hg5
      have CT := Lib.hid ht5
      have CB := Lib.hid (cells_of_cell g1)
      have hbl := lt_of_cell g1
      clear hr hp hq ho hx hz htk hg6 ht6 hte hod hg5 ht5
      go_upto_region 6 with fail
      refine wp_region_text ([4], [9, 42]) [b, g, gt] (by kernel_rfl) (by kernel_rfl) (cellsB_cons CB.out (cellsB_cons CG.out (cellsB_cons CT.out cellsB_nil))) (by simp [segs, isEff, isLoad, askOps, asks, ptrEq, eqOrNe, isNil]; rfl) ?_
      (repeat ((first | (refine segs_nil ?_) | (refine segs_go (stay_drew) ?_ ?_; focus (simp [isLoad]; done)) | (refine segs_load (stay_drew) ?_ ?_; focus (intro h; first | exact ⟨b, _, rfl, by simp⟩ | exact ⟨g, _, rfl, by simp⟩ | exact ⟨gt, _, rfl, by simp⟩ | (simp [Region.wanted, yielded, undef] at h; done))) | fail); go_wp2_with fail))
      have hs4 : StayB [b, g, gt] wr (wr.alloc (.cells #[.int .u64 z.id, .int .i64 z.slot, .int .u64 z.gen, .int .u64 z.dl, .int .u64 z.per] 31)).drew := StayB.kept (w := wr) (fun _ _ => rfl) (((Kept.refl (fun _ => False) _).alloc _).drew) (fun x hx => by
        simp only [List.mem_cons, List.not_mem_nil, or_false] at hx
        rcases hx with rfl | rfl | rfl
        · exact ⟨hbl, fun f => f⟩
        · exact ⟨hg2, fun f => f⟩
        · exact ⟨ht2, fun f => f⟩)
      refine segs_go hs4 (by simp [isLoad]) ?_
      go_wp2_with (first | (at_builtin; refine wpList_append _ rfl _ _ 36 rfl 0 31 i0 (.agg #[.int .u64 0, .int .i64 0, .int .u64 0, .int .u64 0, .int .u64 0]) 5 40 Tryd.underlying36 hi hz0 hz1 hz2 rfl (by decide) _ _ _ rfl (hoa) ⟨wr.heap.size, 0, none⟩ 1 1 [.int .u64 z.id, .int .i64 z.slot, .int .u64 z.gen, .int .u64 z.dl, .int .u64 z.per] rfl rfl (by intro j u hj; rw [addr_add, Nat.zero_add]; exact ((Blk.newAt _ _ _ (by simp)).cell j).trans (by simpa using hj)) (by intro u hu; simp only [List.mem_cons, List.not_mem_nil, or_false] at hu; (repeat (rcases hu with hu | hu; · subst hu; rfl)); subst hu; rfl) (by unfold maxLen; omega) (by omega) (by first | omega | (simp; omega) | simp) ?_) | fail)
      intro v5 w5 hap
      obtain ⟨o5, mv5⟩ := Owns.more (w := wr.drew) (v := .slice oa j oc) HD.out hap
      have md : Move (fun _ => False) colj colj wr wr.drew := Move.still ((still_refl wr).drewN 1)
      have r5 := (X.out.2.1.move md (fun f => f) (fun f => f) (fun f => f)).move mv5 (by decide) (by decide) (by decide)
      have p5 := (X.out.2.2.1.move md (fun f => f)).move mv5 (by decide)
      have q5 := (X.out.2.2.2.move md (fun f => f)).move mv5 (by decide)
      have m5 : Move RSS col _ w w5 := X.out.1.trans ((md.mono (fun _ f => f.elim)).trans (mv5.mono (fun c9 hc9 => by rw [hc9]; decide)))
      have hs5 : StayB [b, g, gt] wr w5 := StayB.kept (w := wr.drew) stay_drew mv5.k (fun x hx => by
        simp only [List.mem_cons, List.not_mem_nil, or_false] at hx
        rcases hx with rfl | rfl | rfl
        · exact ⟨hbl, fun h9 => by
            obtain ⟨v', c', -, h8, -⟩ := X.out.2.1
            rw [h8.2] at h9; cases h9⟩
        · exact ⟨hg2, fun h9 => by rw [hg1] at h9; cases h9⟩
        · exact ⟨ht2, fun h9 => by rw [ht1] at h9; cases h9⟩)
      have hfin : Owns (ext colj wr.drew.heap.size 8) 8 w5 31 5 v5 (j + 1) (cells5 (tkN ts) ((O.take (j + 1)).map RE.n)) := by
        rw [HZ.out.2, cells5_snoc]
        have e9 : tkN ts x.n = z := by unfold tkN; rw [HZ.out.1]; rfl
        rw [e9, List.map_take]
        exact o5
      have FIN := Lib.hid (And.intro m5 (And.intro r5 (And.intro p5 (And.intro q5 hfin))))
      clear hap hoa o5 mv5 md r5 p5 q5 m5 hfin
      go_wp2_with fail
      refine segs_go hs5 (by simp [isLoad]) ?_
      go_wp2_with fail
      refine segs_nil ?_
      go_wp2_with fail
      go_roundw
      case rel => exact ⟨j + 1, _, by omega, by go_num, FIN.out.1, FIN.out.2.1, FIN.out.2.2.1, FIN.out.2.2.2.1, FIN.out.2.2.2.2⟩
      case measure => simp [intOf]; omega
    · obtain rfl : j = O.length := by omega
      rw [List.take_length] at HOU
      obtain ⟨oa, oc, rfl, -, -⟩ := ho.form
      clear hr hp hq ho
      go_wp2_with fail
      go_ret
      rw [List.length_map]
      exact ⟨_, colj, rfl, X.out.1, ⟨_, X.out.2.1, X.out.2.2.2⟩, HOU.out⟩
end Go.Proofs.YthamdbfilpegjaaDoor
