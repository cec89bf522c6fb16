/-
  What stands here: the document's wheel of layer 8, what it holds, and what its functions do with it. Under no condition but that it holds it.
-/
import Derived.Test.YthinhbaklcijmaaDoorRow
import Derived.Test.YthinhbaklcijmaaDoorText
import Derived.Test.YthinhbaklcijmaaDoorTimesRef
import Derived.Test.YthinhbaklcijmaaDoorWheelTake
import Derived.Deep.CutBlock
import Derived.Deep.CutRange
namespace Go.Proofs.YthinhbaklcijmaaDoor
set_option linter.unusedVariables false
set_option linter.unusedSimpArgs false
open Go.RowKit Go.Proofs
/-- an entry of the document's wheel: its number, its deadline, its place -/
structure RE where
  n : Nat
  d : Nat
  q : Nat
  deriving DecidableEq
def RE.cl (x : RE) : List Value := [.int .i64 (x.n : Int), .int .u64 (x.d : Int), .int .i64 ((x.q / 64 : Nat) : Int), .int .i64 ((x.q % 64 : Nat) : Int)]
def cellsR (l : List RE) : List Value := l.flatMap RE.cl
theorem cellsR_snoc (l : List RE) (x : RE) : cellsR (l ++ [x]) = cellsR l ++ x.cl := by unfold cellsR; simp
theorem cellsR_len (l : List RE) : (cellsR l).length = l.length * 4 := by
  induction l with
  | nil => rfl
  | cons x l ih => show (x.cl ++ cellsR l).length = _; rw [List.length_append, ih, List.length_cons]; show 4 + _ = _; omega
theorem cellsR_at : ∀ (l : List RE) (j : Nat) (x : RE) (i : Nat), l[j]? = some x → i < 4 → (cellsR l)[j * 4 + i]? = x.cl[i]?
  | [], _, _, _, h, _ => by simp at h
  | y :: l, 0, x, i, h, hi => by
    simp at h
    subst h
    show (y.cl ++ cellsR l)[0 * 4 + i]? = _
    rw [Nat.zero_mul, Nat.zero_add, List.getElem?_append_left (by show i < 4; exact hi)]
  | y :: l, j + 1, x, i, h, hi => by
    show (y.cl ++ cellsR l)[(j + 1) * 4 + i]? = _
    have h4 : y.cl.length = 4 := rfl
    rw [List.getElem?_append_right (by omega), show (j + 1) * 4 + i - y.cl.length = j * 4 + i by omega]
    exact cellsR_at l j x i (by simpa using h) hi
theorem infoRE : (Tryd.prog.info? 54).map (fun i => (i.zero, i.size, i.bytes)) = some (some (.agg #[.int .i64 0, .int .u64 0, .int .i64 0, .int .i64 0]), 4, 32) := by kernel_rfl
/-- the document's wheel: its block has the colour 2, its row has 3; cells behind these are told by more -/
def RWh (col : Nat → Nat) (b : Nat) (T : TypeId) (now : Nat) (l : List RE) (more : List Value) (W : World) : Prop :=
  ∃ v c, (c = 3 ∨ c = 5) ∧ BlkC col 2 W b ((.int .u64 (now : Int) :: v :: more).toArray) T ∧ Owns col c W 54 4 v l.length (cellsR l)
theorem RWh.move {S : Nat → Prop} {col col' : Nat → Nat} {b : Nat} {T : TypeId} {now : Nat} {l : List RE} {more : List Value} {W W' : World} (h : RWh col b T now l more W) (m : Move S col col' W W') (h2 : ¬ S 2) (h3 : ¬ S 3) (h5 : ¬ S 5) : RWh col' b T now l more W' := by
  obtain ⟨v, c, hc, h1, h9⟩ := h
  exact ⟨v, c, hc, h1.move m h2, h9.move m (by rcases hc with rfl | rfl <;> assumption)⟩
/-- the colours of the document's wheel: 2 its block, 3 or 5 its row, 4 what is taken out -/
abbrev RWS (c : Nat) : Prop := 2 ≤ c ∧ c ≤ 5
abbrev RWP (c : Nat) : Prop := c = 2 ∨ c = 3 ∨ c = 5
/-- the rows of the reading of an element -/
theorem RWh.lt {col : Nat → Nat} {b : Nat} {T : TypeId} {now : Nat} {l : List RE} {more : List Value} {W : World} (h : RWh col b T now l more W) : b < W.heap.size := by
  obtain ⟨v, c, hc, h1, h9⟩ := h
  exact h1.1.lt
theorem plc_parts {d now : Nat} {k : Int} (h : ApartIs d now k) : (4 ≤ max 0 k → plc d now / 64 = 4 ∧ plc d now % 64 = 0) ∧ (max 0 k < 4 → ((plc d now / 64 : Nat) : Int) = max 0 k ∧ ((plc d now % 64 : Nat) : Int) = dg d (max 0 k).toNat) := by
  obtain ⟨h1, h2⟩ := plc_apart h
  refine ⟨fun h9 => by rw [h1 h9]; decide, fun h9 => ?_⟩
  have := h2 h9
  have hb := dg_bd (d : Int) (max 0 k).toNat
  omega
set_option maxRecDepth 100000 in
set_option maxHeartbeats 2000000 in
theorem refplace {col : Nat → Nat} {b : Nat} {T : TypeId} {now : Nat} {l : List RE} {more : List Value} {w : World} (h : RWh col b T now l more w) (n d : Nat) (hd : d < 18446744073709551616) (hnow : now < 18446744073709551616) (hl : l.length < 100000) :
    Calls Tryd.prog 11 #[.pointer (some ⟨b, 0, none⟩), .int .i64 (n : Int), .int .u64 (d : Int)] w fun e w' => e = .returned (.tuple #[]) ∧ ∃ col', Move RWP col col' w w' ∧ RWh col' b T now (l ++ [⟨n, d, plc d now⟩]) more w' := by
  obtain ⟨i0, hi, hz0, hz1, hz2⟩ := info_parts infoRE
  obtain ⟨v, c, hc35, hb, ho⟩ := h
  obtain ⟨va, vc, rfl, -, -⟩ := ho.form
  have c0 : w.cell? ⟨b, 0, none⟩ = some (.int .u64 (now : Int)) := hb.1.cell 0
  have hbl := hb.1.lt
  go_enter Tryd.func11, Tryd.ntmps11
  go_wp2_with fail
  refine (refapart_any d now (by omega) (by omega) w).mono ?_
  rintro e w1 ⟨⟨k, hk, rfl⟩, k1⟩
  have hkb : -1 ≤ k ∧ k ≤ 10 := ⟨hk.1, hk.2.1⟩
  have HK := Lib.hid hk
  have hb1 := hb.move (Move.below (S := fun _ => False) k1) (fun f => f)
  have ho1 := ho.move (Move.below (S := fun _ => False) k1) (fun f => f)
  have m1 : Move RWP col col w w1 := .below k1
  clear hk hb ho c0 k1
  by_cases h4 : 4 ≤ max 0 k
  · have hk0 : ¬ k < 0 := by omega
    have hk4 : ¬ k < 4 := by omega
    obtain ⟨hq1, hq2⟩ := (plc_parts HK.out).1 h4
    go_upto_region 7 with fail
    rw [show (.int .i64 4 : Value) = .int .i64 ((plc d now / 64 : Nat) : Int) by rw [hq1]; rfl, show (.int .i64 0 : Value) = .int .i64 ((plc d now % 64 : Nat) : Int) by rw [hq2]; rfl]
    clear hq1 hq2
    obtain ⟨w2, hw2⟩ : ∃ w2, w2 = w1.alloc (.cells #[.int .i64 (n : Int), .int .u64 (d : Int), .int .i64 ((plc d now / 64 : Nat) : Int), .int .i64 ((plc d now % 64 : Nat) : Int)] 54) := ⟨_, rfl⟩
    obtain ⟨B, hB'⟩ : ∃ B, B = w1.heap.size := ⟨_, rfl⟩
    have hB : w1.heap.size ≤ B := by omega
    have k2 : Below w1.heap.size w1 w2 := by rw [hw2]; exact (Below.refl _ w1).alloc (Nat.le_refl _) _
    have bE : Blk w2 B #[.int .i64 (n : Int), .int .u64 (d : Int), .int .i64 ((plc d now / 64 : Nat) : Int), .int .i64 ((plc d now % 64 : Nat) : Int)] 54 := by rw [hw2, hB']; exact Blk.new _ _ _
    rw [← hw2, ← hB']
    clear hw2 hB'
    obtain ⟨col2, hcol2⟩ : ∃ col2, col2 = ext col w1.heap.size 4 := ⟨_, rfl⟩
    have mv2 : Move (fun _ => False) col col2 w1 w2 := by rw [hcol2]; exact Move.ext ((kept_of_below k2).mono (fun x hx h9 => by omega)) 4
    have hB4 : col2 B = 4 := by rw [hcol2]; exact ext_new col (by omega)
    have hb2 := hb1.move mv2 (fun f => f)
    have ho2 := ho1.move mv2 (fun f => f)
    have m2 := m1.trans (mv2.mono (T := RWP) (fun _ f => f.elim))
    have e0 := bE.cell 0
    have e1 := bE.cell 1
    have e2 := bE.cell 2
    have e3 := bE.cell 3
    have c1 : w2.cell? ⟨b, 1, none⟩ = some (.slice va l.length vc) := hb2.1.cell 1
    have f1 := hb2.1.free 1
    generalize hp : plc d now / 64 = p at *
    generalize hr : plc d now % 64 = r at *
    have hod := ho2.move (Move.still (S := fun _ => False) ((still_refl w2).drewN 1)) (fun f => f)
    have hoa : ((w2.alloc (.cells #[.int .i64 (n : Int), .int .u64 (d : Int), .int .i64 (p : Int), .int .i64 (r : Int)] 54)).drew).ownsRow 0 54 4 (.slice va l.length vc) l.length (cellsR l) := hod.alloc _
    have HP := Lib.hid (And.intro hp hr)
    have HO := Lib.hid hod
    have HB := Lib.hid hb2
    have CB := Lib.hid hb2.1.cells
    have CE := Lib.hid bE.cells
    have M2 := Lib.hid (m2.trans (Move.still (S := RWP) ((still_refl w2).drewN 1)))
    have hBb : b ≠ B := by have := hb1.1.lt; omega
    have hbl2 := hb2.1.lt
    have hBl2 := bE.lt
    clear hB k2 mv2 hcol2 bE hb1 ho1 ho2 hb2 m1 hp hr hod m2
    refine wp_region_end ([4], [9, 39]) [b, B] rfl (by kernel_rfl) (by kernel_rfl) (by kernel_rfl) (cellsB_cons CB.out (cellsB_cons CE.out cellsB_nil)) (by simp [segs, isEff, isLoad, askOps, asks, ptrEq, eqOrNe, isNil]; rfl) ?_
    refine segs_go stay_drew (by simp [isLoad]) ?_
    go_wp2_with fail
    refine segs_load stay_drew (fun _ => (by exact ⟨b, _, rfl, by simp⟩)) ?_
    go_wp2_with fail
    refine segs_load stay_drew (fun _ => (by exact ⟨B, _, rfl, by simp⟩)) ?_
    go_wp2_with fail
    have hs4 : StayB [b, B] w2 (w2.alloc (.cells #[.int .i64 (n : Int), .int .u64 (d : Int), .int .i64 (p : Int), .int .i64 (r : Int)] 54)).drew := StayB.kept (w := w2) (fun _ _ => rfl) (((Kept.refl (fun _ => False) _).alloc _).drew) (fun x hx => by
      simp only [List.mem_cons, List.not_mem_nil, or_false] at hx
      rcases hx with rfl | rfl
      · exact ⟨hbl2, fun f => f⟩
      · exact ⟨hBl2, fun f => f⟩)
    refine segs_go hs4 (by simp [isLoad]) ?_
    go_wp2_with (first | (at_builtin; refine wpList_append _ rfl _ _ 40 rfl 0 54 i0 (.agg #[.int .i64 0, .int .u64 0, .int .i64 0, .int .i64 0]) 4 32 Tryd.underlying40 hi hz0 hz1 hz2 rfl (by decide) _ _ _ rfl (hoa) ⟨w2.heap.size, 0, none⟩ 1 1 [.int .i64 (n : Int), .int .u64 (d : Int), .int .i64 (p : Int), .int .i64 (r : Int)] rfl rfl (by intro j u hj; rw [addr_add, Nat.zero_add]; exact ((Blk.newAt _ _ _ (by simp)).cell j).trans (by simpa using hj)) (by intro u hu; simp only [List.mem_cons, List.not_mem_nil, or_false] at hu; (repeat (rcases hu with hu | hu; · subst hu; rfl)); subst hu; rfl) (by unfold maxLen; omega) (by omega) (by first | omega | (simp; omega) | simp) ?_) | fail)
    intro v5 w5 hap
    obtain ⟨o5, mv5⟩ := Owns.more (w := w2.drew) (v := .slice va l.length vc) HO.out hap
    have hb5 := BlkC.move (W := w2.drew) (W' := w5) ⟨HB.out.1.drew, HB.out.2⟩ mv5 (by show ¬ 2 = c; omega)
    have M5 := Lib.hid (M2.out.trans (mv5.mono (T := RWP) (fun c9 hc9 => by rw [hc9]; show c = 2 ∨ c = 3 ∨ c = 5; omega)))
    obtain ⟨va5, vc5, rfl⟩ := owns_slice o5.1
    have hs5 : StayB [b, B] w2 w5 := StayB.kept (w := w2.drew) stay_drew mv5.k (fun x hx => by
      simp only [List.mem_cons, List.not_mem_nil, or_false] at hx
      rcases hx with rfl | rfl
      · exact ⟨hbl2, fun h9 => by rw [HB.out.2] at h9; omega⟩
      · exact ⟨hBl2, fun h9 => by rw [hB4] at h9; omega⟩)
    have f5 := hb5.1.free 1
    have g5 : w5.cell? ⟨b, 1, none⟩ = some (.slice va l.length vc) := hb5.1.cell 1
    have O5 := Lib.hid o5
    have B5 := Lib.hid hb5
    clear hap hoa o5 mv5 hb5
    go_wp2_with fail
    refine segs_go hs5 (by simp [isLoad]) ?_
    go_wp2_with fail
    refine segs_nil ?_
    go_wp2_with fail
    go_end0
    have k6 : Kept (fun y => y = b) w5 (w5.setCell ⟨b, 1, none⟩ (.slice va5 (l.length + 1) vc5)) := (Kept.refl _ w5).setCell (S := fun y => y = b) (fun _ => rfl) _
    refine ⟨rfl, _, M5.out.trans (Move.still' k6 (fun y hy => by rw [hy, B5.out.2]; decide)), .slice va5 (l.length + 1) vc5, c, hc35, ⟨B5.out.1.set' rfl, B5.out.2⟩, ?_⟩
    have hfin := O5.out.kept k6 (fun x hx hc e => by rw [e, B5.out.2] at hc; omega)
    rw [List.length_append, List.length_singleton, cellsR_snoc]
    show Owns _ c _ _ 4 _ _ (cellsR l ++ [.int .i64 (n : Int), .int .u64 (d : Int), .int .i64 ((plc d now / 64 : Nat) : Int), .int .i64 ((plc d now % 64 : Nat) : Int)])
    rw [HP.out.1, HP.out.2]
    exact hfin

  · obtain ⟨hq1, hq2⟩ := (plc_parts HK.out).2 (by omega)
    obtain ⟨a, ha⟩ : ∃ a : Nat, max 0 k = (a : Int) := ⟨(max 0 k).toNat, by omega⟩
    have ha4 : a < 4 := by omega
    rw [ha] at hq1 hq2
    rw [Int.toNat_natCast] at hq2
    have HQ := Lib.hid (And.intro hq1 hq2)
    clear hq1 hq2
    have hk4 : decide (k < 4) = true := decide_eq_true (by omega)
    by_cases hk0 : k < 0
    · have hz : a = 0 := by omega
      subst hz
      clear ha
      obtain ⟨w0, hw0⟩ : ∃ w0, w0 = w1.alloc (.cells #[.int .i64 (n : Int), .int .u64 (d : Int), .int .i64 (0 : Int), .int .i64 0] 54) := ⟨_, rfl⟩
      have k0 : Below w1.heap.size w1 w0 := by rw [hw0]; exact (Below.refl _ w1).alloc (Nat.le_refl _) _
      obtain ⟨B, hB'⟩ : ∃ B, B = w1.heap.size := ⟨_, rfl⟩
      have hB : w1.heap.size ≤ B := by omega
      have bE0 : Blk w0 B #[.int .i64 (n : Int), .int .u64 (d : Int), .int .i64 (0 : Int), .int .i64 0] 54 := by rw [hw0, hB']; exact Blk.new _ _ _
      have HW0 := Lib.hid (And.intro hw0 hB')
      clear hw0 hB'
      go_upto_region 6 with fail
      rw [← HW0.out.1, ← HW0.out.2]
      go_wp2_with fail
      refine (refdigits_any d (by omega) w0).mono ?_
      rintro e w3 ⟨⟨rv, rfl, hrv⟩, k3⟩
      obtain ⟨rb, ro, rc, rfl, -, -, hrc⟩ := dig_row hrv
      have bE3 := bE0.below k3 bE0.lt
      have r1 := hrc 0 (by omega)
      try rw [Nat.add_zero] at r1
      have f3 := bE3.free 3
      have c33 := bE3.cell 3
      clear hrv hrc HW0
      go_upto_region 7 with fail
      obtain ⟨w2, hw2⟩ : ∃ w2, w2 = w3.setCell ⟨B, 3, none⟩ (.int .i64 (dg d 0)) := ⟨_, rfl⟩
      rw [← hw2]
      have bE : Blk w2 B #[.int .i64 (n : Int), .int .u64 (d : Int), .int .i64 ((plc d now / 64 : Nat) : Int), .int .i64 ((plc d now % 64 : Nat) : Int)] 54 := by
        rw [hw2, HQ.out.1, HQ.out.2]; exact bE3.set 3 _
      have k2 : Below w1.heap.size w1 w2 := by
        rw [hw2]
        exact below_step (k0.trans (k3.mono k0.size)) ((Kept.refl _ w3).setCell (S := fun y => y = B) (fun _ => rfl) _) (Nat.le_refl _) (fun i hi h9 => by omega)
      clear hw2 k0 k3 bE0 bE3 r1 f3 c33
      obtain ⟨col2, hcol2⟩ : ∃ col2, col2 = ext col w1.heap.size 4 := ⟨_, rfl⟩
      have mv2 : Move (fun _ => False) col col2 w1 w2 := by rw [hcol2]; exact Move.ext ((kept_of_below k2).mono (fun x hx h9 => by omega)) 4
      have hB4 : col2 B = 4 := by rw [hcol2]; exact ext_new col (by omega)
      have hb2 := hb1.move mv2 (fun f => f)
      have ho2 := ho1.move mv2 (fun f => f)
      have m2 := m1.trans (mv2.mono (T := RWP) (fun _ f => f.elim))
      have e0 := bE.cell 0
      have e1 := bE.cell 1
      have e2 := bE.cell 2
      have e3 := bE.cell 3
      have c1 : w2.cell? ⟨b, 1, none⟩ = some (.slice va l.length vc) := hb2.1.cell 1
      have f1 := hb2.1.free 1
      generalize hp : plc d now / 64 = p at *
      generalize hr : plc d now % 64 = r at *
      have hod := ho2.move (Move.still (S := fun _ => False) ((still_refl w2).drewN 1)) (fun f => f)
      have hoa : ((w2.alloc (.cells #[.int .i64 (n : Int), .int .u64 (d : Int), .int .i64 (p : Int), .int .i64 (r : Int)] 54)).drew).ownsRow 0 54 4 (.slice va l.length vc) l.length (cellsR l) := hod.alloc _
      have HP := Lib.hid (And.intro hp hr)
      have HO := Lib.hid hod
      have HB := Lib.hid hb2
      have CB := Lib.hid hb2.1.cells
      have CE := Lib.hid bE.cells
      have M2 := Lib.hid (m2.trans (Move.still (S := RWP) ((still_refl w2).drewN 1)))
      have hBb : b ≠ B := by have := hb1.1.lt; omega
      have hbl2 := hb2.1.lt
      have hBl2 := bE.lt
      clear hB k2 mv2 hcol2 bE hb1 ho1 ho2 hb2 m1 hp hr hod m2
      refine wp_region_end ([4], [9, 39]) [b, B] rfl (by kernel_rfl) (by kernel_rfl) (by kernel_rfl) (cellsB_cons CB.out (cellsB_cons CE.out cellsB_nil)) (by simp [segs, isEff, isLoad, askOps, asks, ptrEq, eqOrNe, isNil]; rfl) ?_
      refine segs_go stay_drew (by simp [isLoad]) ?_
      go_wp2_with fail
      refine segs_load stay_drew (fun _ => (by exact ⟨b, _, rfl, by simp⟩)) ?_
      go_wp2_with fail
      refine segs_load stay_drew (fun _ => (by exact ⟨B, _, rfl, by simp⟩)) ?_
      go_wp2_with fail
      have hs4 : StayB [b, B] w2 (w2.alloc (.cells #[.int .i64 (n : Int), .int .u64 (d : Int), .int .i64 (p : Int), .int .i64 (r : Int)] 54)).drew := StayB.kept (w := w2) (fun _ _ => rfl) (((Kept.refl (fun _ => False) _).alloc _).drew) (fun x hx => by
        simp only [List.mem_cons, List.not_mem_nil, or_false] at hx
        rcases hx with rfl | rfl
        · exact ⟨hbl2, fun f => f⟩
        · exact ⟨hBl2, fun f => f⟩)
      refine segs_go hs4 (by simp [isLoad]) ?_
      go_wp2_with (first | (at_builtin; refine wpList_append _ rfl _ _ 40 rfl 0 54 i0 (.agg #[.int .i64 0, .int .u64 0, .int .i64 0, .int .i64 0]) 4 32 Tryd.underlying40 hi hz0 hz1 hz2 rfl (by decide) _ _ _ rfl (hoa) ⟨w2.heap.size, 0, none⟩ 1 1 [.int .i64 (n : Int), .int .u64 (d : Int), .int .i64 (p : Int), .int .i64 (r : Int)] rfl rfl (by intro j u hj; rw [addr_add, Nat.zero_add]; exact ((Blk.newAt _ _ _ (by simp)).cell j).trans (by simpa using hj)) (by intro u hu; simp only [List.mem_cons, List.not_mem_nil, or_false] at hu; (repeat (rcases hu with hu | hu; · subst hu; rfl)); subst hu; rfl) (by unfold maxLen; omega) (by omega) (by first | omega | (simp; omega) | simp) ?_) | fail)
      intro v5 w5 hap
      obtain ⟨o5, mv5⟩ := Owns.more (w := w2.drew) (v := .slice va l.length vc) HO.out hap
      have hb5 := BlkC.move (W := w2.drew) (W' := w5) ⟨HB.out.1.drew, HB.out.2⟩ mv5 (by show ¬ 2 = c; omega)
      have M5 := Lib.hid (M2.out.trans (mv5.mono (T := RWP) (fun c9 hc9 => by rw [hc9]; show c = 2 ∨ c = 3 ∨ c = 5; omega)))
      obtain ⟨va5, vc5, rfl⟩ := owns_slice o5.1
      have hs5 : StayB [b, B] w2 w5 := StayB.kept (w := w2.drew) stay_drew mv5.k (fun x hx => by
        simp only [List.mem_cons, List.not_mem_nil, or_false] at hx
        rcases hx with rfl | rfl
        · exact ⟨hbl2, fun h9 => by rw [HB.out.2] at h9; omega⟩
        · exact ⟨hBl2, fun h9 => by rw [hB4] at h9; omega⟩)
      have f5 := hb5.1.free 1
      have g5 : w5.cell? ⟨b, 1, none⟩ = some (.slice va l.length vc) := hb5.1.cell 1
      have O5 := Lib.hid o5
      have B5 := Lib.hid hb5
      clear hap hoa o5 mv5 hb5
      go_wp2_with fail
      refine segs_go hs5 (by simp [isLoad]) ?_
      go_wp2_with fail
      refine segs_nil ?_
      go_wp2_with fail
      go_end0
      have k6 : Kept (fun y => y = b) w5 (w5.setCell ⟨b, 1, none⟩ (.slice va5 (l.length + 1) vc5)) := (Kept.refl _ w5).setCell (S := fun y => y = b) (fun _ => rfl) _
      refine ⟨rfl, _, M5.out.trans (Move.still' k6 (fun y hy => by rw [hy, B5.out.2]; decide)), .slice va5 (l.length + 1) vc5, c, hc35, ⟨B5.out.1.set' rfl, B5.out.2⟩, ?_⟩
      have hfin := O5.out.kept k6 (fun x hx hc e => by rw [e, B5.out.2] at hc; omega)
      rw [List.length_append, List.length_singleton, cellsR_snoc]
      show Owns _ c _ _ 4 _ _ (cellsR l ++ [.int .i64 (n : Int), .int .u64 (d : Int), .int .i64 ((plc d now / 64 : Nat) : Int), .int .i64 ((plc d now % 64 : Nat) : Int)])
      rw [HP.out.1, HP.out.2]
      exact hfin

    · have hka : k = (a : Int) := by omega
      subst hka
      clear ha
      obtain ⟨w0, hw0⟩ : ∃ w0, w0 = w1.alloc (.cells #[.int .i64 (n : Int), .int .u64 (d : Int), .int .i64 (a : Int), .int .i64 0] 54) := ⟨_, rfl⟩
      have k0 : Below w1.heap.size w1 w0 := by rw [hw0]; exact (Below.refl _ w1).alloc (Nat.le_refl _) _
      obtain ⟨B, hB'⟩ : ∃ B, B = w1.heap.size := ⟨_, rfl⟩
      have hB : w1.heap.size ≤ B := by omega
      have bE0 : Blk w0 B #[.int .i64 (n : Int), .int .u64 (d : Int), .int .i64 (a : Int), .int .i64 0] 54 := by rw [hw0, hB']; exact Blk.new _ _ _
      have HW0 := Lib.hid (And.intro hw0 hB')
      clear hw0 hB'
      go_upto_region 6 with fail
      rw [← HW0.out.1, ← HW0.out.2]
      go_wp2_with fail
      refine (refdigits_any d (by omega) w0).mono ?_
      rintro e w3 ⟨⟨rv, rfl, hrv⟩, k3⟩
      obtain ⟨rb, ro, rc, rfl, -, -, hrc⟩ := dig_row hrv
      have bE3 := bE0.below k3 bE0.lt
      have r1 := hrc a (by omega)
      try rw [Nat.add_zero] at r1
      have f3 := bE3.free 3
      have c33 := bE3.cell 3
      clear hrv hrc HW0
      go_upto_region 7 with fail
      obtain ⟨w2, hw2⟩ : ∃ w2, w2 = w3.setCell ⟨B, 3, none⟩ (.int .i64 (dg d a)) := ⟨_, rfl⟩
      rw [← hw2]
      have bE : Blk w2 B #[.int .i64 (n : Int), .int .u64 (d : Int), .int .i64 ((plc d now / 64 : Nat) : Int), .int .i64 ((plc d now % 64 : Nat) : Int)] 54 := by
        rw [hw2, HQ.out.1, HQ.out.2]; exact bE3.set 3 _
      have k2 : Below w1.heap.size w1 w2 := by
        rw [hw2]
        exact below_step (k0.trans (k3.mono k0.size)) ((Kept.refl _ w3).setCell (S := fun y => y = B) (fun _ => rfl) _) (Nat.le_refl _) (fun i hi h9 => by omega)
      clear hw2 k0 k3 bE0 bE3 r1 f3 c33
      obtain ⟨col2, hcol2⟩ : ∃ col2, col2 = ext col w1.heap.size 4 := ⟨_, rfl⟩
      have mv2 : Move (fun _ => False) col col2 w1 w2 := by rw [hcol2]; exact Move.ext ((kept_of_below k2).mono (fun x hx h9 => by omega)) 4
      have hB4 : col2 B = 4 := by rw [hcol2]; exact ext_new col (by omega)
      have hb2 := hb1.move mv2 (fun f => f)
      have ho2 := ho1.move mv2 (fun f => f)
      have m2 := m1.trans (mv2.mono (T := RWP) (fun _ f => f.elim))
      have e0 := bE.cell 0
      have e1 := bE.cell 1
      have e2 := bE.cell 2
      have e3 := bE.cell 3
      have c1 : w2.cell? ⟨b, 1, none⟩ = some (.slice va l.length vc) := hb2.1.cell 1
      have f1 := hb2.1.free 1
      generalize hp : plc d now / 64 = p at *
      generalize hr : plc d now % 64 = r at *
      have hod := ho2.move (Move.still (S := fun _ => False) ((still_refl w2).drewN 1)) (fun f => f)
      have hoa : ((w2.alloc (.cells #[.int .i64 (n : Int), .int .u64 (d : Int), .int .i64 (p : Int), .int .i64 (r : Int)] 54)).drew).ownsRow 0 54 4 (.slice va l.length vc) l.length (cellsR l) := hod.alloc _
      have HP := Lib.hid (And.intro hp hr)
      have HO := Lib.hid hod
      have HB := Lib.hid hb2
      have CB := Lib.hid hb2.1.cells
      have CE := Lib.hid bE.cells
      have M2 := Lib.hid (m2.trans (Move.still (S := RWP) ((still_refl w2).drewN 1)))
      have hBb : b ≠ B := by have := hb1.1.lt; omega
      have hbl2 := hb2.1.lt
      have hBl2 := bE.lt
      clear hB k2 mv2 hcol2 bE hb1 ho1 ho2 hb2 m1 hp hr hod m2
      refine wp_region_end ([4], [9, 39]) [b, B] rfl (by kernel_rfl) (by kernel_rfl) (by kernel_rfl) (cellsB_cons CB.out (cellsB_cons CE.out cellsB_nil)) (by simp [segs, isEff, isLoad, askOps, asks, ptrEq, eqOrNe, isNil]; rfl) ?_
      refine segs_go stay_drew (by simp [isLoad]) ?_
      go_wp2_with fail
      refine segs_load stay_drew (fun _ => (by exact ⟨b, _, rfl, by simp⟩)) ?_
      go_wp2_with fail
      refine segs_load stay_drew (fun _ => (by exact ⟨B, _, rfl, by simp⟩)) ?_
      go_wp2_with fail
      have hs4 : StayB [b, B] w2 (w2.alloc (.cells #[.int .i64 (n : Int), .int .u64 (d : Int), .int .i64 (p : Int), .int .i64 (r : Int)] 54)).drew := StayB.kept (w := w2) (fun _ _ => rfl) (((Kept.refl (fun _ => False) _).alloc _).drew) (fun x hx => by
        simp only [List.mem_cons, List.not_mem_nil, or_false] at hx
        rcases hx with rfl | rfl
        · exact ⟨hbl2, fun f => f⟩
        · exact ⟨hBl2, fun f => f⟩)
      refine segs_go hs4 (by simp [isLoad]) ?_
      go_wp2_with (first | (at_builtin; refine wpList_append _ rfl _ _ 40 rfl 0 54 i0 (.agg #[.int .i64 0, .int .u64 0, .int .i64 0, .int .i64 0]) 4 32 Tryd.underlying40 hi hz0 hz1 hz2 rfl (by decide) _ _ _ rfl (hoa) ⟨w2.heap.size, 0, none⟩ 1 1 [.int .i64 (n : Int), .int .u64 (d : Int), .int .i64 (p : Int), .int .i64 (r : Int)] rfl rfl (by intro j u hj; rw [addr_add, Nat.zero_add]; exact ((Blk.newAt _ _ _ (by simp)).cell j).trans (by simpa using hj)) (by intro u hu; simp only [List.mem_cons, List.not_mem_nil, or_false] at hu; (repeat (rcases hu with hu | hu; · subst hu; rfl)); subst hu; rfl) (by unfold maxLen; omega) (by omega) (by first | omega | (simp; omega) | simp) ?_) | fail)
      intro v5 w5 hap
      obtain ⟨o5, mv5⟩ := Owns.more (w := w2.drew) (v := .slice va l.length vc) HO.out hap
      have hb5 := BlkC.move (W := w2.drew) (W' := w5) ⟨HB.out.1.drew, HB.out.2⟩ mv5 (by show ¬ 2 = c; omega)
      have M5 := Lib.hid (M2.out.trans (mv5.mono (T := RWP) (fun c9 hc9 => by rw [hc9]; show c = 2 ∨ c = 3 ∨ c = 5; omega)))
      obtain ⟨va5, vc5, rfl⟩ := owns_slice o5.1
      have hs5 : StayB [b, B] w2 w5 := StayB.kept (w := w2.drew) stay_drew mv5.k (fun x hx => by
        simp only [List.mem_cons, List.not_mem_nil, or_false] at hx
        rcases hx with rfl | rfl
        · exact ⟨hbl2, fun h9 => by rw [HB.out.2] at h9; omega⟩
        · exact ⟨hBl2, fun h9 => by rw [hB4] at h9; omega⟩)
      have f5 := hb5.1.free 1
      have g5 : w5.cell? ⟨b, 1, none⟩ = some (.slice va l.length vc) := hb5.1.cell 1
      have O5 := Lib.hid o5
      have B5 := Lib.hid hb5
      clear hap hoa o5 mv5 hb5
      go_wp2_with fail
      refine segs_go hs5 (by simp [isLoad]) ?_
      go_wp2_with fail
      refine segs_nil ?_
      go_wp2_with fail
      go_end0
      have k6 : Kept (fun y => y = b) w5 (w5.setCell ⟨b, 1, none⟩ (.slice va5 (l.length + 1) vc5)) := (Kept.refl _ w5).setCell (S := fun y => y = b) (fun _ => rfl) _
      refine ⟨rfl, _, M5.out.trans (Move.still' k6 (fun y hy => by rw [hy, B5.out.2]; decide)), .slice va5 (l.length + 1) vc5, c, hc35, ⟨B5.out.1.set' rfl, B5.out.2⟩, ?_⟩
      have hfin := O5.out.kept k6 (fun x hx hc e => by rw [e, B5.out.2] at hc; omega)
      rw [List.length_append, List.length_singleton, cellsR_snoc]
      show Owns _ c _ _ 4 _ _ (cellsR l ++ [.int .i64 (n : Int), .int .u64 (d : Int), .int .i64 ((plc d now / 64 : Nat) : Int), .int .i64 ((plc d now % 64 : Nat) : Int)])
      rw [HP.out.1, HP.out.2]
      exact hfin

end Go.Proofs.YthinhbaklcijmaaDoor
namespace Go.Proofs.YthinhbaklcijmaaDoor
set_option linter.unusedVariables false
set_option linter.unusedSimpArgs false
open Go.RowKit Go.Proofs
theorem place_eq {q lev slot : Nat} (x : Nat) (hq : q = lev * 64 + slot) (hs : slot < 64) : (x == q) = (decide (x / 64 = lev) && decide (x % 64 = slot)) := by
  by_cases h1 : x / 64 = lev
  · by_cases h2 : x % 64 = slot
    · rw [decide_eq_true h1, decide_eq_true h2]; simp; omega
    · rw [decide_eq_true h1, decide_eq_false h2]; simp; omega
  · rw [decide_eq_false h1]; simp; omega
set_option maxRecDepth 100000 in
set_option maxHeartbeats 2000000 in
theorem refout {col : Nat → Nat} {b : Nat} {T : TypeId} {now : Nat} {l : List RE} {more : List Value} {w : World} (h : RWh col b T now l more w) (lev slot q : Nat) (hq : q = lev * 64 + slot) (hs : slot < 64) (hlev : lev ≤ 4) (hl : l.length < 100000) :
    Calls Tryd.prog 37 #[.pointer (some ⟨b, 0, none⟩), .int .i64 (lev : Int), .int .i64 (slot : Int)] w fun e w' => ∃ o col', e = .returned o ∧ Move RWS col col' w w' ∧ RWh col' b T now (l.filter fun x => !(x.q == q)) more w' ∧ Owns col' 4 w' 54 4 o (l.filter fun x => x.q == q).length (cellsR (l.filter fun x => x.q == q)) := by
  obtain ⟨i0, hi, hz0, hz1, hz2⟩ := info_parts infoRE
  obtain ⟨v, c, hc35, hb, ho⟩ := h
  obtain ⟨va, vc, rfl, -, -⟩ := ho.form
  have H := Lib.hid (And.intro hb ho)
  have HQ := Lib.hid hq
  clear hb ho hq
  go_enter Tryd.func37, Tryd.ntmps37
  go_wp2_with fail
  go_loopw [7, 8, 9] (fun ov rv iv wr => ∃ (j : Nat) (colj : Nat → Nat), j ≤ l.length ∧ iv = .int .i64 j ∧ Move RWS col colj w wr ∧ BlkC colj 2 wr b ((.int .u64 (now : Int) :: .slice va l.length vc :: more).toArray) T ∧ Owns colj c wr 54 4 (.slice va l.length vc) l.length (cellsR l) ∧
    Owns colj 4 wr 54 4 ov ((l.take j).filter fun x => x.q == q).length (cellsR ((l.take j).filter fun x => x.q == q)) ∧ Owns colj (8 - c) wr 54 4 rv ((l.take j).filter fun x => !(x.q == q)).length (cellsR ((l.take j).filter fun x => !(x.q == q)))) (fun _ _ iv _ => l.length - (intOf iv).toNat)
  case atStart => exact ⟨0, col, Nat.zero_le _, rfl, Move.refl _ _ _, H.out.1, H.out.2, Owns.nil _ _ _ _ _, Owns.nil _ _ _ _ _⟩
  case round =>
    obtain ⟨j, colj, hj, rfl, hm, hb, ho, hoo, hor⟩ := hrel
    have c1 : wr.cell? ⟨b, 1, none⟩ = some (.slice va l.length vc) := hb.1.cell 1
    have HM := Lib.hid hm
    have HB := Lib.hid hb
    have HO := Lib.hid ho
    have HOO := Lib.hid hoo
    have HOR := Lib.hid hor
    clear hm hb hoo hor
    by_cases hjl : j < l.length
    · obtain ⟨x, hx⟩ : ∃ x, l[j]? = some x := ⟨_, List.getElem?_eq_getElem hjl⟩
      have htk : l.take (j + 1) = l.take j ++ [x] := by rw [List.take_add_one, hx]; rfl
      obtain ⟨g, cap, hv9, hg1, hg2, -, -, hg5, hg6⟩ := ho.row_at (by omega)
      simp only [Value.slice.injEq, true_and] at hv9
      obtain ⟨rfl, rfl⟩ := hv9
      have hce : ∀ i, i < 4 → wr.cell? ⟨g, j * 4 + i, none⟩ = x.cl[i]? := fun i hi => (hg6 (j * 4 + i) (by omega)).trans (cellsR_at l j x i hx hi)
      have d0 : wr.cell? ⟨g, j * 4, none⟩ = some (.int .i64 (x.n : Int)) := hce 0 (by omega)
      have d1 : wr.cell? ⟨g, j * 4 + 1, none⟩ = some (.int .u64 (x.d : Int)) := hce 1 (by omega)
      have d2 : wr.cell? ⟨g, j * 4 + 2, none⟩ = some (.int .i64 ((x.q / 64 : Nat) : Int)) := hce 2 (by omega)
      have d3 : wr.cell? ⟨g, j * 4 + 3, none⟩ = some (.int .i64 ((x.q % 64 : Nat) : Int)) := hce 3 (by omega)
      have hpe := place_eq x.q HQ.out hs
      obtain ⟨p, hp⟩ : ∃ p, p = x.q / 64 := ⟨_, rfl⟩
      obtain ⟨r, hr⟩ : ∃ r, r = x.q % 64 := ⟨_, rfl⟩
      rw [← hp, ← hr] at hpe
      rw [← hp] at d2
      rw [← hr] at d3
      have HP := Lib.hid (And.intro hp hr)
      have HTK := Lib.hid htk
      have HPE := Lib.hid hpe
      have CG := Lib.hid hg5
      clear ho hce hg6 hg5 hx hp hr hpe htk
      go_upto_region 5 with fail
      go_cut [40] from 10 to 60 (fun bv wx => bv = .bool (x.q == q) ∧ wx = wr)
      case first =>
        by_cases h1 : p = lev
        · have h1b : ((p : Int) == (lev : Int)) = true := by rw [beq_iff_eq]; omega
          by_cases h2 : r = slot
          · have h2b : ((r : Int) == (slot : Int)) = true := by rw [beq_iff_eq]; omega
            have HR := Lib.hid (show (x.q == q) = true by rw [HPE.out, decide_eq_true h1, decide_eq_true h2]; rfl)
            clear h1 h2
            go_wp2_with fail
            go_meet
            case rel => exact ⟨by rw [HR.out], rfl⟩
          · have h2b : ((r : Int) == (slot : Int)) = false := by rw [beq_eq_false_iff_ne]; omega
            have HR := Lib.hid (show (x.q == q) = false by rw [HPE.out, decide_eq_false h2, Bool.and_false])
            clear h1 h2
            go_wp2_with fail
            go_meet
            case rel => exact ⟨by rw [HR.out], rfl⟩
        · have h1b : ((p : Int) == (lev : Int)) = false := by rw [beq_eq_false_iff_ne]; omega
          have HR := Lib.hid (show (x.q == q) = false by rw [HPE.out, decide_eq_false h1, Bool.false_and])
          clear h1
          go_wp2_with fail
          go_meet
          case rel => exact ⟨by rw [HR.out], rfl⟩
      case rest =>
        obtain ⟨rfl, rfl⟩ := hcut
        cases hxq : x.q == q with
        | true =>
          obtain ⟨oa, oc, rfl, -, -⟩ := HOO.out.form
          have hoa := HOO.out.alloc (.cells #[.int .i64 (x.n : Int), .int .u64 (x.d : Int), .int .i64 (p : Int), .int .i64 (r : Int)] 54)
          have hfl := List.length_filter_le (fun x => x.q == q) (l.take j)
          rw [List.length_take] at hfl
          generalize hL : ((l.take j).filter fun x => x.q == q).length = L at *
          have HL := Lib.hid hL
          have HXQ := Lib.hid hxq
          clear hL hxq
          go_wp2_with (first | (at_builtin; refine wpList_append _ rfl _ _ 40 rfl 0 54 i0 (.agg #[.int .i64 0, .int .u64 0, .int .i64 0, .int .i64 0]) 4 32 Tryd.underlying40 hi hz0 hz1 hz2 rfl (by decide) _ _ _ rfl (hoa) ⟨wc.heap.size, 0, none⟩ 1 1 [.int .i64 (x.n : Int), .int .u64 (x.d : Int), .int .i64 (p : Int), .int .i64 (r : Int)] rfl rfl (by intro j u hj; rw [addr_add, Nat.zero_add]; exact ((Blk.newAt _ _ _ (by simp)).cell j).trans (by simpa using hj)) (by intro u hu; simp only [List.mem_cons, List.not_mem_nil, or_false] at hu; (repeat (rcases hu with hu | hu; · subst hu; rfl)); subst hu; rfl) (by unfold maxLen; omega) (by omega) (by first | omega | (simp; omega) | simp) ?_) | fail)
          intro v5 w5 hap
          obtain ⟨o5, mv5⟩ := Owns.more HOO.out hap
          have b5 := HB.out.move mv5 (by show ¬ 2 = 4; omega)
          have oo5 := HO.out.move mv5 (by show ¬ c = 4; omega)
          have or5 := HOR.out.move mv5 (by show ¬ 8 - c = 4; omega)
          have m5 := HM.out.trans (mv5.mono (T := RWS) (fun c9 hc9 => by rw [hc9]; show 2 ≤ 4 ∧ 4 ≤ 5; omega))
          have hf1 : ((l.take (j + 1)).filter fun x => x.q == q) = ((l.take j).filter fun x => x.q == q) ++ [x] := by rw [HTK.out, List.filter_append, List.filter_cons_of_pos (by exact HXQ.out)]; rfl
          have hf2 : ((l.take (j + 1)).filter fun x => !(x.q == q)) = ((l.take j).filter fun x => !(x.q == q)) := by rw [HTK.out, List.filter_append, List.filter_cons_of_neg (by rw [HXQ.out]; decide)]; simp
          have o5' : Owns (ext colj wc.heap.size 4) 4 w5 54 4 v5 ((l.take (j + 1)).filter fun x => x.q == q).length (cellsR ((l.take (j + 1)).filter fun x => x.q == q)) := by
            rw [hf1, cellsR_snoc, List.length_append, List.length_singleton, HL.out]
            show Owns _ _ _ _ 4 _ _ (_ ++ [.int .i64 (x.n : Int), .int .u64 (x.d : Int), .int .i64 ((x.q / 64 : Nat) : Int), .int .i64 ((x.q % 64 : Nat) : Int)])
            rw [← HP.out.1, ← HP.out.2]
            exact o5
          have FIN := Lib.hid (And.intro m5 (And.intro b5 (And.intro oo5 (And.intro o5' (hf2 ▸ or5)))))
          clear hap hoa o5 mv5 b5 oo5 or5 m5 hf1 hf2 o5'
          go_wp2_with fail
          go_roundw
          case rel => exact ⟨j + 1, _, by omega, by go_num, FIN.out.1, FIN.out.2.1, FIN.out.2.2.1, FIN.out.2.2.2.1, FIN.out.2.2.2.2⟩
          case measure => simp [intOf]; omega
        | false =>
          obtain ⟨oa, oc, rfl, -, -⟩ := HOR.out.form
          have hoa := HOR.out.alloc (.cells #[.int .i64 (x.n : Int), .int .u64 (x.d : Int), .int .i64 (p : Int), .int .i64 (r : Int)] 54)
          have hfl := List.length_filter_le (fun x => !(x.q == q)) (l.take j)
          rw [List.length_take] at hfl
          generalize hL : ((l.take j).filter fun x => !(x.q == q)).length = L at *
          have HL := Lib.hid hL
          have HXQ := Lib.hid hxq
          clear hL hxq
          go_wp2_with (first | (at_builtin; refine wpList_append _ rfl _ _ 40 rfl 0 54 i0 (.agg #[.int .i64 0, .int .u64 0, .int .i64 0, .int .i64 0]) 4 32 Tryd.underlying40 hi hz0 hz1 hz2 rfl (by decide) _ _ _ rfl (hoa) ⟨wc.heap.size, 0, none⟩ 1 1 [.int .i64 (x.n : Int), .int .u64 (x.d : Int), .int .i64 (p : Int), .int .i64 (r : Int)] rfl rfl (by intro j u hj; rw [addr_add, Nat.zero_add]; exact ((Blk.newAt _ _ _ (by simp)).cell j).trans (by simpa using hj)) (by intro u hu; simp only [List.mem_cons, List.not_mem_nil, or_false] at hu; (repeat (rcases hu with hu | hu; · subst hu; rfl)); subst hu; rfl) (by unfold maxLen; omega) (by omega) (by first | omega | (simp; omega) | simp) ?_) | fail)
          intro v5 w5 hap
          obtain ⟨o5, mv5⟩ := Owns.more HOR.out hap
          have b5 := HB.out.move mv5 (by show ¬ 2 = 8 - c; omega)
          have oo5 := HO.out.move mv5 (by show ¬ c = 8 - c; omega)
          have or5 := HOO.out.move mv5 (by show ¬ 4 = 8 - c; omega)
          have m5 := HM.out.trans (mv5.mono (T := RWS) (fun c9 hc9 => by rw [hc9]; show 2 ≤ 8 - c ∧ 8 - c ≤ 5; omega))
          have hf1 : ((l.take (j + 1)).filter fun x => !(x.q == q)) = ((l.take j).filter fun x => !(x.q == q)) ++ [x] := by rw [HTK.out, List.filter_append, List.filter_cons_of_pos (by rw [HXQ.out]; rfl)]; rfl
          have hf2 : ((l.take (j + 1)).filter fun x => x.q == q) = ((l.take j).filter fun x => x.q == q) := by rw [HTK.out, List.filter_append, List.filter_cons_of_neg (by rw [HXQ.out]; decide)]; simp
          have o5' : Owns (ext colj wc.heap.size (8 - c)) (8 - c) w5 54 4 v5 ((l.take (j + 1)).filter fun x => !(x.q == q)).length (cellsR ((l.take (j + 1)).filter fun x => !(x.q == q))) := by
            rw [hf1, cellsR_snoc, List.length_append, List.length_singleton, HL.out]
            show Owns _ _ _ _ 4 _ _ (_ ++ [.int .i64 (x.n : Int), .int .u64 (x.d : Int), .int .i64 ((x.q / 64 : Nat) : Int), .int .i64 ((x.q % 64 : Nat) : Int)])
            rw [← HP.out.1, ← HP.out.2]
            exact o5
          have FIN := Lib.hid (And.intro m5 (And.intro b5 (And.intro oo5 (And.intro (hf2 ▸ or5) o5'))))
          clear hap hoa o5 mv5 b5 oo5 or5 m5 hf1 hf2 o5'
          go_wp2_with fail
          go_roundw
          case rel => exact ⟨j + 1, _, by omega, by go_num, FIN.out.1, FIN.out.2.1, FIN.out.2.2.1, FIN.out.2.2.2.1, FIN.out.2.2.2.2⟩
          case measure => simp [intOf]; omega
    · obtain rfl : j = l.length := by omega
      rw [List.take_length] at HOO HOR
      obtain ⟨ra, rc, rfl, -, -⟩ := HOR.out.form
      obtain ⟨oa, oc, rfl, -, -⟩ := HOO.out.form
      have f1 := HB.out.1.free 1
      clear ho
      go_wp2_with fail
      go_ret
      have k6 : Kept (fun y => y = b) wr (wr.setCell ⟨b, 1, none⟩ (.slice ra (l.filter fun x => !(x.q == q)).length rc)) := (Kept.refl _ wr).setCell (S := fun y => y = b) (fun _ => rfl) _
      have hne : ∀ (c9 : Nat), c9 ≠ 2 → ∀ x, x < wr.heap.size → colj x = c9 → ¬ x = b := fun c9 h9 x hx hc e => by rw [e, HB.out.2] at hc; exact h9 hc.symm
      exact ⟨_, colj, rfl, HM.out.trans (Move.still' k6 (fun y hy => by rw [hy, HB.out.2]; show 2 ≤ 2 ∧ 2 ≤ 5; omega)), ⟨_, 8 - c, by omega, ⟨HB.out.1.set' rfl, HB.out.2⟩, HOR.out.kept k6 (hne _ (by omega))⟩, HOO.out.kept k6 (hne 4 (by omega))⟩
end Go.Proofs.YthinhbaklcijmaaDoor
namespace Go.Proofs.YthinhbaklcijmaaDoor
set_option linter.unusedVariables false
set_option linter.unusedSimpArgs false
open Go.RowKit Go.Proofs
def rplc (now : Nat) (x : RE) : RE := ⟨x.n, x.d, plc x.d now⟩
def ragn (now q0 : Nat) (l : List RE) : List RE := (l.filter fun x => !(x.q == q0)) ++ (l.filter fun x => x.q == q0).map (rplc now)
/-- the levels from the fourth on, j of them, have come down -/
def rstg (now : Nat) (l : List RE) : Nat → List RE
  | 0 => l
  | j + 1 => if tkd now (4 - j) then ragn now (tkp now (4 - j)) (rstg now l j) else rstg now l j
def rout (now : Nat) (l : List RE) : List RE := (rstg now l 4).filter fun x => x.q == now % 64
def rrest (now : Nat) (l : List RE) : List RE := (rstg now l 4).filter fun x => !(x.q == now % 64)
theorem filter_split {α : Type} (p : α → Bool) : ∀ l : List α, (l.filter p).length + (l.filter fun x => !(p x)).length = l.length
  | [] => rfl
  | x :: l => by
    have := filter_split p l
    cases h : p x
    · rw [List.filter_cons_of_neg (by rw [h]; decide), List.filter_cons_of_pos (by rw [h]; rfl)]; simp only [List.length_cons]; omega
    · rw [List.filter_cons_of_pos h, List.filter_cons_of_neg (by rw [h]; decide)]; simp only [List.length_cons]; omega
theorem ragn_len (now q0 : Nat) (l : List RE) : (ragn now q0 l).length = l.length := by
  unfold ragn
  rw [List.length_append, List.length_map]
  have := filter_split (fun x : RE => x.q == q0) l
  omega
theorem rstg_len (now : Nat) (l : List RE) : ∀ j, (rstg now l j).length = l.length
  | 0 => rfl
  | j + 1 => by
    show (if tkd now (4 - j) then ragn now (tkp now (4 - j)) (rstg now l j) else rstg now l j).length = _
    split
    · rw [ragn_len, rstg_len now l j]
    · exact rstg_len now l j
theorem ragn_mem {now q0 : Nat} {l : List RE} {x : RE} (h : x ∈ ragn now q0 l) : ∃ y, y ∈ l ∧ y.n = x.n ∧ y.d = x.d := by
  unfold ragn at h
  rcases List.mem_append.1 h with h | h
  · exact ⟨x, (List.mem_filter.1 h).1, rfl, rfl⟩
  · obtain ⟨y, hy, rfl⟩ := List.mem_map.1 h
    exact ⟨y, (List.mem_filter.1 hy).1, rfl, rfl⟩
theorem rstg_mem {now : Nat} {l : List RE} : ∀ {j : Nat} {x : RE}, x ∈ rstg now l j → ∃ y, y ∈ l ∧ y.n = x.n ∧ y.d = x.d
  | 0, x, h => ⟨x, h, rfl, rfl⟩
  | j + 1, x, h => by
    have h' : x ∈ (if tkd now (4 - j) then ragn now (tkp now (4 - j)) (rstg now l j) else rstg now l j) := h
    split at h'
    · obtain ⟨y, hy, e1, e2⟩ := ragn_mem h'
      obtain ⟨z, hz, f1, f2⟩ := rstg_mem hy
      exact ⟨z, hz, f1.trans e1, f2.trans e2⟩
    · exact rstg_mem h'
/-- the numbers at a place -/
def nums (l : List RE) (q : Nat) : List Nat := (l.filter fun x => x.q == q).map RE.n
theorem ragn_nums {D : Nat → Nat} {now q0 : Nat} {l : List RE} (h : ∀ x, x ∈ l → D x.n = x.d) : nums (ragn now q0 l) = agn D now q0 (nums l) := by
  funext r
  rw [agn_at]
  unfold nums ragn
  rw [List.filter_append, List.map_append]
  congr 1
  · rw [List.filter_filter]
    by_cases hr : r = q0
    · rw [if_pos hr]
      have : (l.filter fun a => (a.q == r && !(a.q == q0))) = [] := List.filter_eq_nil_iff.2 fun a _ => by rw [hr]; cases a.q == q0 <;> decide
      rw [this]; rfl
    · rw [if_neg hr]
      congr 1
      refine List.filter_congr fun a _ => ?_
      by_cases h1 : a.q = r
      · rw [h1]; simp [hr]
      · simp [h1]
  · rw [List.filter_map, List.filter_map, List.map_map]
    have e1 : (fun x : RE => x.q == r) ∘ rplc now = fun x => plc x.d now == r := rfl
    rw [e1]
    have e2 : ((l.filter fun x => x.q == q0).filter fun x => plc x.d now == r) = ((l.filter fun x => x.q == q0).filter ((fun e => plc (D e) now == r) ∘ RE.n)) := List.filter_congr fun x hx => by
      show _ = (plc (D x.n) now == r)
      rw [h x (List.mem_filter.1 hx).1]
    rw [e2]
    rfl
theorem rstg_nums {D : Nat → Nat} {now : Nat} {l : List RE} (h : ∀ x, x ∈ l → D x.n = x.d) : ∀ j, nums (rstg now l j) = stg D now (nums l) j
  | 0 => rfl
  | j + 1 => by
    show nums (if tkd now (4 - j) then ragn now (tkp now (4 - j)) (rstg now l j) else rstg now l j) = (if tkd now (4 - j) then agn D now (tkp now (4 - j)) (stg D now (nums l) j) else stg D now (nums l) j)
    have ih := rstg_nums (now := now) h j
    split
    · rw [ragn_nums (D := D) (fun x hx => by obtain ⟨y, hy, e1, e2⟩ := rstg_mem hx; rw [← e1, ← e2]; exact h y hy), ih]
    · exact ih
theorem rout_nums {D : Nat → Nat} {now : Nat} {l : List RE} (h : ∀ x, x ∈ l → D x.n = x.d) : (rout now l).map RE.n = outOf D now (nums l) := by
  have := congrFun (rstg_nums (now := now) h 4) (now % 64)
  exact this
theorem rrest_nums {D : Nat → Nat} {now : Nat} {l : List RE} (h : ∀ x, x ∈ l → D x.n = x.d) : nums (rrest now l) = restOf D now (nums l) := by
  funext r
  show (((rstg now l 4).filter fun x => !(x.q == now % 64)).filter fun x => x.q == r).map RE.n = upd (stg D now (nums l) 4) (now % 64) [] r
  rw [List.filter_filter]
  by_cases hr : r = now % 64
  · rw [hr, upd_same]
    have : ((rstg now l 4).filter fun a => (a.q == now % 64 && !(a.q == now % 64))) = [] := List.filter_eq_nil_iff.2 fun a _ => by cases a.q == now % 64 <;> decide
    rw [this]; rfl
  · rw [upd_ne _ _ hr, ← congrFun (rstg_nums (now := now) h 4) r]
    show _ = ((rstg now l 4).filter fun x => x.q == r).map RE.n
    congr 1
    refine List.filter_congr fun a _ => ?_
    by_cases h1 : a.q = r
    · rw [h1]; simp [hr]
    · simp [h1]
theorem rrest_mem {now : Nat} {l : List RE} {x : RE} (h : x ∈ rrest now l) : ∃ y, y ∈ l ∧ y.n = x.n ∧ y.d = x.d := rstg_mem (List.mem_filter.1 h).1
theorem rout_mem {now : Nat} {l : List RE} {x : RE} (h : x ∈ rout now l) : ∃ y, y ∈ l ∧ y.n = x.n ∧ y.d = x.d := rstg_mem (List.mem_filter.1 h).1
theorem rout_len (now : Nat) (l : List RE) : (rout now l).length + (rrest now l).length = l.length := by
  unfold rout rrest
  rw [filter_split (fun x : RE => x.q == now % 64), rstg_len]
theorem tkp_place {n l : Nat} (h1 : 1 ≤ l) (h4 : l < 4) : tkp n l = l * 64 + (dg n l).toNat ∧ (dg n l).toNat < 64 := by
  have h := dg_bd n l
  refine ⟨?_, by omega⟩
  obtain rfl | rfl | rfl : l = 1 ∨ l = 2 ∨ l = 3 := by omega
  all_goals
    unfold tkp dg
    simp only [Int.reducePow]
    omega
/-- a row of digits, in a block of the colour 6 -/
def DRow (col : Nat → Nat) (rb ro N : Nat) (W : World) : Prop := rb < W.heap.size ∧ col rb = 6 ∧ ∀ i, i < 11 → W.cell? ⟨rb, ro + i, none⟩ = some (.int .i64 (dg N i))
theorem DRow.move {S : Nat → Prop} {col col' : Nat → Nat} {rb ro N : Nat} {W W' : World} (h : DRow col rb ro N W) (m : Move S col col' W W') (h6 : ¬ S 6) : DRow col' rb ro N W' :=
  ⟨Nat.lt_of_lt_of_le h.1 m.k.size, (m.re rb h.1).trans h.2.1, fun i hi => (World.cell?_of_block (a := ⟨rb, ro + i, none⟩) (m.k.block rb h.1 (fun e => h6 (by rw [h.2.1] at e; exact e)))).trans (h.2.2 i hi)⟩
set_option maxRecDepth 100000 in
set_option maxHeartbeats 4000000 in
theorem refadv {col : Nat → Nat} {b : Nat} {T : TypeId} {now : Nat} {l : List RE} {more : List Value} {w : World} (h : RWh col b T now l more w) (hnow : now < 18446744073709551615) (hl : l.length < 50000) (hd : ∀ x, x ∈ l → x.d < 18446744073709551616) :
    Calls Tryd.prog 14 #[.pointer (some ⟨b, 0, none⟩)] w fun e w' => ∃ o col', e = .returned o ∧ Move RWS col col' w w' ∧ RWh col' b T (now + 1) (rrest (now + 1) l) more w' ∧ Owns col' 4 w' 54 4 o (rout (now + 1) l).length (cellsR (rout (now + 1) l)) := by
  obtain ⟨v, c, hc35, hb, ho⟩ := h
  have c0 : w.cell? ⟨b, 0, none⟩ = some (.int .u64 (now : Int)) := hb.1.cell 0
  have f0 := hb.1.free 0
  have hbl := hb.1.lt
  obtain ⟨N, hN⟩ : ∃ N, N = now + 1 := ⟨_, rfl⟩
  have hNI : (now : Int) + 1 = (N : Int) := by omega
  obtain ⟨w1, hw1⟩ : ∃ w1, w1 = w.setCell ⟨b, 0, none⟩ (.int .u64 (N : Int)) := ⟨_, rfl⟩
  have k1 : Kept (fun y => y = b) w w1 := by rw [hw1]; exact (Kept.refl _ w).setCell (S := fun y => y = b) (fun _ => rfl) _
  have h1 : RWh col b T N l more w1 := ⟨v, c, hc35, ⟨by rw [hw1]; exact hb.1.set' rfl, hb.2⟩, ho.kept k1 (fun x hx hc e => by rw [e, hb.2] at hc; omega)⟩
  have m1 : Move RWS col col w w1 := Move.still' k1 (fun y hy => by rw [hy, hb.2]; show 2 ≤ 2 ∧ 2 ≤ 5; omega)
  have c1 : w1.cell? ⟨b, 0, none⟩ = some (.int .u64 (N : Int)) := by
    obtain ⟨v', c', -, h9, -⟩ := h1
    exact h9.1.cell 0
  have HN := Lib.hid hN
  have H1 := Lib.hid (And.intro h1 m1)
  clear hb ho k1 h1 m1 hN
  rw [← HN.out]
  go_enter Tryd.func14, Tryd.ntmps14
  go_upto_region 2 with fail
  rw [← hw1]
  clear hw1 c0 f0 hNI
  go_wp2_with fail
  refine (refzeros_any N (by have := HN.out; omega) w1).mono ?_
  rintro e w2 ⟨⟨z, hz, rfl⟩, k2⟩
  have c2 : w2.cell? ⟨b, 0, none⟩ = some (.int .u64 (N : Int)) := (k2.cell (p := ⟨b, 0, none⟩) (lt_of_cell c1)).trans c1
  have HZ := Lib.hid hz
  clear hz
  go_wp2_with fail
  refine (refdigits_any N (by have := HN.out; omega) w2).mono ?_
  rintro e w3 ⟨⟨rv, rfl, hrv⟩, k3⟩
  obtain ⟨rb, ro, rc, rfl, hrb1, hrb2, hrc⟩ := dig_row hrv
  have k13 : Below w1.heap.size w1 w3 := k2.trans (k3.mono k2.size)
  obtain ⟨col3, hcol3⟩ : ∃ col3, col3 = ext col w1.heap.size 6 := ⟨_, rfl⟩
  have mv3 : Move (fun _ => False) col col3 w1 w3 := by rw [hcol3]; exact Move.ext ((kept_of_below k13).mono (fun x hx h9 => by omega)) 6
  have hD6 : col3 rb = 6 := by rw [hcol3]; exact ext_new col (by have := k2.size; omega)
  have S3 := Lib.hid (And.intro (H1.out.1.move mv3 (fun f => f) (fun f => f) (fun f => f)) (H1.out.2.trans (mv3.mono (fun _ f => f.elim))))
  have HRC := Lib.hid (And.intro hrb1 (And.intro hD6 hrc))
  clear hrv hrb1 hrb2 hrc k2 k3 k13 mv3 hcol3 hD6 c1 c2 hbl
  go_wp2_with fail
  go_loopw [5, 6, 7, 8] (fun lv _ _ _ wr => ∃ (j : Nat) (colj : Nat → Nat), j ≤ 4 ∧ lv = .int .i64 ((4 - j : Nat) : Int) ∧ Move RWS col colj w wr ∧ RWh colj b T N (rstg N l j) more wr ∧ DRow colj rb ro N wr) (fun lv _ _ _ _ => (intOf lv).toNat)
  case atStart => exact ⟨0, col3, Nat.zero_le _, rfl, S3.out.2, S3.out.1, HRC.out⟩
  case round =>
    obtain ⟨j, colj, hj, rfl, hm, hr, hdr⟩ := hrel
    have HM := Lib.hid (And.intro hm hr)
    have HR := Lib.hid hdr
    clear hm hr hdr
    by_cases hj4 : j < 4
    · obtain ⟨L, hL⟩ : ∃ L, L = 4 - j := ⟨_, rfl⟩
      have hL1 : 1 ≤ L ∧ L ≤ 4 := by omega
      have hst : rstg N l (j + 1) = if tkd N L then ragn N (tkp N L) (rstg N l j) else rstg N l j := by rw [hL]; rfl
      have htk := zeros_tkd HZ.out hL1.1 hL1.2
      have hLn : (L : Int) - 1 = ((4 - (j + 1) : Nat) : Int) := by omega
      rw [← hL]
      have HST := Lib.hid hst
      have HTK := Lib.hid htk
      have HLN := Lib.hid hLn
      clear hst htk hL hLn
      by_cases hzL : z < L
      · have hzb : decide (z < L) = true := decide_eq_true hzL
        have HS9 : Hid (rstg N l (j + 1) = rstg N l j) := Lib.hid (by rw [HST.out, HTK.out, decide_eq_false (by omega)]; rfl)
        go_wp2_with fail
        go_roundw
        case rel => exact ⟨j + 1, colj, by omega, by rw [← HLN.out], HM.out.1, by rw [HS9.out]; exact HM.out.2, HR.out⟩
        case measure => simp [intOf]; omega
      · have hzb : decide (z < L) = false := decide_eq_false hzL
        have HS9 : Hid (rstg N l (j + 1) = ragn N (tkp N L) (rstg N l j)) := Lib.hid (by rw [HST.out, HTK.out, decide_eq_true (by omega)]; rfl)
        obtain ⟨bb, hbb⟩ : ∃ bb, decide (L < 4) = bb := ⟨_, rfl⟩
        go_upto_if 34 with fail
        go_cut [6] from 26 to 60 (fun sv wx => wx = wr ∧ ∃ s : Nat, s < 64 ∧ tkp N L = L * 64 + s ∧ sv = .int .i64 s)
        case first =>
          cases bb with
          | true =>
            have hL4 : L < 4 := of_decide_eq_true hbb
            have r1 := HR.out.2.2 L (by omega)
            obtain ⟨g1, g2⟩ := tkp_place (n := N) hL1.1 hL4
            have hdb := dg_bd N L
            go_wp2_with fail
            go_meet
            case rel => exact ⟨rfl, _, g2, g1, by rw [Int.toNat_of_nonneg hdb.1]⟩
          | false =>
            have hL4 : L = 4 := by have := of_decide_eq_false hbb; omega
            go_wp2_with fail
            go_meet
            case rel => exact ⟨rfl, 0, by omega, by rw [hL4]; rfl, rfl⟩
        case rest =>
          obtain ⟨rfl, s, hs, htkp, rfl⟩ := hcut
          have hln := rstg_len N l j
          have hro := refout HM.out.2 L s (tkp N L) htkp hs hL1.2 (by omega)
          have HRO := Lib.hid hro
          clear htkp hro hbb
          go_wp2_with fail
          refine HRO.out.mono ?_
          rintro e w4 ⟨o4, col4, rfl, m4, h4, p4⟩
          obtain ⟨oa, oc, rfl, -, -⟩ := p4.form
          have D4 := Lib.hid (HR.out.move m4 (by show ¬ (2 ≤ 6 ∧ 6 ≤ 5); omega))
          have M4 := Lib.hid (And.intro (HM.out.1.trans m4) h4)
          have P4 := Lib.hid p4
          have hfl := filter_split (fun x : RE => x.q == tkp N L) (rstg N l j)
          have hag : ragn N (tkp N L) (rstg N l j) = (rstg N l j).filter (fun x => !(x.q == tkp N L)) ++ ((rstg N l j).filter fun x => x.q == tkp N L).map (rplc N) := rfl
          have hdd : ∀ x, x ∈ ((rstg N l j).filter fun x => x.q == tkp N L) → x.d < 18446744073709551616 := fun x hx => by
            obtain ⟨y, hy, _, e2⟩ := rstg_mem (List.mem_filter.1 hx).1
            rw [← e2]; exact hd y hy
          generalize hA : ((rstg N l j).filter fun x => x.q == tkp N L) = A at *
          generalize hB : ((rstg N l j).filter fun x => !(x.q == tkp N L)) = B at *
          have HAG := Lib.hid hag
          have HDD := Lib.hid hdd
          clear m4 h4 p4 hag hdd hA hB
          go_wp2_with fail
          go_loopw [8] (fun iv wr => ∃ (i : Nat) (coli : Nat → Nat), i ≤ A.length ∧ iv = .int .i64 i ∧ Move RWS col coli w wr ∧ RWh coli b T N (B ++ (A.take i).map (rplc N)) more wr ∧ Owns coli 4 wr 54 4 (.slice oa A.length oc) A.length (cellsR A) ∧ DRow coli rb ro N wr) (fun iv _ => A.length - (intOf iv).toNat)
          case atStart => exact ⟨0, col4, Nat.zero_le _, rfl, M4.out.1, by rw [List.take_zero, List.map_nil, List.append_nil]; exact M4.out.2, P4.out, D4.out⟩
          case round =>
            obtain ⟨i, coli, hi, rfl, hm5, hr5, hp5, hd5⟩ := hrel
            have M5 := Lib.hid (And.intro hm5 hr5)
            have P5 := Lib.hid hp5
            have D5 := Lib.hid hd5
            clear hm5 hr5 hd5
            by_cases hil : i < A.length
            · obtain ⟨x, hx⟩ : ∃ x, A[i]? = some x := ⟨_, List.getElem?_eq_getElem hil⟩
              have htk9 : A.take (i + 1) = A.take i ++ [x] := by rw [List.take_add_one, hx]; rfl
              obtain ⟨g, cap, hv9, hg1, hg2, -, -, hg5, hg6⟩ := hp5.row_at (by omega)
              simp only [Value.slice.injEq, true_and] at hv9
              obtain ⟨rfl, rfl⟩ := hv9
              have hce : ∀ i', i' < 4 → wr.cell? ⟨g, i * 4 + i', none⟩ = x.cl[i']? := fun i' hi' => (hg6 (i * 4 + i') (by omega)).trans (cellsR_at A i x i' hx hi')
              have d0 : wr.cell? ⟨g, i * 4, none⟩ = some (.int .i64 (x.n : Int)) := hce 0 (by omega)
              have d1 : wr.cell? ⟨g, i * 4 + 1, none⟩ = some (.int .u64 (x.d : Int)) := hce 1 (by omega)
              have hxd := HDD.out x (List.mem_of_getElem? hx)
              have HTK9 := Lib.hid htk9
              have CG := Lib.hid hg5
              have hlen : (B ++ (A.take i).map (rplc N)).length < 100000 := by rw [List.length_append, List.length_map, List.length_take]; omega
              have hr6 := M5.out.2.move (Move.still (S := fun _ => False) ((still_refl wr).drewN 1)) (fun f => f) (fun f => f) (fun f => f)
              have hpl := refplace hr6 x.n x.d hxd (by have := HN.out; omega) hlen
              have HPL := Lib.hid hpl
              clear hp5 hce hg6 hg5 hx htk9 hxd hlen hr6 hpl
              go_upto_region 15 with fail
              refine wp_region_text ([4], [9, 39]) [g] (by kernel_rfl) (by kernel_rfl) (cellsB_cons CG.out cellsB_nil) (by simp [segs, isEff, isLoad, askOps, asks, ptrEq, eqOrNe, isNil]; rfl) ?_
              (repeat ((first | (refine segs_nil ?_) | (refine segs_go (stay_drew) ?_ ?_; focus (simp [isLoad]; done)) | (refine segs_load (stay_drew) ?_ ?_; focus (intro h; first | exact ⟨g, _, rfl, by simp⟩ | (simp [Region.wanted, yielded, undef] at h; done))) | fail); go_wp2_with fail))
              refine HPL.out.mono ?_
              rintro e w6 ⟨rfl, col6, m6, h6⟩
              have m6' : Move RWP coli col6 wr w6 := (Move.still ((still_refl wr).drewN 1)).trans m6
              have HS := Lib.hid (show StayB [g] wr w6 from fun x9 hx9 => by
                simp only [List.mem_cons, List.not_mem_nil, or_false] at hx9
                subst hx9
                exact m6'.k.block _ hg2 (fun h9 => by rw [hg1] at h9; omega))
              have M6 := Lib.hid (And.intro (M5.out.1.trans (m6'.mono (fun c9 hc9 => by show 2 ≤ c9 ∧ c9 ≤ 5; omega))) h6)
              have P6 := Lib.hid (P5.out.move m6' (by show ¬ (4 = 2 ∨ 4 = 3 ∨ 4 = 5); omega))
              have D6 := Lib.hid (D5.out.move m6' (by show ¬ (6 = 2 ∨ 6 = 3 ∨ 6 = 5); omega))
              clear m6 m6' h6
              go_wp2_with fail
              (repeat ((first | (refine segs_nil ?_) | (refine segs_go (HS.out) ?_ ?_; focus (simp [isLoad]; done)) | (refine segs_load (HS.out) ?_ ?_; focus (intro h; first | exact ⟨g, _, rfl, by simp⟩ | (simp [Region.wanted, yielded, undef] at h; done))) | fail); go_wp2_with fail))
              go_roundw
              case rel => exact ⟨i + 1, col6, by omega, by go_num, M6.out.1, by rw [HTK9.out, List.map_append, ← List.append_assoc]; exact M6.out.2, P6.out, D6.out⟩
              case measure => simp [intOf]; omega
            · obtain rfl : i = A.length := by omega
              rw [List.take_length] at M5
              go_wp2_with fail
              go_roundw
              case rel => exact ⟨j + 1, coli, by omega, by rw [← HLN.out], M5.out.1, by rw [HS9.out, HAG.out]; exact M5.out.2, D5.out⟩
              case measure => simp [intOf]; omega
    · obtain rfl : j = 4 := by omega
      have r0 := HR.out.2.2 0 (by omega)
      have hdb := dg_bd N 0
      obtain ⟨s, hs⟩ : ∃ s : Nat, dg N 0 = s := ⟨(dg N 0).toNat, by omega⟩
      have hsN : s = N % 64 := by unfold dg at hs; omega
      rw [Nat.add_zero, hs] at r0
      have hln := rstg_len N l 4
      have hro := refout HM.out.2 0 s (N % 64) (by omega) (by omega) (by omega) (by omega)
      have HRO := Lib.hid hro
      clear hro hsN hs
      go_wp2_with fail
      refine HRO.out.mono ?_
      rintro e w4 ⟨o4, col4, rfl, m4, h4, p4⟩
      obtain ⟨oa, oc, rfl, -, -⟩ := p4.form
      have FIN := Lib.hid (And.intro (HM.out.1.trans m4) (And.intro h4 p4))
      clear m4 h4 p4
      go_wp2_with fail
      go_ret
      exact ⟨_, col4, rfl, FIN.out.1, FIN.out.2.1, FIN.out.2.2⟩
end Go.Proofs.YthinhbaklcijmaaDoor
namespace Go.Proofs.YthinhbaklcijmaaDoor
set_option linter.unusedVariables false
set_option linter.unusedSimpArgs false
open Go.RowKit Go.Proofs
/-- the least deadline -/
def rlst (l : List RE) : Option Nat := l.foldl (fun a x => if a = none ∨ x.d < a.getD 0 then some x.d else a) none
theorem rlst_snoc (l : List RE) (x : RE) : rlst (l ++ [x]) = if rlst l = none ∨ x.d < (rlst l).getD 0 then some x.d else rlst l := by unfold rlst; rw [List.foldl_append]; rfl
theorem rlst_is : ∀ (k : Nat) (l : List RE), l.length = k → (rlst l = none → l = []) ∧ (∀ L, rlst l = some L → (∃ x, x ∈ l ∧ x.d = L) ∧ ∀ x, x ∈ l → L ≤ x.d)
  | 0, l, h => by
    obtain rfl := List.eq_nil_of_length_eq_zero h
    exact ⟨fun _ => rfl, fun L hL => (by cases hL)⟩
  | k + 1, l, h => by
    obtain ⟨E, d, rfl⟩ : ∃ E d, l = E ++ [d] := ⟨l.dropLast, l.getLast (by intro e; rw [e] at h; cases h), (List.dropLast_concat_getLast _).symm⟩
    obtain ⟨h1, h2⟩ := rlst_is k E (by simp at h; exact h)
    rw [rlst_snoc]
    constructor
    · split
      · intro h9; cases h9
      · rename_i hc
        intro h9
        exact absurd (.inl h9) hc
    · intro L hL
      split at hL
      · rename_i hc
        obtain rfl := Option.some.inj hL
        refine ⟨⟨d, by simp, rfl⟩, fun x hx => ?_⟩
        rcases List.mem_append.1 hx with hx | hx
        · cases hE : rlst E with
          | none => rw [h1 hE] at hx; cases hx
          | some M =>
            have := (h2 M hE).2 x hx
            rw [hE] at hc
            rcases hc with hc | hc
            · cases hc
            · simp only [Option.getD_some] at hc; omega
        · rw [List.mem_singleton.1 hx]; exact Nat.le_refl _
      · rename_i hc
        obtain ⟨⟨y, hy, e⟩, g⟩ := h2 L hL
        refine ⟨⟨y, by simp [hy], e⟩, fun x hx => ?_⟩
        rcases List.mem_append.1 hx with hx | hx
        · exact g x hx
        · obtain rfl := List.mem_singleton.1 hx
          rw [hL] at hc
          exact Nat.le_of_not_lt fun h9 => hc (.inr h9)
set_option maxRecDepth 100000 in
set_option maxHeartbeats 2000000 in
theorem refnext {col : Nat → Nat} {b : Nat} {T : TypeId} {now : Nat} {l : List RE} {more : List Value} {w : World} (h : RWh col b T now l more w) (hl : l.length < 100000) (hd : ∀ x, x ∈ l → x.d < 18446744073709551616) :
    Calls Tryd.prog 38 #[.pointer (some ⟨b, 0, none⟩)] w fun e w' => e = .returned (.tuple #[.int .u64 (((rlst l).getD 0 : Nat) : Int), .bool (rlst l).isSome]) ∧ w = w' := by
  obtain ⟨v, c, hc35, hb, ho⟩ := h
  obtain ⟨va, vc, rfl, -, -⟩ := ho.form
  have c1 : w.cell? ⟨b, 1, none⟩ = some (.slice va l.length vc) := hb.1.cell 1
  have HO := Lib.hid ho
  clear ho hb
  go_enter Tryd.func38, Tryd.ntmps38
  go_wp2_with fail
  go_loopw [4, 5, 6] (fun nv sv iv wr => ∃ j : Nat, j ≤ l.length ∧ iv = .int .i64 j ∧ nv = .int .u64 (((rlst (l.take j)).getD 0 : Nat) : Int) ∧ sv = .bool (rlst (l.take j)).isSome ∧ w = wr) (fun _ _ iv _ => l.length - (intOf iv).toNat)
  case atStart => exact ⟨0, Nat.zero_le _, rfl, rfl, rfl, rfl⟩
  case round =>
    obtain ⟨j, hj, rfl, rfl, rfl, rfl⟩ := hrel
    by_cases hjl : j < l.length
    · obtain ⟨x, hx⟩ : ∃ x, l[j]? = some x := ⟨_, List.getElem?_eq_getElem hjl⟩
      have htk : rlst (l.take (j + 1)) = if rlst (l.take j) = none ∨ x.d < (rlst (l.take j)).getD 0 then some x.d else rlst (l.take j) := by rw [List.take_add_one, hx]; exact rlst_snoc _ _
      obtain ⟨g, cap, hv9, hg1, hg2, -, -, hg5, hg6⟩ := HO.out.row_at (by omega)
      simp only [Value.slice.injEq, true_and] at hv9
      obtain ⟨rfl, rfl⟩ := hv9
      have hce : ∀ i, i < 4 → w.cell? ⟨g, j * 4 + i, none⟩ = x.cl[i]? := fun i hi => (hg6 (j * 4 + i) (by omega)).trans (cellsR_at l j x i hx hi)
      have d1 : w.cell? ⟨g, j * 4 + 1, none⟩ = some (.int .u64 (x.d : Int)) := hce 1 (by omega)
      have HTK := Lib.hid htk
      clear hce hg6 hg5 hx htk
      obtain ⟨a, ha⟩ : ∃ a, a = rlst (l.take j) := ⟨_, rfl⟩
      rw [← ha] at HTK ⊢
      clear ha
      cases a with
      | none =>
        have hT := HTK.out
        rw [if_pos (.inl rfl)] at hT
        have HT := Lib.hid hT
        clear hT
        go_wp2_with fail
        go_roundw
        case rel => exact ⟨j + 1, by omega, by go_num, by rw [HT.out]; rfl, by rw [HT.out]; rfl, by trivial⟩
        case measure => simp [intOf]; omega
      | some L =>
        by_cases h2 : x.d < L
        · have hb2 : decide (x.d < L) = true := decide_eq_true h2
          have hT := HTK.out
          rw [if_pos (.inr h2)] at hT
          have HT := Lib.hid hT
          clear hT h2
          go_wp2_with fail
          go_roundw
          case rel => exact ⟨j + 1, by omega, by go_num, by rw [HT.out]; rfl, by rw [HT.out]; rfl, by trivial⟩
          case measure => simp [intOf]; omega
        · have hb2 : decide (x.d < L) = false := decide_eq_false h2
          have hT := HTK.out
          rw [if_neg (fun h9 => h9.elim (fun h8 => by cases h8) h2)] at hT
          have HT := Lib.hid hT
          clear hT h2
          go_wp2_with fail
          go_roundw
          case rel => exact ⟨j + 1, by omega, by go_num, by rw [HT.out], by rw [HT.out], by trivial⟩
          case measure => simp [intOf]; omega
    · obtain rfl : j = l.length := by omega
      rw [List.take_length]
      go_wp2_with fail
      go_ret2
      exact ⟨rfl, rfl⟩
end Go.Proofs.YthinhbaklcijmaaDoor
