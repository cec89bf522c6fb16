/-
  What stands here: what the document's wheel tells of a place; a remove. Under no condition but that the world holds it.
-/
import Derived.Test.YthinhbaklcijmaaDoorRefWheel
namespace Go.Proofs.YthinhbaklcijmaaDoor
set_option linter.unusedVariables false
set_option linter.unusedSimpArgs false
open Go.RowKit Go.Proofs
def numRow (ns : List Nat) : List Value := ns.map fun (i : Nat) => Value.int .i64 (i : Int)
theorem numRow_snoc (ns : List Nat) (i : Nat) : numRow (ns ++ [i]) = numRow ns ++ [.int .i64 (i : Int)] := by unfold numRow; rw [List.map_append]; rfl
def numsIn (l : List RE) (q : Nat) : List Nat := (l.filter fun x => x.q == q).map RE.n
set_option maxRecDepth 100000 in
set_option maxHeartbeats 2000000 in
theorem refat {col : Nat → Nat} {b : Nat} {T : TypeId} {now : Nat} {l : List RE} {more : List Value} {w : World} (h : RWh col b T now l more w) (lev slot q : Nat) (hq : q = lev * 64 + slot) (hs : slot < 64) (hlev : lev ≤ 4) (hl : l.length < 100000) :
    Calls Tryd.prog 39 #[.pointer (some ⟨b, 0, none⟩), .int .i64 (lev : Int), .int .i64 (slot : Int)] w fun e w' => (∃ v, e = .returned v ∧ w'.ownsRow w.heap.size 3 1 v (nums l q).length (numRow (nums l q))) ∧ Below w.heap.size w w' := by
  obtain ⟨i0, hi, hz0, hz1, hz2⟩ := info_parts infoInt
  obtain ⟨v, c, hc35, hb, ho⟩ := h
  obtain ⟨va, vc, rfl, -, -⟩ := ho.form
  have c1 : w.cell? ⟨b, 1, none⟩ = some (.slice va l.length vc) := hb.1.cell 1
  have hbl := hb.1.lt
  have H := Lib.hid ho
  have HQ := Lib.hid hq
  clear hb ho hq
  go_enter Tryd.func39, Tryd.ntmps39
  go_wp2_with fail
  go_loopw [7, 8] (fun ov iv wr => ∃ j : Nat, j ≤ l.length ∧ iv = .int .i64 j ∧ Below w.heap.size w wr ∧ wr.ownsRow w.heap.size 3 1 ov (nums (l.take j) q).length (numRow (nums (l.take j) q))) (fun _ iv _ => l.length - (intOf iv).toNat)
  case atStart => exact ⟨0, Nat.zero_le _, rfl, Below.refl _ _, World.ownsRow_nil _ _ _ _⟩
  case round =>
    obtain ⟨j, hj, rfl, hbel, hoo⟩ := hrel
    have e1 : wr.cell? ⟨b, 1, none⟩ = some (.slice va l.length vc) := (hbel.cell (p := ⟨b, 1, none⟩) hbl).trans c1
    have HB := Lib.hid hbel
    have HOO := Lib.hid hoo
    clear hbel hoo
    by_cases hjl : j < l.length
    · obtain ⟨x, hx⟩ : ∃ x, l[j]? = some x := ⟨_, List.getElem?_eq_getElem hjl⟩
      have htk : l.take (j + 1) = l.take j ++ [x] := by rw [List.take_add_one, hx]; rfl
      obtain ⟨g, cap, hv9, hg1, hg2, -, -, hg5, hg6⟩ := H.out.row_at (by omega)
      simp only [Value.slice.injEq, true_and] at hv9
      obtain ⟨rfl, rfl⟩ := hv9
      have hce : ∀ i, i < 4 → wr.cell? ⟨g, j * 4 + i, none⟩ = x.cl[i]? := fun i hi => (HB.out.cell (p := ⟨g, j * 4 + i, none⟩) hg2).trans ((hg6 (j * 4 + i) (by omega)).trans (cellsR_at l j x i hx hi))
      have d0 : wr.cell? ⟨g, j * 4, none⟩ = some (.int .i64 (x.n : Int)) := hce 0 (by omega)
      have d2 : wr.cell? ⟨g, j * 4 + 2, none⟩ = some (.int .i64 ((x.q / 64 : Nat) : Int)) := hce 2 (by omega)
      have d3 : wr.cell? ⟨g, j * 4 + 3, none⟩ = some (.int .i64 ((x.q % 64 : Nat) : Int)) := hce 3 (by omega)
      have hpe := place_eq x.q HQ.out hs
      obtain ⟨p, hp⟩ : ∃ p, p = x.q / 64 := ⟨_, rfl⟩
      obtain ⟨r, hr⟩ : ∃ r, r = x.q % 64 := ⟨_, rfl⟩
      rw [← hp, ← hr] at hpe
      rw [← hp] at d2
      rw [← hr] at d3
      have HTK := Lib.hid htk
      have HPE := Lib.hid hpe
      clear hce hg6 hg5 hx hp hr hpe htk
      go_upto_region 5 with fail
      go_cut [39] from 9 to 50 (fun bv wx => bv = .bool (x.q == q) ∧ wx = wr)
      case first =>
        by_cases h1 : p = lev
        · have h1b : ((p : Int) == (lev : Int)) = true := by rw [beq_iff_eq]; omega
          by_cases h2 : r = slot
          · have h2b : ((r : Int) == (slot : Int)) = true := by rw [beq_iff_eq]; omega
            have HR := Lib.hid (show (x.q == q) = true by rw [HPE.out, decide_eq_true h1, decide_eq_true h2]; rfl)
            clear h1 h2
            go_wp2_with fail
            go_meet
            case rel => exact ⟨by rw [HR.out], rfl⟩
          · have h2b : ((r : Int) == (slot : Int)) = false := by rw [beq_eq_false_iff_ne]; omega
            have HR := Lib.hid (show (x.q == q) = false by rw [HPE.out, decide_eq_false h2, Bool.and_false])
            clear h1 h2
            go_wp2_with fail
            go_meet
            case rel => exact ⟨by rw [HR.out], rfl⟩
        · have h1b : ((p : Int) == (lev : Int)) = false := by rw [beq_eq_false_iff_ne]; omega
          have HR := Lib.hid (show (x.q == q) = false by rw [HPE.out, decide_eq_false h1, Bool.false_and])
          clear h1
          go_wp2_with fail
          go_meet
          case rel => exact ⟨by rw [HR.out], rfl⟩
      case rest =>
        obtain ⟨rfl, rfl⟩ := hcut
        cases hxq : x.q == q with
        | true =>
          have hf1 : nums (l.take (j + 1)) q = nums (l.take j) q ++ [x.n] := by
            unfold nums
            rw [HTK.out, List.filter_append, List.filter_cons_of_pos (by exact hxq), List.map_append]; rfl
          have hfl : (nums (l.take j) q).length ≤ j := by
            have := List.length_filter_le (fun x => x.q == q) (l.take j)
            unfold nums
            rw [List.length_map]
            rw [List.length_take] at this
            omega
          obtain ⟨oa, oc, rfl⟩ := owns_slice HOO.out
          have hoa : (wc.alloc (.cells #[.int .i64 (x.n : Int)] 3)).ownsRow w.heap.size 3 1 (.slice oa (nums (l.take j) q).length oc) (nums (l.take j) q).length (numRow (nums (l.take j) q)) := owns_kept2 HOO.out ((Kept.refl (fun _ => False) _).alloc _) (fun _ _ f => f)
          have hbz : w.heap.size ≤ (wc.alloc (.cells #[.int .i64 (x.n : Int)] 3)).heap.size := by have := HB.out.size; simp; omega
          generalize hL : nums (l.take j) q = L at *
          have HF := Lib.hid hf1
          clear hxq hf1 hL
          go_wp2_with (first | (at_builtin; refine wpList_append _ rfl _ _ 52 rfl w.heap.size 3 i0 (.int .i64 0) 1 8 Tryd.underlying52 hi hz0 hz1 hz2 rfl (by decide) _ _ _ rfl (hoa) ⟨wc.heap.size, 0, none⟩ 1 1 [.int .i64 (x.n : Int)] rfl rfl (by intro j u hj; match j, hj with | 0, hj => simp at hj; subst hj; first | (simp [Addr.add]; done) | exact (Blk.newAt _ _ _ (by simp)).cell 0) (by intro u hu; simp at hu; subst hu; rfl) (by unfold maxLen; omega) (by omega) (by first | omega | (simp; omega) | simp) ?_) | fail)
          intro v5 w5 hap
          have k5 : Below w.heap.size w w5 := below_step HB.out (hap.kept (Kept.refl (fun y => (Value.slice oa L.length oc).ownBlock = some y) wc) (fun b' _ hb' => hb')) (Nat.le_refl _) (fun i hi h9 => by have := owns_block HOO.out i h9; omega)
          have o5 : w5.ownsRow w.heap.size 3 1 v5 (nums (l.take (j + 1)) q).length (numRow (nums (l.take (j + 1)) q)) := by
            rw [HF.out, numRow_snoc, List.length_append, List.length_singleton]; exact hap.owns
          have FIN := Lib.hid (And.intro k5 o5)
          clear hap hoa k5 o5
          go_wp2_with fail
          go_roundw
          case rel => exact ⟨j + 1, by omega, by go_num, FIN.out.1, FIN.out.2⟩
          case measure => simp [intOf]; omega
        | false =>
          have hf1 : nums (l.take (j + 1)) q = nums (l.take j) q := by
            unfold nums
            rw [HTK.out, List.filter_append, List.filter_cons_of_neg (by rw [hxq]; decide)]; simp
          have HF := Lib.hid hf1
          clear hxq hf1
          go_wp2_with fail
          go_roundw
          case rel => exact ⟨j + 1, by omega, by go_num, HB.out, by rw [HF.out]; exact HOO.out⟩
          case measure => simp [intOf]; omega
    · obtain rfl : j = l.length := by omega
      rw [List.take_length] at HOO
      obtain ⟨oa, oc, rfl⟩ := owns_slice HOO.out
      go_wp2_with fail
      go_ret
      exact ⟨⟨_, rfl, HOO.out⟩, HB.out⟩
set_option maxRecDepth 100000 in
set_option maxHeartbeats 2000000 in
theorem refrem {col : Nat → Nat} {b : Nat} {T : TypeId} {now : Nat} {l : List RE} {more : List Value} {w : World} (h : RWh col b T now l more w) (k : Nat) (hl : l.length < 100000) :
    Calls Tryd.prog 13 #[.pointer (some ⟨b, 0, none⟩), .int .i64 (k : Int)] w fun e w' => ∃ (bb : Bool) (col' : Nat → Nat), (bb = true ↔ ∃ x, x ∈ l ∧ x.n = k) ∧ e = .returned (.bool bb) ∧ Move RWS col col' w w' ∧ RWh col' b T now (l.filter fun x => !(x.n == k)) more w' := by
  obtain ⟨i0, hi, hz0, hz1, hz2⟩ := info_parts infoRE
  obtain ⟨v, c, hc35, hb, ho⟩ := h
  obtain ⟨va, vc, rfl, -, -⟩ := ho.form
  have H := Lib.hid (And.intro hb ho)
  clear hb ho
  go_enter Tryd.func13, Tryd.ntmps13
  go_wp2_with fail
  go_loopw [5, 6] (fun rv iv wr => ∃ (j : Nat) (colj : Nat → Nat), j ≤ l.length ∧ iv = .int .i64 j ∧ Move RWS col colj w wr ∧ BlkC colj 2 wr b ((.int .u64 (now : Int) :: .slice va l.length vc :: more).toArray) T ∧ Owns colj c wr 54 4 (.slice va l.length vc) l.length (cellsR l) ∧
    Owns colj (8 - c) wr 54 4 rv ((l.take j).filter fun x => !(x.n == k)).length (cellsR ((l.take j).filter fun x => !(x.n == k)))) (fun _ iv _ => l.length - (intOf iv).toNat)
  case atStart => exact ⟨0, col, Nat.zero_le _, rfl, Move.refl _ _ _, H.out.1, H.out.2, Owns.nil _ _ _ _ _⟩
  case round =>
    obtain ⟨j, colj, hj, rfl, hm, hb, ho, hor⟩ := hrel
    have c1 : wr.cell? ⟨b, 1, none⟩ = some (.slice va l.length vc) := hb.1.cell 1
    have HM := Lib.hid hm
    have HB := Lib.hid hb
    have HO := Lib.hid ho
    have HOR := Lib.hid hor
    clear hm hb hor
    by_cases hjl : j < l.length
    · obtain ⟨x, hx⟩ : ∃ x, l[j]? = some x := ⟨_, List.getElem?_eq_getElem hjl⟩
      have htk : l.take (j + 1) = l.take j ++ [x] := by rw [List.take_add_one, hx]; rfl
      obtain ⟨g, cap, hv9, hg1, hg2, -, -, hg5, hg6⟩ := ho.row_at (by omega)
      simp only [Value.slice.injEq, true_and] at hv9
      obtain ⟨rfl, rfl⟩ := hv9
      have hce : ∀ i, i < 4 → wr.cell? ⟨g, j * 4 + i, none⟩ = x.cl[i]? := fun i hi => (hg6 (j * 4 + i) (by omega)).trans (cellsR_at l j x i hx hi)
      have d0 : wr.cell? ⟨g, j * 4, none⟩ = some (.int .i64 (x.n : Int)) := hce 0 (by omega)
      have d1 : wr.cell? ⟨g, j * 4 + 1, none⟩ = some (.int .u64 (x.d : Int)) := hce 1 (by omega)
      have d2 : wr.cell? ⟨g, j * 4 + 2, none⟩ = some (.int .i64 ((x.q / 64 : Nat) : Int)) := hce 2 (by omega)
      have d3 : wr.cell? ⟨g, j * 4 + 3, none⟩ = some (.int .i64 ((x.q % 64 : Nat) : Int)) := hce 3 (by omega)
      obtain ⟨p, hp⟩ : ∃ p, p = x.q / 64 := ⟨_, rfl⟩
      obtain ⟨r, hr⟩ : ∃ r, r = x.q % 64 := ⟨_, rfl⟩
      rw [← hp] at d2
      rw [← hr] at d3
      have HP := Lib.hid (And.intro hp hr)
      have HTK := Lib.hid htk
      clear ho hce hg6 hg5 hx hp hr htk
      by_cases hxk : x.n = k
      · have hxb : ((x.n : Int) != (k : Int)) = false := by rw [bne_eq_false_iff_eq]; omega
        have hf2 : ((l.take (j + 1)).filter fun x => !(x.n == k)) = ((l.take j).filter fun x => !(x.n == k)) := by rw [HTK.out, List.filter_append, List.filter_cons_of_neg (by simp [hxk])]; simp
        have HF := Lib.hid hf2
        clear hxk hf2
        go_wp2_with fail
        go_roundw
        case rel => exact ⟨j + 1, colj, by omega, by go_num, HM.out, HB.out, HO.out, by rw [HF.out]; exact HOR.out⟩
        case measure => simp [intOf]; omega
      · have hxb : ((x.n : Int) != (k : Int)) = true := by rw [bne_iff_ne]; omega
        obtain ⟨oa, oc, rfl, -, -⟩ := HOR.out.form
        have hoa := HOR.out.alloc (.cells #[.int .i64 (x.n : Int), .int .u64 (x.d : Int), .int .i64 (p : Int), .int .i64 (r : Int)] 54)
        have hfl := List.length_filter_le (fun x => !(x.n == k)) (l.take j)
        rw [List.length_take] at hfl
        have hf1 : ((l.take (j + 1)).filter fun x => !(x.n == k)) = ((l.take j).filter fun x => !(x.n == k)) ++ [x] := by rw [HTK.out, List.filter_append, List.filter_cons_of_pos (by simp [hxk])]; rfl
        generalize hL : ((l.take j).filter fun x => !(x.n == k)).length = L at *
        have HL := Lib.hid (And.intro hL hf1)
        clear hL hxk hf1
        go_wp2_with (first | (at_builtin; refine wpList_append _ rfl _ _ 40 rfl 0 54 i0 (.agg #[.int .i64 0, .int .u64 0, .int .i64 0, .int .i64 0]) 4 32 Tryd.underlying40 hi hz0 hz1 hz2 rfl (by decide) _ _ _ rfl (hoa) ⟨wr.heap.size, 0, none⟩ 1 1 [.int .i64 (x.n : Int), .int .u64 (x.d : Int), .int .i64 (p : Int), .int .i64 (r : Int)] rfl rfl (by intro j u hj; rw [addr_add, Nat.zero_add]; exact ((Blk.newAt _ _ _ (by simp)).cell j).trans (by simpa using hj)) (by intro u hu; simp only [List.mem_cons, List.not_mem_nil, or_false] at hu; (repeat (rcases hu with hu | hu; · subst hu; rfl)); subst hu; rfl) (by unfold maxLen; omega) (by omega) (by first | omega | (simp; omega) | simp) ?_) | fail)
        intro v5 w5 hap
        obtain ⟨o5, mv5⟩ := Owns.more HOR.out hap
        have b5 := HB.out.move mv5 (by show ¬ 2 = 8 - c; omega)
        have oo5 := HO.out.move mv5 (by show ¬ c = 8 - c; omega)
        have m5 := HM.out.trans (mv5.mono (T := RWS) (fun c9 hc9 => by rw [hc9]; show 2 ≤ 8 - c ∧ 8 - c ≤ 5; omega))
        have o5' : Owns (ext colj wr.heap.size (8 - c)) (8 - c) w5 54 4 v5 ((l.take (j + 1)).filter fun x => !(x.n == k)).length (cellsR ((l.take (j + 1)).filter fun x => !(x.n == k))) := by
          rw [HL.out.2, cellsR_snoc, List.length_append, List.length_singleton, HL.out.1]
          show Owns _ _ _ _ 4 _ _ (_ ++ [.int .i64 (x.n : Int), .int .u64 (x.d : Int), .int .i64 ((x.q / 64 : Nat) : Int), .int .i64 ((x.q % 64 : Nat) : Int)])
          rw [← HP.out.1, ← HP.out.2]
          exact o5
        have FIN := Lib.hid (And.intro m5 (And.intro b5 (And.intro oo5 o5')))
        clear hap hoa o5 mv5 b5 oo5 m5 o5'
        go_wp2_with fail
        go_roundw
        case rel => exact ⟨j + 1, _, by omega, by go_num, FIN.out.1, FIN.out.2.1, FIN.out.2.2.1, FIN.out.2.2.2⟩
        case measure => simp [intOf]; omega
    · obtain rfl : j = l.length := by omega
      rw [List.take_length] at HOR
      obtain ⟨ra, rc, rfl, -, -⟩ := HOR.out.form
      have f1 := HB.out.1.free 1
      have hfl := List.length_filter_le (fun x => !(x.n == k)) l
      clear ho
      go_wp2_with fail
      go_ret
      have k6 : Kept (fun y => y = b) wr (wr.setCell ⟨b, 1, none⟩ (.slice ra (l.filter fun x => !(x.n == k)).length rc)) := (Kept.refl _ wr).setCell (S := fun y => y = b) (fun _ => rfl) _
      have hne : ∀ (c9 : Nat), c9 ≠ 2 → ∀ x, x < wr.heap.size → colj x = c9 → ¬ x = b := fun c9 h9 x hx hc e => by rw [e, HB.out.2] at hc; exact h9 hc.symm
      refine ⟨_, colj, ?_, rfl, HM.out.trans (Move.still' k6 (fun y hy => by rw [hy, HB.out.2]; show 2 ≤ 2 ∧ 2 ≤ 5; omega)), ⟨_, 8 - c, by omega, ⟨HB.out.1.set' rfl, HB.out.2⟩, HOR.out.kept k6 (hne _ (by omega))⟩⟩
      simp
end Go.Proofs.YthinhbaklcijmaaDoor
