/-
  What stands here: a wheel compared with the document's. Under the condition that the library's table is as its initialiser lays it.
-/
import Derived.Test.YthinhbaklcijmaaDoorWheelTie
namespace Go.Proofs.YthinhbaklcijmaaDoor
set_option linter.unusedVariables false
set_option linter.unusedSimpArgs false
open Go.RowKit Go.Proofs
theorem numRow_i (ns : List Nat) : numRow ns = (ns.map fun (i : Nat) => (i : Int)).map (Value.int .i64) := by unfold numRow; rw [List.map_map]; rfl
/-- a place of both, compared -/
theorem eq_rows {v1 v2 : Value} {ns : List Nat} {w1 w2 W : World} {b1 b2 : Nat} (h1 : w1.ownsRow b1 3 1 v1 ns.length (numRow ns)) (k1 : Below w1.heap.size w1 W) (h2 : w2.ownsRow b2 3 1 v2 ns.length (numRow ns)) (k2 : Below w2.heap.size w2 W) :
    Calls Tryd.prog 16 #[v1, v2] W fun e w' => e = .returned (.bool true) ∧ Still W w' := by
  rw [numRow_i] at h1 h2
  have := ints_any _ _ _ _ _ _ W ((VRow.of_owns h1).below k1) ((VRow.of_owns h2).below k2)
  rwa [decide_eq_true rfl] at this
set_option maxRecDepth 100000 in
set_option maxHeartbeats 4000000 in
theorem same_any {col : Nat → Nat} {ls : LS} {v : Nat} {lv : Nat → Nat} {sl : Nat → Nat → Nat} {bd : Nat} {S : WSt} {ev : Nat → Nat} {n : Nat} {D : Nat → Nat} {b : Nat} {lr : List RE} {w W : World} (h : WI col ls v lv sl bd S ev n D b lr w W) (hT : Tab W) (hlr : lr.length < 10000) (level slot : Int) :
    Calls Tryd.prog 17 #[.pointer (some ⟨v, 0, none⟩), .pointer (some ⟨b, 0, none⟩), .int .i64 level, .int .i64 slot] W fun e w' => e = .returned (.bool true) ∧ Below W.heap.size W w' := by
  have H := Lib.hid h
  have hcnt := h.cnt
  have hTl := hT.lt
  have HT := Lib.hid hT
  obtain ⟨hl1, hl2⟩ := rlst_is lr.length lr rfl
  have hrl : ∃ (nI : Int) (eI : Int), (∀ W', Below W.heap.size W W' → Calls Tryd.prog 9 #[.pointer (some ⟨v, 0, none⟩)] W' fun r w' => r = .returned (.tuple #[.int .u64 nI, .int .i64 eI]) ∧ Below W'.heap.size W' w') ∧ nI = ((rlst lr).getD 0 : Nat) ∧ ((rlst lr).isSome = true ∧ eI = 0 ∨ (rlst lr).isSome = false ∧ eI = 6) := by
    by_cases hex : ∃ e, Stands S.pl e
    · obtain ⟨M, hM⟩ : ∃ M, rlst lr = some M := by
        cases hlm : rlst lr with
        | some a => exact ⟨a, rfl⟩
        | none =>
          obtain ⟨e, he⟩ := hex
          obtain ⟨x, hx, _⟩ := h.stands.1 he
          rw [hl1 hlm] at hx; cases hx
      refine ⟨M, 0, fun W' hW => ?_, by rw [hM]; rfl, .inl ⟨by rw [hM]; rfl, rfl⟩⟩
      have h' := h.below hW
      refine (xnext_e h'.x (hT.below hW hTl) (by omega) hex).mono ?_
      rintro r w8 ⟨L, rfl, g1, g2, k8⟩
      have hLM : L = M := by
        obtain ⟨e1, s1, u1⟩ := g1
        obtain ⟨x1, hx1, rfl⟩ := h.stands.1 s1
        obtain ⟨⟨x2, hx2, u2⟩, h3⟩ := hl2 M hM
        have q1 := g2 _ (h.stands.2 ⟨x2, hx2, rfl⟩)
        rw [h.due hx2] at q1
        have q2 := h3 x1 hx1
        rw [h.due hx1] at u1
        omega
      exact ⟨by rw [hLM], k8⟩
    · have hno : lr = [] := by
        cases lr with
        | nil => rfl
        | cons x l => exact absurd ⟨_, h.stands.2 ⟨x, by simp, rfl⟩⟩ hex
      have hz : nAll S.pl = 0 := by rw [hcnt, hno]; rfl
      refine ⟨0, 6, fun W' hW => ?_, by rw [hno]; rfl, .inr ⟨by rw [hno]; rfl, rfl⟩⟩
      have hwb := (h.below hW).x.wb
      rw [hz] at hwb
      refine (wnext_zero_e W' hwb).mono ?_
      rintro r w8 ⟨rfl, rfl⟩
      exact ⟨rfl, Below.refl _ _⟩
  obtain ⟨nI, eI, hnx, hnI, hcase⟩ := hrl
  have hrn : ∀ W', Below W.heap.size W W' → Calls Tryd.prog 38 #[.pointer (some ⟨b, 0, none⟩)] W' fun e w' => e = .returned (.tuple #[.int .u64 (((rlst lr).getD 0 : Nat) : Int), .bool (rlst lr).isSome]) ∧ W' = w' := fun W' hW => refnext (h.below hW).rs (by omega) h.d64
  have HNX := Lib.hid hnx
  have hrs := h.rs
  obtain ⟨va, c9, hc9, hbb, hoo⟩ := hrs
  obtain ⟨na, nc, rfl, -, -⟩ := hoo.form
  have g0 : W.cell? ⟨b, 0, none⟩ = some (.int .u64 (S.now : Int)) := hbb.1.cell 0
  have g1 : W.cell? ⟨b, 1, none⟩ = some (.slice na lr.length nc) := hbb.1.cell 1
  have G := Lib.hid (And.intro g0 g1)
  have HRA : Hid (∀ (lev sl9 : Nat), lev ≤ 4 → sl9 < 64 → ∀ W', Below W.heap.size W W' → Calls Tryd.prog 39 #[.pointer (some ⟨b, 0, none⟩), .int .i64 (lev : Int), .int .i64 (sl9 : Int)] W' fun e w' => (∃ v, e = .returned v ∧ w'.ownsRow W'.heap.size 3 1 v (nums lr (lev * 64 + sl9)).length (numRow (nums lr (lev * 64 + sl9)))) ∧ Below W'.heap.size W' w') :=
    Lib.hid (fun lev sl9 h1 h2 W' hW => refat (h.below hW).rs lev sl9 _ rfl h2 h1 (by omega))
  have HWA : Hid (∀ (lev sl9 : Nat), lev < 4 → sl9 < 64 → ∀ W', Below W.heap.size W W' → Calls Tryd.prog 18 #[.pointer (some ⟨v, 0, none⟩), .int .i64 (lev : Int), .int .i64 (sl9 : Int)] W' fun e w' => (∃ v, e = .returned v ∧ w'.ownsRow W'.heap.size 3 1 v (nums lr (lev * 64 + sl9)).length (numRow (nums lr (lev * 64 + sl9)))) ∧ Below W'.heap.size W' w') :=
    Lib.hid (fun lev sl9 h1 h2 W' hW => by
      obtain ⟨e1, e2, e3⟩ := h.vals (q := lev * 64 + sl9) (by omega)
      have := wat_e W' (h.below hW).x.wb (by omega) (fun e => intOf (S.val e 0)) lev sl9 h1 h2 e3
      rwa [e1, e2] at this)
  have HWB : Hid (∀ W', Below W.heap.size W W' → Calls Tryd.prog 19 #[.pointer (some ⟨v, 0, none⟩)] W' fun e w' => (∃ v, e = .returned v ∧ w'.ownsRow W'.heap.size 3 1 v (nums lr 256).length (numRow (nums lr 256))) ∧ Below W'.heap.size W' w') :=
    Lib.hid (fun W' hW => by
      obtain ⟨e1, e2, e3⟩ := h.vals (q := 256) (by omega)
      have := wbeyond_e W' (h.below hW).x.wb (by omega) (fun e => intOf (S.val e 0)) e3
      rwa [e1, e2] at this)
  have HOO := Lib.hid (And.intro hoo h.ql)
  have HNI := Lib.hid (And.intro hnI hcase)
  have HC := Lib.hid hcnt
  have HB0 := Lib.hid hbb.1.cells
  have hbl := hbb.1.lt
  obtain ⟨R, hR⟩ : ∃ R, R = rlst lr := ⟨_, rfl⟩
  rw [← hR] at hrn HNI
  have HRN := Lib.hid hrn
  clear hrn hnx hnI hcase hl1 hl2 hoo hbb h hcnt g0 g1 hR
  go_enter Tryd.func17, Tryd.ntmps17
  go_wp2_with fail
  refine (HNX.out W (Below.refl _ _)).mono ?_
  rintro r w1 ⟨rfl, k1⟩
  go_wp2_with fail
  refine (HRN.out w1 k1).mono ?_
  rintro r w1' ⟨rfl, rfl⟩
  have CB1 : Hid (∃ c t f, w1.heap[b]? = some (.cells c t f)) := Lib.hid (cells_of_cell (bel_cl k1 G.out.1))
  have K1 := Lib.hid k1
  clear k1
  go_upto_region 3 with fail
  go_cut [9, 10, 11, 12, 68] from 15 to 68 (fun _ _ _ _ bv wx => bv = .bool false ∧ Below W.heap.size W wx)
  case first =>
    have hfin : ∀ (w2 w3 : World), Below W.heap.size W w2 → w3 = w2 → True := fun _ _ _ _ => trivial
    have g0 : w1.cell? ⟨b, 0, none⟩ = some (.int .u64 (S.now : Int)) := bel_cl K1.out G.out.1
    have g1 : w1.cell? ⟨b, 1, none⟩ = some (.slice na lr.length nc) := bel_cl K1.out G.out.2
    have hbl1 := lt_of_cell g0
    clear hfin
    cases hR9 : R with
    | none =>
      have hn0 : nI = 0 ∧ eI = 6 := by
        have := HNI.out
        rw [hR9] at this
        refine ⟨this.1, this.2.elim (fun h9 => by cases h9.1) (fun h9 => h9.2)⟩
      obtain ⟨rfl, rfl⟩ := hn0
      clear hR9
      refine wp_region_text ([4], [9, 39]) [b] (by kernel_rfl) (by kernel_rfl) (cellsB_cons CB1.out cellsB_nil) (by simp [segs, isEff, isLoad, askOps, asks, ptrEq, eqOrNe, isNil]; rfl) ?_
      (repeat ((first | (refine segs_nil ?_) | (refine segs_go (stay_drew) ?_ ?_; focus (simp [isLoad]; done)) | (refine segs_load (stay_drew) ?_ ?_; focus (intro h; first | exact ⟨b, _, rfl, by simp⟩ | (simp [Region.wanted, yielded, undef] at h; done))) | fail); go_wp2_with fail))
      have H1 := Lib.hid ((H.out.below K1.out).still ((still_refl w1).drewN 1))
      refine (wnow_e _ H1.out.x.wb).mono ?_
      rintro r w2 ⟨rfl, rfl⟩
      go_wp2_with fail
      (repeat ((first | (refine segs_nil ?_) | (refine segs_go (stay_drew) ?_ ?_; focus (simp [isLoad]; done)) | (refine segs_load (stay_drew) ?_ ?_; focus (intro h; first | exact ⟨b, _, rfl, by simp⟩ | (simp [Region.wanted, yielded, undef] at h; done))) | fail); go_wp2_with fail))
      refine (wlen_e _ H1.out.x.wb).mono ?_
      rintro r w2 ⟨rfl, rfl⟩
      rw [HC.out]
      go_wp2_with fail
      (repeat ((first | (refine segs_nil ?_) | (refine segs_go (stay_drew) ?_ ?_; focus (simp [isLoad]; done)) | (refine segs_load (stay_drew) ?_ ?_; focus (intro h; first | exact ⟨b, _, rfl, by simp⟩ | (simp [Region.wanted, yielded, undef] at h; done))) | fail); go_wp2_with fail))
      refine (HWB.out _ (below_still K1.out ((still_refl w1).drewN 1) (Nat.le_refl _))).mono ?_
      rintro r w3 ⟨⟨v3, rfl, o3⟩, k3⟩
      have kk3 : Below w1.heap.size w1 w3 := (below_still (Below.refl _ w1) ((still_refl w1).drewN 1) (Nat.le_refl _)).trans k3
      have HS3 := Lib.hid (show StayB [b] w1 w3 from fun x9 hx9 => by
        simp only [List.mem_cons, List.not_mem_nil, or_false] at hx9
        subst hx9
        exact kk3.block _ hbl1)
      have KK3 := Lib.hid (K1.out.trans (kk3.mono K1.out.size))
      have O3 := Lib.hid o3
      obtain ⟨a3, c3, rfl⟩ := owns_slice o3
      clear o3 k3 kk3
      go_wp2_with fail
      (repeat ((first | (refine segs_nil ?_) | (refine segs_go (HS3.out) ?_ ?_; focus (simp [isLoad]; done)) | (refine segs_load (HS3.out) ?_ ?_; focus (intro h; first | exact ⟨b, _, rfl, by simp⟩ | (simp [Region.wanted, yielded, undef] at h; done))) | fail); go_wp2_with fail))
      refine (HRA.out 4 0 (by omega) (by omega) w3 KK3.out).mono ?_
      rintro r w4 ⟨⟨v4, rfl, o4⟩, k4⟩
      have HS4 := Lib.hid (show StayB [b] w1 w4 from fun x9 hx9 => by
        have hx8 := hx9
        simp only [List.mem_cons, List.not_mem_nil, or_false] at hx8
        subst hx8
        exact (k4.block _ (Nat.lt_of_lt_of_le hbl (Nat.le_trans KK3.out.size (Nat.le_refl _)))).trans (HS3.out _ hx9))
      have he := eq_rows O3.out k4 o4 (Below.refl _ _)
      have HE := Lib.hid he
      have KK4 := Lib.hid (KK3.out.trans (k4.mono KK3.out.size))
      obtain ⟨a4, c4, rfl⟩ := owns_slice o4
      clear o4 k4 he
      go_wp2_with fail
      (repeat ((first | (refine segs_nil ?_) | (refine segs_go (HS4.out) ?_ ?_; focus (simp [isLoad]; done)) | (refine segs_load (HS4.out) ?_ ?_; focus (intro h; first | exact ⟨b, _, rfl, by simp⟩ | (simp [Region.wanted, yielded, undef] at h; done))) | fail); go_wp2_with fail))
      refine HE.out.mono ?_
      rintro r w5 ⟨rfl, k5⟩
      have HS5 := Lib.hid (show StayB [b] w1 w5 from fun x9 hx9 => by
        have hx8 := hx9
        simp only [List.mem_cons, List.not_mem_nil, or_false] at hx8
        subst hx8
        exact (k5.block _ (Nat.lt_of_lt_of_le hbl KK4.out.size) (fun f => f)).trans (HS4.out _ hx9))
      have KK5 := Lib.hid (below_still KK4.out k5 (Nat.le_refl _))
      clear k5
      go_wp2_with fail
      (repeat ((first | (refine segs_nil ?_) | (refine segs_go (HS5.out) ?_ ?_; focus (simp [isLoad]; done)) | (refine segs_load (HS5.out) ?_ ?_; focus (intro h; first | exact ⟨b, _, rfl, by simp⟩ | (simp [Region.wanted, yielded, undef] at h; done))) | fail); go_wp2_with fail))
      go_meet
      case rel => exact ⟨rfl, KK5.out⟩

    | some M =>
      have hn0 : nI = (M : Int) ∧ eI = 0 := by
        have := HNI.out
        rw [hR9] at this
        refine ⟨this.1, this.2.elim (fun h9 => h9.2) (fun h9 => by cases h9.1)⟩
      obtain ⟨rfl, rfl⟩ := hn0
      clear hR9
      refine wp_region_text ([4], [9, 39]) [b] (by kernel_rfl) (by kernel_rfl) (cellsB_cons CB1.out cellsB_nil) (by simp [segs, isEff, isLoad, askOps, asks, ptrEq, eqOrNe, isNil]; rfl) ?_
      (repeat ((first | (refine segs_nil ?_) | (refine segs_go (stay_drew) ?_ ?_; focus (simp [isLoad]; done)) | (refine segs_load (stay_drew) ?_ ?_; focus (intro h; first | exact ⟨b, _, rfl, by simp⟩ | (simp [Region.wanted, yielded, undef] at h; done))) | fail); go_wp2_with fail))
      have H1 := Lib.hid ((H.out.below K1.out).still ((still_refl w1).drewN 1))
      refine (wnow_e _ H1.out.x.wb).mono ?_
      rintro r w2 ⟨rfl, rfl⟩
      go_wp2_with fail
      (repeat ((first | (refine segs_nil ?_) | (refine segs_go (stay_drew) ?_ ?_; focus (simp [isLoad]; done)) | (refine segs_load (stay_drew) ?_ ?_; focus (intro h; first | exact ⟨b, _, rfl, by simp⟩ | (simp [Region.wanted, yielded, undef] at h; done))) | fail); go_wp2_with fail))
      refine (wlen_e _ H1.out.x.wb).mono ?_
      rintro r w2 ⟨rfl, rfl⟩
      rw [HC.out]
      go_wp2_with fail
      (repeat ((first | (refine segs_nil ?_) | (refine segs_go (stay_drew) ?_ ?_; focus (simp [isLoad]; done)) | (refine segs_load (stay_drew) ?_ ?_; focus (intro h; first | exact ⟨b, _, rfl, by simp⟩ | (simp [Region.wanted, yielded, undef] at h; done))) | fail); go_wp2_with fail))
      refine (HWB.out _ (below_still K1.out ((still_refl w1).drewN 1) (Nat.le_refl _))).mono ?_
      rintro r w3 ⟨⟨v3, rfl, o3⟩, k3⟩
      have kk3 : Below w1.heap.size w1 w3 := (below_still (Below.refl _ w1) ((still_refl w1).drewN 1) (Nat.le_refl _)).trans k3
      have HS3 := Lib.hid (show StayB [b] w1 w3 from fun x9 hx9 => by
        simp only [List.mem_cons, List.not_mem_nil, or_false] at hx9
        subst hx9
        exact kk3.block _ hbl1)
      have KK3 := Lib.hid (K1.out.trans (kk3.mono K1.out.size))
      have O3 := Lib.hid o3
      obtain ⟨a3, c3, rfl⟩ := owns_slice o3
      clear o3 k3 kk3
      go_wp2_with fail
      (repeat ((first | (refine segs_nil ?_) | (refine segs_go (HS3.out) ?_ ?_; focus (simp [isLoad]; done)) | (refine segs_load (HS3.out) ?_ ?_; focus (intro h; first | exact ⟨b, _, rfl, by simp⟩ | (simp [Region.wanted, yielded, undef] at h; done))) | fail); go_wp2_with fail))
      refine (HRA.out 4 0 (by omega) (by omega) w3 KK3.out).mono ?_
      rintro r w4 ⟨⟨v4, rfl, o4⟩, k4⟩
      have HS4 := Lib.hid (show StayB [b] w1 w4 from fun x9 hx9 => by
        have hx8 := hx9
        simp only [List.mem_cons, List.not_mem_nil, or_false] at hx8
        subst hx8
        exact (k4.block _ (Nat.lt_of_lt_of_le hbl (Nat.le_trans KK3.out.size (Nat.le_refl _)))).trans (HS3.out _ hx9))
      have he := eq_rows O3.out k4 o4 (Below.refl _ _)
      have HE := Lib.hid he
      have KK4 := Lib.hid (KK3.out.trans (k4.mono KK3.out.size))
      obtain ⟨a4, c4, rfl⟩ := owns_slice o4
      clear o4 k4 he
      go_wp2_with fail
      (repeat ((first | (refine segs_nil ?_) | (refine segs_go (HS4.out) ?_ ?_; focus (simp [isLoad]; done)) | (refine segs_load (HS4.out) ?_ ?_; focus (intro h; first | exact ⟨b, _, rfl, by simp⟩ | (simp [Region.wanted, yielded, undef] at h; done))) | fail); go_wp2_with fail))
      refine HE.out.mono ?_
      rintro r w5 ⟨rfl, k5⟩
      have HS5 := Lib.hid (show StayB [b] w1 w5 from fun x9 hx9 => by
        have hx8 := hx9
        simp only [List.mem_cons, List.not_mem_nil, or_false] at hx8
        subst hx8
        exact (k5.block _ (Nat.lt_of_lt_of_le hbl KK4.out.size) (fun f => f)).trans (HS4.out _ hx9))
      have KK5 := Lib.hid (below_still KK4.out k5 (Nat.le_refl _))
      clear k5
      go_wp2_with fail
      (repeat ((first | (refine segs_nil ?_) | (refine segs_go (HS5.out) ?_ ?_; focus (simp [isLoad]; done)) | (refine segs_load (HS5.out) ?_ ?_; focus (intro h; first | exact ⟨b, _, rfl, by simp⟩ | (simp [Region.wanted, yielded, undef] at h; done))) | fail); go_wp2_with fail))
      go_meet
      case rel => exact ⟨rfl, KK5.out⟩

  case rest =>
    obtain ⟨rfl, kc⟩ := hcut
    have KC := Lib.hid kc
    clear kc CB1 K1
    go_wp2_with fail
    go_loopw [13, 14] (fun iv _ wr => ∃ j : Nat, j ≤ lr.length ∧ iv = .int .i64 j ∧ Below W.heap.size W wr) (fun iv _ _ => lr.length - (intOf iv).toNat)
    case atStart => exact ⟨0, Nat.zero_le _, rfl, KC.out⟩
    case round =>
      obtain ⟨j, hj, rfl, hbel⟩ := hrel
      have HBL := Lib.hid hbel
      have g1 : wr.cell? ⟨b, 1, none⟩ = some (.slice na lr.length nc) := bel_cl hbel G.out.2
      clear hbel
      by_cases hjl : j < lr.length
      · obtain ⟨x, hx⟩ : ∃ x, lr[j]? = some x := ⟨_, List.getElem?_eq_getElem hjl⟩
        have hxq := HOO.out.2 x (List.mem_of_getElem? hx)
        obtain ⟨g, cap, hv9, hg1, hg2, -, -, hg5, hg6⟩ := HOO.out.1.row_at (by omega)
        simp only [Value.slice.injEq, true_and] at hv9
        obtain ⟨rfl, rfl⟩ := hv9
        have hce : ∀ i, i < 4 → wr.cell? ⟨g, j * 4 + i, none⟩ = x.cl[i]? := fun i hi => (HBL.out.cell (p := ⟨g, j * 4 + i, none⟩) hg2).trans ((hg6 (j * 4 + i) (by omega)).trans (cellsR_at lr j x i hx hi))
        have d0 : wr.cell? ⟨g, j * 4, none⟩ = some (.int .i64 (x.n : Int)) := hce 0 (by omega)
        have d1 : wr.cell? ⟨g, j * 4 + 1, none⟩ = some (.int .u64 (x.d : Int)) := hce 1 (by omega)
        have d2 : wr.cell? ⟨g, j * 4 + 2, none⟩ = some (.int .i64 ((x.q / 64 : Nat) : Int)) := hce 2 (by omega)
        have d3 : wr.cell? ⟨g, j * 4 + 3, none⟩ = some (.int .i64 ((x.q % 64 : Nat) : Int)) := hce 3 (by omega)
        obtain ⟨p, hp⟩ : ∃ p, p = x.q / 64 := ⟨_, rfl⟩
        obtain ⟨r, hr⟩ : ∃ r, r = x.q % 64 := ⟨_, rfl⟩
        have hp5 : p < 5 := by omega
        have hr64 : r < 64 := by omega
        rw [← hp] at d2
        rw [← hr] at d3
        clear hce hg6 hg5 hx hp hr hxq hg1
        go_upto_region 9 with fail
        obtain ⟨X, hX⟩ : ∃ X, X = wr.heap.size := ⟨_, rfl⟩
        obtain ⟨w4, hw4⟩ : ∃ w4, w4 = wr.alloc (.cells #[.int .i64 (x.n : Int), .int .u64 (x.d : Int), .int .i64 (p : Int), .int .i64 (r : Int)] 54) := ⟨_, rfl⟩
        have k4 : Still wr w4 := by rw [hw4]; exact (still_refl wr).alloc _
        have b4 : Blk w4 X #[.int .i64 (x.n : Int), .int .u64 (x.d : Int), .int .i64 (p : Int), .int .i64 (r : Int)] 54 := by rw [hw4, hX]; exact Blk.new _ _ _
        rw [← hw4, ← hX]
        have x2 : w4.cell? ⟨X, 2, none⟩ = some (.int .i64 (p : Int)) := b4.cell 2
        have x3 : w4.cell? ⟨X, 3, none⟩ = some (.int .i64 (r : Int)) := b4.cell 3
        have CX := Lib.hid b4.cells
        have hXl := b4.lt
        have K4 := Lib.hid (below_still HBL.out k4 (Nat.le_refl _))
        clear hw4 k4 b4 hX d0 d1 d2 d3 g1
        refine wp_region_text ([4], [9, 39]) [X] (by kernel_rfl) (by kernel_rfl) (cellsB_cons CX.out cellsB_nil) (by simp [segs, isEff, isLoad, askOps, asks, ptrEq, eqOrNe, isNil]; rfl) ?_
        by_cases hp4 : p < 4
        · have hpb : decide (p < 4) = true := decide_eq_true hp4
          (repeat ((first | (refine segs_nil ?_) | (refine segs_go (stay_drew) ?_ ?_; focus (simp [isLoad]; done)) | (refine segs_load (stay_drew) ?_ ?_; focus (intro h; first | exact ⟨X, _, rfl, by simp⟩ | (simp [Region.wanted, yielded, undef] at h; done))) | fail); go_wp2_with fail))
          refine (HWA.out p r hp4 hr64 _ (below_still K4.out ((still_refl w4).drewN 1) (Nat.le_refl _))).mono ?_
          rintro e w5 ⟨⟨v5, rfl, o5⟩, k5⟩
          have kk5 : Below w4.heap.size w4 w5 := (below_still (Below.refl _ w4) ((still_refl w4).drewN 1) (Nat.le_refl _)).trans k5
          have HS5 := Lib.hid (show StayB [X] w4 w5 from fun x9 hx9 => by
            simp only [List.mem_cons, List.not_mem_nil, or_false] at hx9
            subst hx9
            exact kk5.block _ hXl)
          have K5 := Lib.hid (K4.out.trans (kk5.mono K4.out.size))
          have O5 := Lib.hid o5
          have hXl5 : X < w5.heap.size := Nat.lt_of_lt_of_le hXl kk5.size
          have y2 := bel_cl kk5 x2
          have y3 := bel_cl kk5 x3
          obtain ⟨a5, c5, rfl⟩ := owns_slice o5
          clear o5 k5 kk5 x2 x3
          go_wp2_with fail
          (repeat ((first | (refine segs_nil ?_) | (refine segs_go (HS5.out) ?_ ?_; focus (simp [isLoad]; done)) | (refine segs_load (HS5.out) ?_ ?_; focus (intro h; first | exact ⟨X, _, rfl, by simp⟩ | (simp [Region.wanted, yielded, undef] at h; done))) | fail); go_wp2_with fail))
          refine (HRA.out p r (by omega) hr64 w5 K5.out).mono ?_
          rintro e w6 ⟨⟨v6, rfl, o6⟩, k6⟩
          have HS6 := Lib.hid (show StayB [X] w4 w6 from fun x9 hx9 => by
            have hx8 := hx9
            simp only [List.mem_cons, List.not_mem_nil, or_false] at hx8
            subst hx8
            exact (k6.block _ hXl5).trans (HS5.out _ hx9))
          have he := eq_rows O5.out k6 o6 (Below.refl _ _)
          have HE := Lib.hid he
          have K6 := Lib.hid (K5.out.trans (k6.mono K5.out.size))
          have hXl6 : X < w6.heap.size := Nat.lt_of_lt_of_le hXl5 k6.size
          obtain ⟨a6, c6, rfl⟩ := owns_slice o6
          clear o6 k6 he y2 y3
          go_wp2_with fail
          (repeat ((first | (refine segs_nil ?_) | (refine segs_go (HS6.out) ?_ ?_; focus (simp [isLoad]; done)) | (refine segs_load (HS6.out) ?_ ?_; focus (intro h; first | exact ⟨X, _, rfl, by simp⟩ | (simp [Region.wanted, yielded, undef] at h; done))) | fail); go_wp2_with fail))
          refine HE.out.mono ?_
          rintro e w7 ⟨rfl, k7⟩
          have HS7 := Lib.hid (show StayB [X] w4 w7 from fun x9 hx9 => by
            have hx8 := hx9
            simp only [List.mem_cons, List.not_mem_nil, or_false] at hx8
            subst hx8
            exact (k7.block _ hXl6 (fun f => f)).trans (HS6.out _ hx9))
          have K7 := Lib.hid (below_still K6.out k7 (Nat.le_refl _))
          clear k7
          go_wp2_with fail
          (repeat ((first | (refine segs_nil ?_) | (refine segs_go (HS7.out) ?_ ?_; focus (simp [isLoad]; done)) | (refine segs_load (HS7.out) ?_ ?_; focus (intro h; first | exact ⟨X, _, rfl, by simp⟩ | (simp [Region.wanted, yielded, undef] at h; done))) | fail); go_wp2_with fail))
          go_roundw
          case rel => exact ⟨j + 1, by omega, by go_num, K7.out⟩
          case measure => simp [intOf]; omega
        · have hpb : decide (p < 4) = false := decide_eq_false hp4
          have K5 := Lib.hid (below_still K4.out ((still_refl w4).drewN 1) (Nat.le_refl _))
          (repeat ((first | (refine segs_nil ?_) | (refine segs_go (stay_drew) ?_ ?_; focus (simp [isLoad]; done)) | (refine segs_load (stay_drew) ?_ ?_; focus (intro h; first | exact ⟨X, _, rfl, by simp⟩ | (simp [Region.wanted, yielded, undef] at h; done))) | fail); go_wp2_with fail))
          go_roundw
          case rel => exact ⟨j + 1, by omega, by go_num, K5.out⟩
          case measure => simp [intOf]; omega
      · obtain rfl : j = lr.length := by omega
        by_cases hok : 0 ≤ level ∧ level ≤ 3 ∧ 0 ≤ slot ∧ slot ≤ 63
        · obtain ⟨o1, o2, o3, o4⟩ := hok
          obtain ⟨L, rfl⟩ : ∃ L : Nat, level = L := ⟨level.toNat, by omega⟩
          obtain ⟨K, rfl⟩ : ∃ K : Nat, slot = K := ⟨slot.toNat, by omega⟩
          have hL3 : decide (3 < L) = false := decide_eq_false (by omega)
          have hK63 : decide (63 < K) = false := decide_eq_false (by omega)
          have hL4 : L < 4 := by omega
          have hK4 : K < 64 := by omega
          clear o1 o2 o3 o4
          go_wp2_with fail
          refine (HWA.out L K hL4 hK4 _ HBL.out).mono ?_
          rintro e w5 ⟨⟨v5, rfl, o5⟩, k5⟩
          have K5 := Lib.hid (HBL.out.trans (k5.mono HBL.out.size))
          have O5 := Lib.hid o5
          obtain ⟨a5, c5, rfl⟩ := owns_slice o5
          clear o5 k5
          go_wp2_with fail
          refine (HRA.out L K (by omega) hK4 w5 K5.out).mono ?_
          rintro e w6 ⟨⟨v6, rfl, o6⟩, k6⟩
          have he := eq_rows O5.out k6 o6 (Below.refl _ _)
          have HE := Lib.hid he
          have K6 := Lib.hid (K5.out.trans (k6.mono K5.out.size))
          obtain ⟨a6, c6, rfl⟩ := owns_slice o6
          clear o6 k6 he
          go_wp2_with fail
          refine HE.out.mono ?_
          rintro e w7 ⟨rfl, k7⟩
          go_wp2_with fail
          go_ret
          exact ⟨rfl, below_still K6.out k7 (Nat.le_refl _)⟩
        · by_cases o1 : level < 0
          · go_wp2_with fail
            refine (wat_out_e v level slot wr (by omega)).mono ?_
            rintro e w5 ⟨rfl, rfl⟩
            go_wp2_with fail
            go_ret
            exact ⟨rfl, HBL.out⟩
          · by_cases o2 : 3 < level
            · go_wp2_with fail
              refine (wat_out_e v level slot wr (by omega)).mono ?_
              rintro e w5 ⟨rfl, rfl⟩
              go_wp2_with fail
              go_ret
              exact ⟨rfl, HBL.out⟩
            · obtain ⟨L, rfl⟩ : ∃ L : Nat, level = L := ⟨level.toNat, by omega⟩
              have hws := wat_slot_e wr (H.out.below HBL.out).x.wb L (by omega) slot (by omega)
              have HWS := Lib.hid hws
              clear hws
              have hL3 : decide ((3 : Int) < (L : Int)) = false := decide_eq_false (by omega)
              have hL0 : decide ((L : Int) < 0) = false := decide_eq_false (by omega)
              have hL4 : L < 4 := by omega
              by_cases o3 : slot < 0
              · clear o1 o2 hok
                go_wp2_with fail
                refine HWS.out.mono ?_
                rintro e w5 ⟨⟨v5, rfl, o5⟩, k5⟩
                obtain ⟨a5, c5, rfl⟩ := owns_slice o5
                go_wp2_with fail
                go_ret
                exact ⟨rfl, HBL.out.trans (k5.mono HBL.out.size)⟩
              · have o4 : 63 < slot := by omega
                clear hok
                go_wp2_with fail
                refine HWS.out.mono ?_
                rintro e w5 ⟨⟨v5, rfl, o5⟩, k5⟩
                obtain ⟨a5, c5, rfl⟩ := owns_slice o5
                go_wp2_with fail
                go_ret
                exact ⟨rfl, HBL.out.trans (k5.mono HBL.out.size)⟩
end Go.Proofs.YthinhbaklcijmaaDoor
