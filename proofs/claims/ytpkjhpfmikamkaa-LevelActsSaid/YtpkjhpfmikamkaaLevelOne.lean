/-
  What stands here: one level, or two, beside what else is there; new nodes. Under no condition but that the world holds them.
-/
import Derived.Test.YtpkjhpfmikamkaaLevelNew
namespace Go.Proofs.Ytpkjhpfmikamkaa
set_option linter.unusedVariables false
set_option linter.unusedSimpArgs false
open Go.RowKit Go.Proofs

theorem LvB_i.node {s : LS} {v : Nat} {sl : Nat → Nat} {W : World} {x : Nat} {o : Obj} (h : LvB_i s v sl W) (hl : LW_i s W) (hx : W.heap.size = x) (u : Value) : LvB_i (s.node x u) v sl (W.alloc o) := by
  have hv := h.lt
  refine h.carry ((still_refl W).alloc o) (fun f => f) (upd_ne _ _ (by omega)) (fun k hk => upd_ne _ _ ?_) (fun _ _ => rfl)
  have := (hl.lists _ (h.kl k hk)).lt
  omega
theorem LW_i.noList {s : LS} {W : World} (hl : LW_i s W) {x : Nat} (hx : W.heap.size ≤ x) {u : Value} : ∀ l', (s.node x u).kd l' = 1 → x ∉ (s.node x u).sq l' := fun l' h1 h2 => by
  have h1' : s.kd l' = 1 := by
    by_cases e : l' = x
    · have h9 : upd s.kd x 2 l' = 1 := h1
      rw [e, upd_same] at h9; omega
    · have h9 : upd s.kd x 2 l' = 1 := h1
      rwa [upd_ne _ _ e] at h9
  have := (hl.inv.mem l' x h1' h2).1
  rw [hl.fresh x hx] at this; cases this
/-- one level -/
structure LvI (base v : Nat) (sl : Nat → Nat) (s : LS) (w W : World) : Prop where
  lw : LW_i s W
  lv : LvB_i s v sl W
  bel : Below base w W
  low : ∀ y, y < base → s.kd y = 0
  le : base ≤ w.heap.size
  only : ∀ y, (∀ k, k < 64 → y ≠ sl k) → s.sq y = []
section
variable {base v : Nat} {sl : Nat → Nat} {s : LS} {w W : World}
theorem LvI.size (h : LvI base v sl s w W) : base ≤ W.heap.size := Nat.le_trans h.le h.bel.size
theorem LvI.start {s' : LS} {W W' : World} (h : LW_i LS.zero W) (hb : Below w.heap.size w W) (k : Still W W') (h1 : LW_i s' W') (h2 : LvB_i s' v sl W') (hn : ∀ y, y < W.heap.size → s'.kd y = LS.zero.kd y) (ho : ∀ y, (∀ k, k < 64 → y ≠ sl k) → s'.sq y = LS.zero.sq y) : LvI w.heap.size v sl s' w W' :=
  ⟨h1, h2, below_still hb k (Nat.le_refl _), fun y hy => by rw [hn y (Nat.lt_of_lt_of_le hy hb.size)]; rfl, Nat.le_refl _, fun y hy => by rw [ho y hy]; rfl⟩
theorem LvI.still (h : LvI base v sl s w W) {W' : World} (k : Still W W') : LvI base v sl s w W' := ⟨h.lw.still k, h.lv.still k, below_still h.bel k h.le, h.low, h.le, h.only⟩
theorem LvI.node (h : LvI base v sl s w W) {x : Nat} (hx : W.heap.size = x) (u : Value) : LvI base v sl (s.node x u) w (W.alloc (.cells #[u, .pointer none, .pointer none, .pointer none] 30)) :=
  ⟨h.lw.node u hx, h.lv.node h.lw hx u, below_still h.bel ((still_refl W).alloc _) h.le, fun y hy => by
    show upd s.kd x 2 y = 0
    have := h.size
    rw [upd_ne _ _ (by omega)]; exact h.low y hy, h.le, h.only⟩
theorem LvI.turn (h : LvI base v sl s w W) {s' : LS} {W' : World} {j : Nat} {ys : List Nat} (h1 : LW_i s' W') (h2 : LvB_i s' v sl W') (k : Kept (fun y => s.kd y = 1 ∨ s.kd y = 2 ∨ y = v) W W') (hk : s'.kd = s.kd) (hj : j < 64) (hq : s'.sq = upd s.sq (sl j) ys) : LvI base v sl s' w W' :=
  ⟨h1, h2, below_step h.bel k h.le (fun i hi h9 => by
    have := h.low i hi
    have h8 := h.lv.kv
    rcases h9 with h9 | h9 | h9
    · omega
    · omega
    · rw [← h9] at h8; omega), fun y hy => by rw [hk]; exact h.low y hy, h.le, fun y hy => by rw [hq, upd_ne _ _ (hy j hj)]; exact h.only y hy⟩
/-- is in no list -/
theorem LvI.no (h : LvI base v sl s w W) {x : Nat} (hx : ∀ k, k < 64 → x ∉ s.sq (sl k)) : ∀ l', s.kd l' = 1 → x ∉ s.sq l' := fun l' _ h2 => by
  by_cases e : ∃ k, k < 64 ∧ l' = sl k
  · obtain ⟨k, hk, rfl⟩ := e
    exact hx k hk h2
  · rw [h.only l' (fun k hk e9 => e ⟨k, hk, e9⟩)] at h2; cases h2
end
set_option maxHeartbeats 2000000 in
theorem alive_any (w : World) : Calls Try.prog 7 #[] w fun e w' => e = .returned (.bool true) ∧ Below w.heap.size w w' := by
  go_enter Try.func7, Try.ntmps7
  go_wp2_with fail
  refine (lvnew_i LS.zero w (LW_i.zero w)).mono ?_
  rintro e w1 ⟨rfl, k1, s1, sl, h1, b1, n1, g1, q1, o1, v1⟩
  have I1 := Lib.hid (LvI.start (LW_i.zero w) (Below.refl _ w) k1 h1 b1 n1 o1)
  have Q1 := Lib.hid q1
  have G1 := Lib.hid g1
  generalize hv : w.heap.size = v at *
  have HV := Lib.hid hv
  clear k1 h1 b1 n1 g1 q1 o1 v1 hv
  go_wp2_with fail
  have I2 := Lib.hid (I1.out.node rfl (.int .i64 1))
  have I3 := Lib.hid (I2.out.node rfl (.int .i64 2))
  have hx2 : (w1.alloc (.cells #[.int .i64 1, .pointer none, .pointer none, .pointer none] 30)).heap.size = w1.heap.size + 1 := by simp
  rw [hx2] at I3
  obtain ⟨s3, hs3⟩ : ∃ s3, s3 = (s1.node w1.heap.size (.int .i64 1)).node (w1.heap.size + 1) (.int .i64 2) := ⟨_, rfl⟩
  rw [← hs3] at I3
  generalize hx1 : w1.heap.size = x1 at *
  generalize hx2' : x1 + 1 = x2 at *
  have F3 := Lib.hid (show s3.kd x1 = 2 ∧ s3.kd x2 = 2 ∧ (∀ k, k < 64 → s3.sq (sl k) = []) from ⟨by rw [hs3]; show upd (upd s1.kd x1 2) x2 2 x1 = 2; rw [upd_ne _ _ (by omega), upd_same], by rw [hs3]; exact upd_same _ _ _, fun k hk => by rw [hs3]; exact Q1.out k hk⟩)
  have hxx : x1 ≠ x2 := by omega
  clear hs3 hx1 hx2' hx2 I2
  generalize (w1.alloc (.cells #[.int .i64 1, .pointer none, .pointer none, .pointer none] 30)).alloc (.cells #[.int .i64 2, .pointer none, .pointer none, .pointer none] 30) = w3 at *
  have inj := Lib.hid I3.out.lv.inj
  refine (lvput_i s3 v sl 3 x1 w3 I3.out.lw I3.out.lv (by omega) F3.out.1 (I3.out.no fun k hk => by rw [F3.out.2.2 k hk]; simp) (by rw [tot_zero (fun k hk => by rw [F3.out.2.2 k hk]; rfl)]; omega)).mono ?_
  rintro e w4 ⟨rfl, k4, s4, h4, b4, d4, q4, v4⟩
  have I4 := Lib.hid (I3.out.turn h4 b4 k4 d4 (by omega) q4)
  have hq4 : ∀ k, k < 64 → s4.sq (sl k) = if k = 3 then [x1] else [] := fun k hk => by
    rw [q4]
    by_cases e : k = 3
    · rw [e, upd_same, F3.out.2.2 3 (by omega), if_pos rfl]; rfl
    · rw [upd_ne _ _ (fun e9 => e (inj.out k 3 hk (by omega) e9)), F3.out.2.2 k hk, if_neg e]
  have Q4 := Lib.hid hq4
  have D4 := Lib.hid d4
  clear h4 b4 k4 d4 q4 v4 hq4
  go_wp2_with fail
  have ht4 : tot (fun k => (s4.sq (sl k)).length) < 1000000 := by
    have := tot_one (f := fun k => (s4.sq (sl k)).length) (g := fun _ => 0) (k := 3) (by omega) (fun k hk e => by rw [Q4.out k hk, if_neg e]; rfl)
    rw [Q4.out 3 (by omega), tot_zero (f := fun _ => 0) (fun _ _ => rfl)] at this
    simp at this
    omega
  refine (lvput_i s4 v sl 40 x2 w4 I4.out.lw I4.out.lv (by omega) (by rw [D4.out]; exact F3.out.2.1) (I4.out.no fun k hk => by rw [Q4.out k hk]; split <;> simp; omega) ht4).mono ?_
  rintro e w5 ⟨rfl, k5, s5, h5, b5, d5, q5, v5⟩
  have I5 := Lib.hid (I4.out.turn h5 b5 k5 d5 (by omega) q5)
  have hq5 : ∀ k, k < 64 → s5.sq (sl k) = if k = 40 then [x2] else if k = 3 then [x1] else [] := fun k hk => by
    rw [q5]
    by_cases e : k = 40
    · rw [e, upd_same, Q4.out 40 (by omega), if_pos rfl]; rfl
    · rw [upd_ne _ _ (fun e9 => e (inj.out k 40 hk (by omega) e9)), Q4.out k hk, if_neg e]
  have Q5 := Lib.hid hq5
  have D5 := Lib.hid (d5.trans D4.out)
  have T5 := Lib.hid (show tot (fun k => (s5.sq (sl k)).length) < 100000 by
    have := tot_one (f := fun k => (s5.sq (sl k)).length) (g := fun k => (s4.sq (sl k)).length) (k := 40) (by omega) (fun k hk e => by rw [hq5 k hk, Q4.out k hk, if_neg e])
    rw [hq5 40 (by omega), Q4.out 40 (by omega)] at this
    have h9 := tot_one (f := fun k => (s4.sq (sl k)).length) (g := fun _ => 0) (k := 3) (by omega) (fun k hk e => by rw [Q4.out k hk, if_neg e]; rfl)
    rw [Q4.out 3 (by omega), tot_zero (f := fun _ => 0) (fun _ _ => rfl)] at h9
    simp at this h9
    omega)
  clear h5 b5 k5 d5 q5 v5 hq5 ht4
  go_wp2_with fail
  refine (lvmap_i s5 v sl w5 I5.out.lv).mono ?_
  rintro e w6 ⟨u5, rfl, rfl, hu5⟩
  have U5 := Lib.hid (show u5 = withN (withN 0 3) 40 from hu5.unique (((UsedOk.zero (g := fun _ => []) (fun _ _ => rfl)).put (g' := fun k => if k = 3 then [x1] else []) (k := 3) (by omega) (by simp) (fun k hk e => if_neg e)).put (g' := fun k => if k = 40 then [x2] else if k = 3 then [x1] else []) (k := 40) (by omega) (by simp) (fun k hk e => if_neg e)) (fun k hk => by rw [Q5.out k hk]))
  clear hu5
  go_wp2_with fail
  refine (lvtake_i s5 v sl 3 w5 I5.out.lw I5.out.lv (by omega) T5.out).mono ?_
  rintro e w6 ⟨⟨r, rfl, ho6⟩, k6, s6, h6, b6, d6, q6, v6⟩
  rw [Q5.out 3 (by omega), if_neg (by omega), if_pos rfl] at ho6
  have I6 := Lib.hid (I5.out.turn h6 b6 k6 d6 (by omega) q6)
  have Q6 := Lib.hid (show ∀ k, k < 64 → s6.sq (sl k) = if k = 40 then [x2] else [] from fun k hk => by
    rw [q6]
    by_cases e : k = 3
    · subst e; rw [upd_same]; rfl
    · rw [upd_ne _ _ (fun e9 => e (inj.out k 3 hk (by omega) e9)), Q5.out k hk, if_neg e])
  have bx1 := I6.out.lw.nodes x1 (by rw [d6, D5.out]; exact F3.out.1)
  obtain ⟨g, cap, cur, rfl, hg, bG, hgc, hgm, hgs, hgt⟩ := owns_blk ho6 (by simp)
  have hg0 : w6.cell? ⟨g, 0, none⟩ = some (.pointer (some ⟨x1, 0, none⟩)) := by
    refine (bG.cell 0).trans ?_
    have h9 : (cur.toList.take 1)[0]? = some (.pointer (some ⟨x1, 0, none⟩)) := by rw [show cur.toList.take 1 = _ from hgt]; rfl
    rw [List.getElem?_take_of_lt (by omega)] at h9
    simpa using h9
  clear h6 b6 k6 d6 q6 v6 ho6 bG hgs hgt
  go_wp2_with fail
  refine (with_any 0 (by omega) 3 w6).mono ?_
  rintro e w7 ⟨rfl, rfl⟩
  go_wp2_with fail
  refine (with_any (withN 0 3) (withN_lt _ (by omega)) 40 w6).mono ?_
  rintro e w7 ⟨rfl, rfl⟩
  rw [U5.out]
  have heq := eq_ptr Try.underlying27 sizeNode_i bx1 bx1
  rw [show decide (x1 = x1) = true by simp] at heq
  go_wp2_with fail
  refine (lvmap_i s6 v sl w6 I6.out.lv).mono ?_
  rintro e w7 ⟨u6, rfl, rfl, hu6⟩
  have U6 : u6 = withN 0 40 := hu6.unique ((UsedOk.zero (g := fun _ => []) (fun _ _ => rfl)).put (g' := fun k => if k = 40 then [x2] else []) (k := 40) (by omega) (by simp) (fun k hk e => if_neg e)) (fun k hk => by rw [Q6.out k hk])
  rw [U6]
  clear hu6 U6
  go_wp2_with fail
  refine (with_any 0 (by omega) 40 w6).mono ?_
  rintro e w7 ⟨rfl, rfl⟩
  go_wp2_with fail
  go_ret
  exact ⟨rfl, by rw [HV.out]; exact I6.out.bel⟩
end Go.Proofs.Ytpkjhpfmikamkaa
