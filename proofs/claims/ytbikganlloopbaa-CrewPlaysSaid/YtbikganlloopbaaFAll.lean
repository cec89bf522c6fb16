/-
  What stands here: all firings of a pipe, told in their order. Under no condition but that the world holds it.
-/
import Derived.Test.YtbikganlloopbaaFPipe2
import Derived.Test.YtbikganlloopbaaFIter
import Derived.Test.YtbikganlloopbaaFinAny
import Derived.Test.YtbikganlloopbaaRangeT
namespace Go.Proofs.Ytbikganlloopbaa
set_option linter.unusedVariables false
set_option linter.unusedSimpArgs false
open Go.RowKit Go.Proofs
open Go.Conc
attribute [local go_sem] Oper.semAt_some
def encP_f (x : FiringV) : Array Value := #[x.v]
theorem buf_cons_f (x : FiringV) (l : List FiringV) : (((x :: l).map pv_f).toArray).getD 0 undef = x.v ∧ 0 < (((x :: l).map pv_f).toArray).size ∧ (((x :: l).map pv_f).toArray).extract 1 (((x :: l).map pv_f).toArray).size = (l.map pv_f).toArray := by
  refine ⟨by simp, by simp, ?_⟩
  apply Array.ext'
  simp
  exact List.take_of_length_le (by simp)
/-- what the iterator meets -/
structure QAll_f (s : LS) (bb p c l N : Nat) (xs : List FiringV) (W : World) : Prop where
  c0 : W.cell? ⟨bb, 0, none⟩ = some (.pointer (some ⟨p, 0, none⟩))
  c1 : W.cell? ⟨p, 0, none⟩ = some (.chan (some c))
  c2 : W.cell? ⟨p, 1, none⟩ = some (.pointer (some ⟨l, 0, none⟩))
  lw : LW_f s W
  kl : s.kd l = 1
  vals : valsOf_f s (s.sq l) = (xs.drop N).map pv_f
def rot_f (ys : List FiringV) (j : Nat) : Array Value := ((ys.drop j ++ ys.take j).map pv_f).toArray
set_option maxRecDepth 100000 in
set_option maxHeartbeats 4000000 in
theorem all1_f (n : Nat) (hn : 1 ≤ n) (s : LS) (bb p c l N : Nat) (xs : List FiringV) (hbig : xs.length < 100000) (hN : 1 ≤ N) :
    IterT Fence.wide n Try.prog 68 #[.pointer (some ⟨bb, 0, none⟩)] encP_f (fun ys => ys = xs) (fun pre => pre <+: xs) xs.length c (fun W => Chn W c N ((xs.take N).map pv_f).toArray) (fun _ W => QAll_f s bb p c l N xs W) := by
  intro li J W hT hQ hJ hY h0
  refine callsIn_wide.2 ?_
  obtain ⟨ys, hys⟩ : ∃ ys, ys = xs.take N := ⟨_, rfl⟩
  rw [← hys] at hT
  have HYS := Lib.hid hys
  have hyl : ys.length ≤ N := by rw [hys]; simp; omega
  have hyb : ys.length < 100000 := by rw [hys]; simp; omega
  clear hys
  have q0 := hQ [] _ W h0
  have c0 := q0.c0
  have c1 := q0.c1
  obtain ⟨sn, rn, hch⟩ := hT
  have hlen := fun ty => run_len_chan (P := Try.prog) 101 ty Try.underlying101 hch
  have hlen' : ∀ ty, (Builtin.len_ #[101] ty #[.chan (some c)]).run Try.prog W = .ok (.int .i64 ys.length) W := fun ty => by
    have := hlen ty
    simpa [goInt] using this
  have H0 := Lib.hid h0
  have HCH := Lib.hid hch
  clear q0 hlen h0 hch
  have HJ := Lib.hid hJ
  have HQ := Lib.hid hQ
  have HY := Lib.hid hY
  clear hJ hQ hY
  refine Calls.mono (R := fun e W' => (∃ v, e = .returned v) ∧ ∃ G, J xs G W' ∧ Chn W' c N (ys.map pv_f).toArray) ?_ (fun e W' h9 => by obtain ⟨h1, G, h2, h3⟩ := h9; exact ⟨h1, xs, G, rfl, h2, by rw [← HYS.out]; exact h3⟩)
  refine calls_of_fin Try.func68 rfl fun cs => ?_
  simp only [Try.ntmps68, List.size_toArray, List.length_cons, List.length_nil, Nat.reduceAdd, Nat.reduceSub, Array.replicate_succ, Array.replicate_zero, List.push_toArray, List.append_toArray, List.nil_append, List.cons_append]
  refine Fin.seq ?_
  refine Fin.code Try.func68 fun K hK => ?_
  go_wp2_with fail
  refine Fin.seq ?_
  refine Fin.code Try.func68 fun K hK => ?_
  go_wp2_with fail
  refine Fin.seq ?_
  refine Fin.seq ?_
  refine Fin.code Try.func68 fun K hK => ?_
  go_wp2_with fail
  refine Fin.block ?_
  refine Fin.loop ?_
  refine Fin.rounds (fun a w => ∃ (j : Nat) (G : Nat → Prop) (u4 u15 u16 u17 u18 u19 u20 u21 u22 u23 u24 u25 u26 u27 u28 u29 u30 u31 u32 : Value), j ≤ ys.length ∧ J (ys.take j) G w ∧ Chn w c N (rot_f ys j) ∧ a = { tmps := #[.func (.yield li) #[] #[], .pointer (some ⟨bb, 0, none⟩), undef, .bool true, u4, undef, undef, .pointer (some ⟨p, 0, none⟩), .bool false, .pointer (some ⟨p, 0, none⟩), .pointer (some ⟨p, 0, none⟩), .pointer (some ⟨p, 0, none⟩), .chan (some c), .int .i64 ys.length, .int .i64 j, u15, u16, u17, u18, u19, u20, u21, u22, u23, u24, u25, u26, u27, u28, u29, u30, u31, u32, undef, undef, undef, undef, undef, undef, undef, undef, undef, undef, undef, undef, undef, undef, undef, undef, undef, undef, undef], defers := [] }) (fun a => ys.length - (intOf (a.tmps.getD 14 undef)).toNat) ⟨0, _, _, _, _, _, _, _, _, _, _, _, _, _, _, _, _, _, _, _, _, Nat.zero_le _, H0.out, ⟨sn, rn, by unfold rot_f; simpa using HCH.out⟩, rfl⟩ ?_
  clear c0 c1 hlen' HCH H0 sn rn
  rintro _ w ⟨j, G, u4, u15, u16, u17, u18, u19, u20, u21, u22, u23, u24, u25, u26, u27, u28, u29, u30, u31, u32, hj, hjj, hch, rfl⟩ next
  refine Fin.seq ?_
  refine Fin.code Try.func68 fun K hK => ?_
  go_wp2_with fail
  have qw := HQ.out _ _ _ hjj
  by_cases hjl : j < ys.length
  · obtain ⟨x, hx⟩ : ∃ x, ys[j]? = some x := ⟨_, List.getElem?_eq_getElem hjl⟩
    have hdr : ys.drop j = x :: ys.drop (j + 1) := by
      rw [List.drop_eq_getElem_cons hjl]
      rw [List.getElem?_eq_getElem hjl] at hx
      rw [Option.some.inj hx]
    have htk : ys.take (j + 1) = ys.take j ++ [x] := by rw [List.take_add_one, hx]; rfl
    obtain ⟨b1, b2, b3⟩ := buf_cons_f x (ys.drop (j + 1) ++ ys.take j)
    obtain ⟨sn, rn, hc⟩ := hch
    have e1 : rot_f ys j = ((x :: (ys.drop (j + 1) ++ ys.take j)).map pv_f).toArray := by unfold rot_f; rw [hdr]; rfl
    rw [e1] at hc
    refine Fin.seq ?_
    refine Fin.cond (t := true) (by show Value.bool (decide (j < ys.length)) = _; rw [decide_eq_true hjl]) ?_
    refine Fin.skip ?_
    refine Fin.seq ?_
    refine Fin.block ?_
    refine Fin.seq ?_
    refine Fin.region ?_
    have c0 := qw.c0
    have c1 := qw.c1
    refine Fin.val (v := .pointer (some ⟨p, 0, none⟩)) rfl rfl (by simp [go_sem, execOp, Act.eval, c0]) ?_
    simp only [Act.put, List.setIfInBounds_toArray, List.set_cons_succ, List.set_cons_zero, List.getElem_toArray, List.getElem_cons_zero, List.getElem_cons_succ]
    refine Fin.val (v := .pointer (some ⟨p, 0, none⟩)) rfl rfl (by simp [go_sem, execOp, Act.eval, Act.put]) ?_
    simp only [Act.put, List.setIfInBounds_toArray, List.set_cons_succ, List.set_cons_zero, List.getElem_toArray, List.getElem_cons_zero, List.getElem_cons_succ]
    refine Fin.val (v := .pointer (some ⟨p, 0, none⟩)) rfl rfl (by simp [go_sem, execOp, Act.eval, Act.put]) ?_
    simp only [Act.put, List.setIfInBounds_toArray, List.set_cons_succ, List.set_cons_zero, List.getElem_toArray, List.getElem_cons_zero, List.getElem_cons_succ]
    refine Fin.val (v := .chan (some c)) rfl rfl (by simp [go_sem, execOp, Act.eval, Act.put, c1]) ?_
    simp only [Act.put, List.setIfInBounds_toArray, List.set_cons_succ, List.set_cons_zero, List.getElem_toArray, List.getElem_cons_zero, List.getElem_cons_succ]
    refine Fin.recv rfl rfl (c := c) (z := (.agg #[.int .u64 0, .int .u64 0, .int .u64 0, .int .u64 0])) (by simp [go_sem, execOp, rcase, Act.eval]) hc b2 ?_
    rw [b1, b3]
    simp only [Act.put, List.setIfInBounds_toArray, List.set_cons_succ, List.set_cons_zero, List.getElem_toArray, List.getElem_cons_zero, List.getElem_cons_succ]
    have hcl := lt_of_block hc
    have o1 : Only c w (w.setChan c N ((ys.drop (j + 1) ++ ys.take j).map pv_f).toArray false sn (rn + 1) false) := kept_setChan (S := fun x => x = c) (Kept.refl _ _) (fun _ => rfl) _ _ _ _ _ _
    have hc1 : (w.setChan c N ((ys.drop (j + 1) ++ ys.take j).map pv_f).toArray false sn (rn + 1) false).heap[c]? = _ := heap_setChan _ _ _ _ _ _ _ _ hcl
    generalize w.setChan c N ((ys.drop (j + 1) ++ ys.take j).map pv_f).toArray false sn (rn + 1) false = w1 at *
    clear c0 c1 hc b1 b2 b3 e1
    obtain ⟨X, hX⟩ : ∃ X, X = w1.heap.size := ⟨_, rfl⟩
    obtain ⟨wa, hwa⟩ : ∃ wa, wa = w1.alloc (.cells #[.int .u64 0, .int .u64 0, .int .u64 0, .int .u64 0] 40) := ⟨_, rfl⟩
    have ka : Still w1 wa := by rw [hwa]; exact (still_refl w1).alloc _
    have ba : Blk wa X #[.int .u64 0, .int .u64 0, .int .u64 0, .int .u64 0] 40 := by rw [hwa, hX]; exact Blk.new _ _ _
    obtain ⟨vi, vg, vd, vt⟩ := x
    obtain ⟨w2, hw2, k2, b2⟩ := boxf_set ba vi vg vd vt
    refine Fin.eff (v := .pointer (some ⟨X, 0, none⟩)) (w' := wa) rfl rfl (by rw [hwa, hX]; simp [go_sem, execOp, Act.eval]) ?_
    simp only [Act.put, List.setIfInBounds_toArray, List.set_cons_succ, List.set_cons_zero, List.getElem_toArray, List.getElem_cons_zero, List.getElem_cons_succ]
    have f0 := ba.free 0
    have f1 := ba.free 1
    have f2 := ba.free 2
    have f3 := ba.free 3
    have z0 : wa.cell? ⟨X, 0, none⟩ = some (.int .u64 0) := ba.cell 0
    have z1 : wa.cell? ⟨X, 1, none⟩ = some (.int .u64 0) := ba.cell 1
    have z2 : wa.cell? ⟨X, 2, none⟩ = some (.int .u64 0) := ba.cell 2
    have z3 : wa.cell? ⟨X, 3, none⟩ = some (.int .u64 0) := ba.cell 3
    refine Fin.void (w' := w2) rfl rfl (by rw [hw2]; simp [go_sem, execOp, Act.eval, Act.put, f0, f1, f2, f3, z0, z1, z2, z3]) ?_
    simp only [Act.put, List.setIfInBounds_toArray, List.set_cons_succ, List.set_cons_zero, List.getElem_toArray, List.getElem_cons_zero, List.getElem_cons_succ]
    refine Fin.rend ?_
    have k12 : Still w1 w2 := Kept.step ka k2 (fun i hi e => absurd hi (by omega))
    have o12 : Only c w w2 := o1.of_still k12
    have hj2 := HJ.out _ _ _ _ hjj o12
    have qw2 := HQ.out _ _ _ hj2
    have hc2 : w2.heap[c]? = _ := (k12.block c (lt_of_block hc1) (fun f => f)).trans hc1
    have d0 : w2.cell? ⟨bb, 0, none⟩ = some (.pointer (some ⟨p, 0, none⟩)) := qw2.c0
    have d1 : w2.cell? ⟨p, 0, none⟩ = some (.chan (some c)) := qw2.c1
    have y0 : w2.cell? ⟨X, 0, none⟩ = some (.int .u64 vi) := b2.cell 0
    have y1 : w2.cell? ⟨X, 1, none⟩ = some (.int .u64 vg) := b2.cell 1
    have y2 : w2.cell? ⟨X, 2, none⟩ = some (.int .u64 vd) := b2.cell 2
    have y3 : w2.cell? ⟨X, 3, none⟩ = some (.int .u64 vt) := b2.cell 3
    refine Fin.seq ?_
    refine Fin.region_draw (by kernel_rfl) ?_
    have hdr2 : ∀ b i v, w2.cell? ⟨b, i, none⟩ = some v → w2.drew.cell? ⟨b, i, none⟩ = some v := fun _ _ _ h => h
    replace d0 := hdr2 _ _ _ d0
    replace d1 := hdr2 _ _ _ d1
    replace y0 := hdr2 _ _ _ y0
    replace y1 := hdr2 _ _ _ y1
    replace y2 := hdr2 _ _ _ y2
    replace y3 := hdr2 _ _ _ y3
    apply fin_of
    · intro hF
      refine FinOK.one [0, 4] (by kernel_rfl) (by simp) ?_
      intro i hi
      simp only [List.mem_cons, List.not_mem_nil, or_false] at hi
      rcases hi with rfl | rfl
      · refine ⟨_, _, fun rest h => Fin.val (v := .pointer (some ⟨p, 0, none⟩)) rfl rfl (by simp [go_sem, execOp, Act.eval, Act.put, d0, d1, y0, y1, y2, y3]) h, ?_⟩
        simp only [Act.put, List.setIfInBounds_toArray, List.set_cons_succ, List.set_cons_zero, List.getElem_toArray, List.getElem_cons_zero, List.getElem_cons_succ]
        refine FinOK.one [1, 4] (by kernel_rfl) (by simp) ?_
        intro i hi
        simp only [List.mem_cons, List.not_mem_nil, or_false] at hi
        rcases hi with rfl | rfl
        · refine ⟨_, _, fun rest h => Fin.val (v := .pointer (some ⟨p, 0, none⟩)) rfl rfl (by simp [go_sem, execOp, Act.eval, Act.put, d0, d1, y0, y1, y2, y3]) h, ?_⟩
          simp only [Act.put, List.setIfInBounds_toArray, List.set_cons_succ, List.set_cons_zero, List.getElem_toArray, List.getElem_cons_zero, List.getElem_cons_succ]
          refine FinOK.one [2, 4] (by kernel_rfl) (by simp) ?_
          intro i hi
          simp only [List.mem_cons, List.not_mem_nil, or_false] at hi
          rcases hi with rfl | rfl
          · refine ⟨_, _, fun rest h => Fin.val (v := .pointer (some ⟨p, 0, none⟩)) rfl rfl (by simp [go_sem, execOp, Act.eval, Act.put, d0, d1, y0, y1, y2, y3]) h, ?_⟩
            simp only [Act.put, List.setIfInBounds_toArray, List.set_cons_succ, List.set_cons_zero, List.getElem_toArray, List.getElem_cons_zero, List.getElem_cons_succ]
            refine FinOK.one [3, 4] (by kernel_rfl) (by simp) ?_
            intro i hi
            simp only [List.mem_cons, List.not_mem_nil, or_false] at hi
            rcases hi with rfl | rfl
            · refine ⟨_, _, fun rest h => Fin.val (v := .chan (some c)) rfl rfl (by simp [go_sem, execOp, Act.eval, Act.put, d0, d1, y0, y1, y2, y3]) h, ?_⟩
              simp only [Act.put, List.setIfInBounds_toArray, List.set_cons_succ, List.set_cons_zero, List.getElem_toArray, List.getElem_cons_zero, List.getElem_cons_succ]
              refine FinOK.one [4] (by kernel_rfl) (by simp) ?_
              intro i hi
              simp only [List.mem_cons, List.not_mem_nil, or_false] at hi
              subst hi
              refine ⟨_, _, fun rest h => Fin.val (v := .agg #[.int .u64 vi, .int .u64 vg, .int .u64 vd, .int .u64 vt]) rfl rfl (by simp [go_sem, execOp, Act.eval, Act.put, d0, d1, y0, y1, y2, y3]) h, ?_⟩
              simp only [Act.put, List.setIfInBounds_toArray, List.set_cons_succ, List.set_cons_zero, List.getElem_toArray, List.getElem_cons_zero, List.getElem_cons_succ]
              exact hF
            · refine ⟨_, _, fun rest h => Fin.val (v := .agg #[.int .u64 vi, .int .u64 vg, .int .u64 vd, .int .u64 vt]) rfl rfl (by simp [go_sem, execOp, Act.eval, Act.put, d0, d1, y0, y1, y2, y3]) h, ?_⟩
              simp only [Act.put, List.setIfInBounds_toArray, List.set_cons_succ, List.set_cons_zero, List.getElem_toArray, List.getElem_cons_zero, List.getElem_cons_succ]
              refine FinOK.one [3] (by kernel_rfl) (by simp) ?_
              intro i hi
              simp only [List.mem_cons, List.not_mem_nil, or_false] at hi
              subst hi
              refine ⟨_, _, fun rest h => Fin.val (v := .chan (some c)) rfl rfl (by simp [go_sem, execOp, Act.eval, Act.put, d0, d1, y0, y1, y2, y3]) h, ?_⟩
              simp only [Act.put, List.setIfInBounds_toArray, List.set_cons_succ, List.set_cons_zero, List.getElem_toArray, List.getElem_cons_zero, List.getElem_cons_succ]
              exact hF
          · refine ⟨_, _, fun rest h => Fin.val (v := .agg #[.int .u64 vi, .int .u64 vg, .int .u64 vd, .int .u64 vt]) rfl rfl (by simp [go_sem, execOp, Act.eval, Act.put, d0, d1, y0, y1, y2, y3]) h, ?_⟩
            simp only [Act.put, List.setIfInBounds_toArray, List.set_cons_succ, List.set_cons_zero, List.getElem_toArray, List.getElem_cons_zero, List.getElem_cons_succ]
            refine FinOK.one [2] (by kernel_rfl) (by simp) ?_
            intro i hi
            simp only [List.mem_cons, List.not_mem_nil, or_false] at hi
            subst hi
            refine ⟨_, _, fun rest h => Fin.val (v := .pointer (some ⟨p, 0, none⟩)) rfl rfl (by simp [go_sem, execOp, Act.eval, Act.put, d0, d1, y0, y1, y2, y3]) h, ?_⟩
            simp only [Act.put, List.setIfInBounds_toArray, List.set_cons_succ, List.set_cons_zero, List.getElem_toArray, List.getElem_cons_zero, List.getElem_cons_succ]
            refine FinOK.one [3] (by kernel_rfl) (by simp) ?_
            intro i hi
            simp only [List.mem_cons, List.not_mem_nil, or_false] at hi
            subst hi
            refine ⟨_, _, fun rest h => Fin.val (v := .chan (some c)) rfl rfl (by simp [go_sem, execOp, Act.eval, Act.put, d0, d1, y0, y1, y2, y3]) h, ?_⟩
            simp only [Act.put, List.setIfInBounds_toArray, List.set_cons_succ, List.set_cons_zero, List.getElem_toArray, List.getElem_cons_zero, List.getElem_cons_succ]
            exact hF
        · refine ⟨_, _, fun rest h => Fin.val (v := .agg #[.int .u64 vi, .int .u64 vg, .int .u64 vd, .int .u64 vt]) rfl rfl (by simp [go_sem, execOp, Act.eval, Act.put, d0, d1, y0, y1, y2, y3]) h, ?_⟩
          simp only [Act.put, List.setIfInBounds_toArray, List.set_cons_succ, List.set_cons_zero, List.getElem_toArray, List.getElem_cons_zero, List.getElem_cons_succ]
          refine FinOK.one [1] (by kernel_rfl) (by simp) ?_
          intro i hi
          simp only [List.mem_cons, List.not_mem_nil, or_false] at hi
          subst hi
          refine ⟨_, _, fun rest h => Fin.val (v := .pointer (some ⟨p, 0, none⟩)) rfl rfl (by simp [go_sem, execOp, Act.eval, Act.put, d0, d1, y0, y1, y2, y3]) h, ?_⟩
          simp only [Act.put, List.setIfInBounds_toArray, List.set_cons_succ, List.set_cons_zero, List.getElem_toArray, List.getElem_cons_zero, List.getElem_cons_succ]
          refine FinOK.one [2] (by kernel_rfl) (by simp) ?_
          intro i hi
          simp only [List.mem_cons, List.not_mem_nil, or_false] at hi
          subst hi
          refine ⟨_, _, fun rest h => Fin.val (v := .pointer (some ⟨p, 0, none⟩)) rfl rfl (by simp [go_sem, execOp, Act.eval, Act.put, d0, d1, y0, y1, y2, y3]) h, ?_⟩
          simp only [Act.put, List.setIfInBounds_toArray, List.set_cons_succ, List.set_cons_zero, List.getElem_toArray, List.getElem_cons_zero, List.getElem_cons_succ]
          refine FinOK.one [3] (by kernel_rfl) (by simp) ?_
          intro i hi
          simp only [List.mem_cons, List.not_mem_nil, or_false] at hi
          subst hi
          refine ⟨_, _, fun rest h => Fin.val (v := .chan (some c)) rfl rfl (by simp [go_sem, execOp, Act.eval, Act.put, d0, d1, y0, y1, y2, y3]) h, ?_⟩
          simp only [Act.put, List.setIfInBounds_toArray, List.set_cons_succ, List.set_cons_zero, List.getElem_toArray, List.getElem_cons_zero, List.getElem_cons_succ]
          exact hF
      · refine ⟨_, _, fun rest h => Fin.val (v := .agg #[.int .u64 vi, .int .u64 vg, .int .u64 vd, .int .u64 vt]) rfl rfl (by simp [go_sem, execOp, Act.eval, Act.put, d0, d1, y0, y1, y2, y3]) h, ?_⟩
        simp only [Act.put, List.setIfInBounds_toArray, List.set_cons_succ, List.set_cons_zero, List.getElem_toArray, List.getElem_cons_zero, List.getElem_cons_succ]
        refine FinOK.one [0] (by kernel_rfl) (by simp) ?_
        intro i hi
        simp only [List.mem_cons, List.not_mem_nil, or_false] at hi
        subst hi
        refine ⟨_, _, fun rest h => Fin.val (v := .pointer (some ⟨p, 0, none⟩)) rfl rfl (by simp [go_sem, execOp, Act.eval, Act.put, d0, d1, y0, y1, y2, y3]) h, ?_⟩
        simp only [Act.put, List.setIfInBounds_toArray, List.set_cons_succ, List.set_cons_zero, List.getElem_toArray, List.getElem_cons_zero, List.getElem_cons_succ]
        refine FinOK.one [1] (by kernel_rfl) (by simp) ?_
        intro i hi
        simp only [List.mem_cons, List.not_mem_nil, or_false] at hi
        subst hi
        refine ⟨_, _, fun rest h => Fin.val (v := .pointer (some ⟨p, 0, none⟩)) rfl rfl (by simp [go_sem, execOp, Act.eval, Act.put, d0, d1, y0, y1, y2, y3]) h, ?_⟩
        simp only [Act.put, List.setIfInBounds_toArray, List.set_cons_succ, List.set_cons_zero, List.getElem_toArray, List.getElem_cons_zero, List.getElem_cons_succ]
        refine FinOK.one [2] (by kernel_rfl) (by simp) ?_
        intro i hi
        simp only [List.mem_cons, List.not_mem_nil, or_false] at hi
        subst hi
        refine ⟨_, _, fun rest h => Fin.val (v := .pointer (some ⟨p, 0, none⟩)) rfl rfl (by simp [go_sem, execOp, Act.eval, Act.put, d0, d1, y0, y1, y2, y3]) h, ?_⟩
        simp only [Act.put, List.setIfInBounds_toArray, List.set_cons_succ, List.set_cons_zero, List.getElem_toArray, List.getElem_cons_zero, List.getElem_cons_succ]
        refine FinOK.one [3] (by kernel_rfl) (by simp) ?_
        intro i hi
        simp only [List.mem_cons, List.not_mem_nil, or_false] at hi
        subst hi
        refine ⟨_, _, fun rest h => Fin.val (v := .chan (some c)) rfl rfl (by simp [go_sem, execOp, Act.eval, Act.put, d0, d1, y0, y1, y2, y3]) h, ?_⟩
        simp only [Act.put, List.setIfInBounds_toArray, List.set_cons_succ, List.set_cons_zero, List.getElem_toArray, List.getElem_cons_zero, List.getElem_cons_succ]
        exact hF

    refine FinOK.one [5] (by kernel_rfl) (by simp) ?_
    intro i hi
    simp only [List.mem_cons, List.not_mem_nil, or_false] at hi
    subst hi
    refine ⟨_, _, fun rest h => Fin.send rfl rfl (c := c) (v := .agg #[.int .u64 vi, .int .u64 vg, .int .u64 vd, .int .u64 vt]) (z := .tuple #[]) (by simp [go_sem, execOp, scase, Act.eval]) (show w2.drew.heap[c]? = _ from hc2) (by simp; omega) h, ?_⟩
    simp only [Act.put, List.setIfInBounds_toArray, List.set_cons_succ, List.set_cons_zero, List.getElem_toArray, List.getElem_cons_zero, List.getElem_cons_succ]
    refine FinOK.done ?_
    refine Fin.rend ?_
    have o2 : Only c w2 (w2.drew.setChan c N (((ys.drop (j + 1) ++ ys.take j).map pv_f).toArray.push (.agg #[.int .u64 vi, .int .u64 vg, .int .u64 vd, .int .u64 vt])) false (sn + 1) (rn + 1) false) := kept_setChan (S := fun x => x = c) ((Kept.refl _ w2).drewN 1) (fun _ => rfl) _ _ _ _ _ _
    have hc3 : Chn (w2.drew.setChan c N (((ys.drop (j + 1) ++ ys.take j).map pv_f).toArray.push (.agg #[.int .u64 vi, .int .u64 vg, .int .u64 vd, .int .u64 vt])) false (sn + 1) (rn + 1) false) c N (rot_f ys (j + 1)) := ⟨sn + 1, rn + 1, by
      rw [heap_setChan _ _ _ _ _ _ _ _ (show c < w2.drew.heap.size from lt_of_block hc2)]
      unfold rot_f
      rw [htk, ← List.append_assoc, List.map_append, List.map_append]
      simp⟩
    generalize w2.drew.setChan c N (((ys.drop (j + 1) ++ ys.take j).map pv_f).toArray.push (.agg #[.int .u64 vi, .int .u64 vg, .int .u64 vd, .int .u64 vt])) false (sn + 1) (rn + 1) false = w3 at *
    have hj3 := HJ.out _ _ _ _ hj2 o2
    have b3 := b2.kept o2 (by have := o1.size; show X ≠ c; omega)
    clear qw2 hc2 o2
    obtain ⟨x, hxe⟩ : ∃ x : FiringV, x = ⟨vi, vg, vd, vt⟩ := ⟨_, rfl⟩
    rw [← hxe] at hx htk hdr
    have HXE := Lib.hid hxe
    have HXX := Lib.hid hX
    have HWA := Lib.hid hwa
    have HW2 := Lib.hid hw2
    clear hX hwa hw2
    have hpre : ys.take j ++ [x] <+: xs := by
      rw [← htk, HYS.out, List.take_take]
      exact List.take_prefix _ _
    obtain ⟨fn, tmps, assign, body, hy, hR⟩ := HY.out (ys.take j) _ x w3 hj3 hc3.lt hpre (by
      have : ys.length ≤ xs.length := by rw [HYS.out, List.length_take]; omega
      rw [List.length_take]; omega)
    dsimp only [encP_f] at hy
    rw [hxe] at hy
    clear hxe
    have HRR := Lib.hid hR
    have HC2 := Lib.hid hc3
    have HTK := Lib.hid htk
    have NX := Lib.hid next
    have g0 : w3.cell? ⟨X, 0, none⟩ = some (.int .u64 vi) := b3.cell 0
    have g1 : w3.cell? ⟨X, 1, none⟩ = some (.int .u64 vg) := b3.cell 1
    have g2 : w3.cell? ⟨X, 2, none⟩ = some (.int .u64 vd) := b3.cell 2
    have g3 : w3.cell? ⟨X, 3, none⟩ = some (.int .u64 vt) := b3.cell 3
    clear hR hc3 htk next hpre hdr hx d0 d1 y0 y1 y2 y3 f0 f1 f2 f3 z0 z1 z2 z3
    refine Fin.code Try.func68 fun K hK => ?_
    have hKK := Lib.hid hK
    clear hK
    refine (wpIn_wide (n := n)).1 ?_
    gi_wp2
    refine HRR.out.mono ?_
    rintro e W3 ⟨rfl, hJ3, hk3⟩
    gi_wp2
    refine hKK.out _ _ ?_
    refine Fin.inBlock ?_
    refine Fin.code Try.func68 fun K hK => ?_
    go_wp2_with fail
    refine NX.out _ _ ⟨j + 1, _, _, _, _, _, _, _, _, _, _, _, _, _, _, _, _, _, _, _, _, by omega, by rw [HTK.out]; exact hJ3, HC2.out.kept hk3 (fun h9 => h9.1 rfl), rfl⟩ ?_
    simp [intOf]
    omega
  · obtain rfl : j = ys.length := by omega
    obtain ⟨sn, rn, hc⟩ := hch
    have e1 : rot_f ys ys.length = (ys.map pv_f).toArray := by unfold rot_f; simp
    rw [e1] at hc
    rw [List.take_length] at hjj
    have HC := Lib.hid hc
    have QW := Lib.hid qw
    clear next hc e1 hjl hj
    refine Fin.seq ?_
    refine Fin.cond (t := false) (by show Value.bool (decide (ys.length < ys.length)) = _; rw [decide_eq_false (by omega)]) ?_
    refine Fin.exit rfl ?_
    have c0 := qw.c0
    have c2 := qw.c2
    have hsl : (s.sq l).length = xs.length - N := by
      have := congrArg List.length qw.vals
      simp [valsOf_f] at this
      exact this
    have hall := lallo_f s w qw.lw l qw.kl (xs.drop N) qw.vals (by omega)
    have HALL := Lib.hid hall
    obtain ⟨zs, hzs⟩ : ∃ zs, zs = xs.drop N := ⟨_, rfl⟩
    have hzl : zs.length = xs.length - N := by rw [hzs, List.length_drop]
    have hxy : xs = ys ++ zs := by rw [hzs, HYS.out, List.take_append_drop]
    rw [← hzs] at HALL
    have HXY := Lib.hid hxy
    have hzb : zs.length < 100000 := by omega
    clear hall hsl qw hzs hzl hxy
    refine Fin.seq ?_
    refine Fin.code Try.func68 fun K hK => ?_
    go_wp2_with fail
    refine HALL.out.mono ?_
    rintro e w4 ⟨⟨v4, rfl, ho4⟩, k4⟩
    have o4 : Only c w w4 := (kept_of_below k4).mono fun y h1 h2 => absurd h2 (by omega)
    have hj4 := HJ.out _ _ _ _ hjj o4
    have hc4 : w4.heap[c]? = _ := (k4.block c (lt_of_block HC.out)).trans HC.out
    have r4 := FRow.inside (FRow.of_owns ho4)
    obtain ⟨a4, cp4, rfl⟩ := owns_slice ho4
    have HO4 := Lib.hid (r4.mono (R := fun b => w.heap.size ≤ b ∧ b < w4.heap.size) (fun b _ h => h))
    have HJ4 := Lib.hid hj4
    have HC4 := Lib.hid hc4
    clear ho4 o4 hj4 hc4 r4
    go_wp2_with fail
    obtain ⟨G4, hG4⟩ : ∃ G4 : Nat → Prop, G4 = fun k => G k ∨ (w.heap.size ≤ k ∧ k < w4.heap.size) := ⟨_, rfl⟩
    rw [← hG4] at HJ4
    have hGi : ∀ b, w.heap.size ≤ b ∧ b < w4.heap.size → G4 b := fun b hb => by rw [hG4]; exact .inr hb
    have HGI := Lib.hid hGi
    clear hG4 hGi k4 c0 c2 HALL hjj
    refine Fin.block ?_
    refine Fin.loop ?_
    refine Fin.rounds (fun a wr => ∃ (k : Nat) (G5 : Nat → Prop) (v6 v40 v41 v42 v43 v44 v45 v46 v47 v48 v49 v50 v51 : Value), k ≤ zs.length ∧ (∀ b, w.heap.size ≤ b ∧ b < w4.heap.size → G5 b) ∧ J (ys ++ zs.take k) G5 wr ∧ wr.heap[c]? = some (.chan N (ys.map pv_f).toArray false sn rn false) ∧ FRow (fun b => w.heap.size ≤ b ∧ b < w4.heap.size) wr (.slice a4 zs.length cp4) zs ∧ a = { tmps := #[.func (.yield li) #[] #[], .pointer (some ⟨bb, 0, none⟩), undef, .bool true, u4, undef, v6, .pointer (some ⟨p, 0, none⟩), .bool false, .pointer (some ⟨p, 0, none⟩), .pointer (some ⟨p, 0, none⟩), .pointer (some ⟨p, 0, none⟩), .chan (some c), .int .i64 ys.length, .int .i64 ys.length, .bool false, u16, u17, u18, u19, u20, u21, u22, u23, u24, u25, u26, u27, u28, u29, u30, u31, u32, .pointer (some ⟨p, 0, none⟩), .pointer (some ⟨p, 0, none⟩), .pointer (some ⟨p, 1, none⟩), .pointer (some ⟨l, 0, none⟩), .slice a4 zs.length cp4, .int .i64 zs.length, .int .i64 k, v40, v41, v42, v43, v44, v45, v46, v47, v48, v49, v50, v51], defers := [] }) (fun a => zs.length - (intOf (a.tmps.getD 39 undef)).toNat) ⟨0, G4, _, _, _, _, _, _, _, _, _, _, _, _, _, Nat.zero_le _, HGI.out, by rw [List.take_zero, List.append_nil]; exact HJ4.out, HC4.out, HO4.out, (by try simp only [decide_eq_false (Nat.lt_irrefl ys.length)]; rfl)⟩ ?_
    rintro _ wr ⟨k, G5, v6, v40, v41, v42, v43, v44, v45, v46, v47, v48, v49, v50, v51, hk, hG5, hjk, hck, hrk, rfl⟩ next
    have HG5 := Lib.hid hG5
    clear hG5
    refine Fin.seq ?_
    refine Fin.code Try.func68 fun K hK => ?_
    go_wp2_with fail
    refine Fin.seq ?_
    have HRK := Lib.hid hrk
    have HCK := Lib.hid hck
    by_cases hkl : k < zs.length
    · obtain ⟨z, hz⟩ : ∃ z, zs[k]? = some z := ⟨_, List.getElem?_eq_getElem hkl⟩
      have htk : zs.take (k + 1) = zs.take k ++ [z] := by rw [List.take_add_one, hz]; rfl
      obtain ⟨a', cp', hv', -, -, hcell⟩ := hrk
      simp only [Value.slice.injEq, true_and] at hv'
      obtain ⟨rfl, rfl⟩ := hv'
      obtain ⟨b, o, rfl, hb, hq, hcc⟩ := hcell (by omega)
      have r0 : wr.cell? ⟨b, o + k * 4, none⟩ = some (.int .u64 z.id) := hcc k z hz 0 (by omega)
      have r1 : wr.cell? ⟨b, o + k * 4 + 1, none⟩ = some (.int .u64 z.gen) := hcc k z hz 1 (by omega)
      have r2 : wr.cell? ⟨b, o + k * 4 + 2, none⟩ = some (.int .u64 z.dl) := hcc k z hz 2 (by omega)
      have r3 : wr.cell? ⟨b, o + k * 4 + 3, none⟩ = some (.int .u64 z.tick) := hcc k z hz 3 (by omega)
      have hix := run_indexAt_at (P := Try.prog) (t := 22) (a := some ⟨b, o, none⟩) (cap := cp4) (s := 4) rfl Try.underlying22 (fun _ => by kernel_rfl) hkl
      obtain ⟨X, hX⟩ : ∃ X, X = wr.heap.size := ⟨_, rfl⟩
      obtain ⟨wa, hwa⟩ : ∃ wa, wa = wr.alloc (.cells #[.int .u64 0, .int .u64 0, .int .u64 0, .int .u64 0] 40) := ⟨_, rfl⟩
      have ka : Still wr wa := by rw [hwa]; exact (still_refl wr).alloc _
      have ba : Blk wa X #[.int .u64 0, .int .u64 0, .int .u64 0, .int .u64 0] 40 := by rw [hwa, hX]; exact Blk.new _ _ _
      obtain ⟨w2, hw2, k2, b2⟩ := boxf_set ba z.id z.gen z.dl z.tick
      have k12 : Still wr w2 := Kept.step ka k2 (fun i hi e => absurd hi (by omega))
      have o12 : Only c wr w2 := k12.mono (fun _ _ f => f.elim)
      have hjk2 := HJ.out _ _ _ _ hjk o12
      have hck2 : w2.heap[c]? = _ := (k12.block c (lt_of_block hck) (fun f => f)).trans hck
      have f0 := ba.free 0
      have f1 := ba.free 1
      have f2 := ba.free 2
      have f3 := ba.free 3
      have z0 : wa.cell? ⟨X, 0, none⟩ = some (.int .u64 0) := ba.cell 0
      have z1 : wa.cell? ⟨X, 1, none⟩ = some (.int .u64 0) := ba.cell 1
      have z2 : wa.cell? ⟨X, 2, none⟩ = some (.int .u64 0) := ba.cell 2
      have z3 : wa.cell? ⟨X, 3, none⟩ = some (.int .u64 0) := ba.cell 3
      have hpre : ys ++ zs.take k ++ [z] <+: xs := by
        rw [List.append_assoc, ← htk, HXY.out]
        exact (List.prefix_append_right_inj _).2 (List.take_prefix _ _)
      obtain ⟨fn, tmps, assign, body, hy, hR⟩ := HY.out (ys ++ zs.take k) _ z w2 hjk2 (lt_of_block hck2) hpre (by
        rw [HXY.out, List.length_append, List.length_append, List.length_take]; omega)
      dsimp only [encP_f] at hy
      have HRR := Lib.hid hR
      have HTK := Lib.hid htk
      have NX := Lib.hid next
      have RR2 := Lib.hid (HRK.out.still k12)
      have HCK2 := Lib.hid hck2
      clear hR htk hpre hcc hcell hck hz hjk next hck2 hjk2 o12
      refine Fin.cond (t := true) (by show Value.bool (decide (k < zs.length)) = _; rw [decide_eq_true hkl]) ?_
      refine Fin.skip ?_
      refine Fin.seq ?_
      refine Fin.block ?_
      refine Fin.seq ?_
      refine Fin.region ?_
      refine Fin.val (v := .pointer (some ⟨b, o + k * 4, none⟩)) rfl rfl (by simp [go_sem, execOp, Act.eval, hix]) ?_
      simp only [Act.put, List.setIfInBounds_toArray, List.set_cons_succ, List.set_cons_zero, List.getElem_toArray, List.getElem_cons_zero, List.getElem_cons_succ]
      refine Fin.val (v := .agg #[.int .u64 z.id, .int .u64 z.gen, .int .u64 z.dl, .int .u64 z.tick]) rfl rfl (by simp [go_sem, execOp, Act.eval, Act.put, r0, r1, r2, r3]) ?_
      simp only [Act.put, List.setIfInBounds_toArray, List.set_cons_succ, List.set_cons_zero, List.getElem_toArray, List.getElem_cons_zero, List.getElem_cons_succ]
      refine Fin.eff (v := .pointer (some ⟨X, 0, none⟩)) (w' := wa) rfl rfl (by rw [hwa, hX]; simp [go_sem, execOp, Act.eval]) ?_
      simp only [Act.put, List.setIfInBounds_toArray, List.set_cons_succ, List.set_cons_zero, List.getElem_toArray, List.getElem_cons_zero, List.getElem_cons_succ]
      refine Fin.void (w' := w2) rfl rfl (by rw [hw2]; simp [go_sem, execOp, Act.eval, Act.put, f0, f1, f2, f3, z0, z1, z2, z3]) ?_
      simp only [Act.put, List.setIfInBounds_toArray, List.set_cons_succ, List.set_cons_zero, List.getElem_toArray, List.getElem_cons_zero, List.getElem_cons_succ]
      refine Fin.rend ?_
      have g0 : w2.cell? ⟨X, 0, none⟩ = some (.int .u64 z.id) := b2.cell 0
      have g1 : w2.cell? ⟨X, 1, none⟩ = some (.int .u64 z.gen) := b2.cell 1
      have g2 : w2.cell? ⟨X, 2, none⟩ = some (.int .u64 z.dl) := b2.cell 2
      have g3 : w2.cell? ⟨X, 3, none⟩ = some (.int .u64 z.tick) := b2.cell 3
      clear hX hwa hw2 k2 b2 ba ka k12 f0 f1 f2 f3 z0 z1 z2 z3 r0 r1 r2 r3 hix
      refine Fin.code Try.func68 fun K hK => ?_
      have hKK := Lib.hid hK
      clear hK
      refine (wpIn_wide (n := n)).1 ?_
      gi_wp2
      refine HRR.out.mono ?_
      rintro e W3 ⟨rfl, hJ3, hk3⟩
      dsimp only
      gi_wp2
      refine hKK.out _ _ ?_
      refine Fin.inBlock ?_
      refine Fin.code Try.func68 fun K hK => ?_
      go_wp2_with fail
      refine NX.out _ _ ⟨k + 1, (fun k => G5 k ∨ wr.heap.size ≤ k ∧ k < w2.heap.size), _, _, _, _, _, _, _, _, _, _, _, _, _, by omega, fun b hb => .inl (HG5.out b hb), by rw [HTK.out, ← List.append_assoc]; exact hJ3, (hk3.block c (lt_of_block HCK2.out) (fun h9 => h9.1 rfl)).trans HCK2.out, RR2.out.keep hk3 (fun b hb hbl h9 => h9.2 (.inl (HG5.out b hb))), rfl⟩ ?_
      simp [intOf]
      omega
    · obtain rfl : k = zs.length := by omega
      rw [List.take_length, ← HXY.out] at hjk
      refine Fin.cond (t := false) (by show Value.bool (decide (zs.length < zs.length)) = _; rw [decide_eq_false (by omega)]) ?_
      refine Fin.exit rfl ?_
      refine Fin.stop Try.func68 ?_
      exact ⟨rfl, _, results_none rfl _ _ _, ⟨_, rfl⟩, ⟨G5, hjk⟩, sn, rn, HCK.out⟩
end Go.Proofs.Ytbikganlloopbaa
