/-
  What stands here: all things of a pipe, told in their order. Under no condition but that the world holds it.
-/
import Derived.Test.YtlpmfiplcikfpaaPipeSee
import Derived.Test.YtlpmfiplcikfpaaRangeT
import Derived.Test.YtlpmfiplcikfpaaListIter
import Derived.Test.YtlpmfiplcikfpaaOwn
namespace Go.Proofs.Ytlpmfiplcikfpaa
set_option linter.unusedVariables false
set_option linter.unusedSimpArgs false
open Go.RowKit Go.Proofs
open Go.Conc
attribute [local go_sem] Oper.semAt_some

def encP_i (x : Int) : Array Value := #[.int .i64 x]
theorem buf_cons_i (x : Int) (l : List Int) : (((x :: l).map pv_i).toArray).getD 0 undef = .int .i64 x ∧ 0 < (((x :: l).map pv_i).toArray).size ∧ (((x :: l).map pv_i).toArray).extract 1 (((x :: l).map pv_i).toArray).size = (l.map pv_i).toArray := by
  refine ⟨by simp, by simp, ?_⟩
  apply Array.ext'
  simp
  exact List.take_of_length_le (by simp)
/-- what the iterator meets -/
structure QAll_i (s : LS) (bb p c l N : Nat) (xs : List Int) (W : World) : Prop where
  c0 : W.cell? ⟨bb, 0, none⟩ = some (.pointer (some ⟨p, 0, none⟩))
  c1 : W.cell? ⟨p, 0, none⟩ = some (.chan (some c))
  c2 : W.cell? ⟨p, 1, none⟩ = some (.pointer (some ⟨l, 0, none⟩))
  lw : LW_i s W
  kl : s.kd l = 1
  vals : valsOf_i s (s.sq l) = (xs.drop N).map pv_i
def rot_i (ys : List Int) (j : Nat) : Array Value := ((ys.drop j ++ ys.take j).map pv_i).toArray
set_option maxRecDepth 100000 in
set_option maxHeartbeats 4000000 in
theorem all1_i (n : Nat) (hn : 1 ≤ n) (s : LS) (bb p c l N : Nat) (xs : List Int) (hbig : xs.length < 100000) (hN : 1 ≤ N) :
    IterT Fence.wide n Try.prog 40 #[.pointer (some ⟨bb, 0, none⟩)] encP_i (fun ys => ys = xs) (fun pre => pre <+: xs) xs.length c (fun W => Chn W c N ((xs.take N).map pv_i).toArray) (fun _ W => QAll_i s bb p c l N xs W) := by
  intro li J W hT hQ hJ hY h0
  refine callsIn_wide.2 ?_
  obtain ⟨ys, hys⟩ : ∃ ys, ys = xs.take N := ⟨_, rfl⟩
  rw [← hys] at hT
  have HYS := Lib.hid hys
  have hyl : ys.length ≤ N := by rw [hys]; simp; omega
  have hyb : ys.length < 100000 := by rw [hys]; simp; omega
  clear hys
  have q0 := hQ [] _ W h0
  have c0 := q0.c0
  have c1 := q0.c1
  obtain ⟨sn, rn, hch⟩ := hT
  have hlen := fun ty => run_len_chan (P := Try.prog) 56 ty Try.underlying56 hch
  have hlen' : ∀ ty, (Builtin.len_ #[56] ty #[.chan (some c)]).run Try.prog W = .ok (.int .i64 ys.length) W := fun ty => by
    have := hlen ty
    simpa [goInt] using this
  have H0 := Lib.hid h0
  have HCH := Lib.hid hch
  clear q0 hlen h0 hch
  have HJ := Lib.hid hJ
  have HQ := Lib.hid hQ
  have HY := Lib.hid hY
  clear hJ hQ hY
  refine Calls.mono (R := fun e W' => (∃ v, e = .returned v) ∧ ∃ G, J xs G W' ∧ Chn W' c N (ys.map pv_i).toArray) ?_ (fun e W' h9 => by obtain ⟨h1, G, h2, h3⟩ := h9; exact ⟨h1, xs, G, rfl, h2, by rw [← HYS.out]; exact h3⟩)
  refine calls_of_fin Try.func40 rfl fun cs => ?_
  simp only [Try.ntmps40, List.size_toArray, List.length_cons, List.length_nil, Nat.reduceAdd, Nat.reduceSub, Array.replicate_succ, Array.replicate_zero, List.push_toArray, List.append_toArray, List.nil_append, List.cons_append]
  refine Fin.seq ?_
  refine Fin.code Try.func40 fun K hK => ?_
  go_wp2_with fail
  refine Fin.seq ?_
  refine Fin.code Try.func40 fun K hK => ?_
  go_wp2_with fail
  refine Fin.seq ?_
  refine Fin.seq ?_
  refine Fin.code Try.func40 fun K hK => ?_
  go_wp2_with fail
  refine Fin.block ?_
  refine Fin.loop ?_
  refine Fin.rounds (fun a w => ∃ (j : Nat) (G : Nat → Prop) (u4 u15 u16 u17 u18 u19 u20 u21 u22 u23 u24 u25 u26 u27 u28 u29 u30 u31 u32 : Value), j ≤ ys.length ∧ J (ys.take j) G w ∧ Chn w c N (rot_i ys j) ∧ a = { tmps := #[.func (.yield li) #[] #[], .pointer (some ⟨bb, 0, none⟩), undef, .bool true, u4, undef, undef, .pointer (some ⟨p, 0, none⟩), .bool false, .pointer (some ⟨p, 0, none⟩), .pointer (some ⟨p, 0, none⟩), .pointer (some ⟨p, 0, none⟩), .chan (some c), .int .i64 ys.length, .int .i64 j, u15, u16, u17, u18, u19, u20, u21, u22, u23, u24, u25, u26, u27, u28, u29, u30, u31, u32, undef, undef, undef, undef, undef, undef, undef, undef, undef, undef, undef, undef, undef, undef, undef, undef, undef, undef, undef], defers := [] }) (fun a => ys.length - (intOf (a.tmps.getD 14 undef)).toNat) ⟨0, _, _, _, _, _, _, _, _, _, _, _, _, _, _, _, _, _, _, _, _, Nat.zero_le _, H0.out, ⟨sn, rn, by unfold rot_i; simpa using HCH.out⟩, rfl⟩ ?_
  clear c0 c1 hlen' HCH H0 sn rn
  rintro _ w ⟨j, G, u4, u15, u16, u17, u18, u19, u20, u21, u22, u23, u24, u25, u26, u27, u28, u29, u30, u31, u32, hj, hjj, hch, rfl⟩ next
  refine Fin.seq ?_
  refine Fin.code Try.func40 fun K hK => ?_
  go_wp2_with fail
  have qw := HQ.out _ _ _ hjj
  by_cases hjl : j < ys.length
  · obtain ⟨x, hx⟩ : ∃ x, ys[j]? = some x := ⟨_, List.getElem?_eq_getElem hjl⟩
    have hdr : ys.drop j = x :: ys.drop (j + 1) := by
      rw [List.drop_eq_getElem_cons hjl]
      rw [List.getElem?_eq_getElem hjl] at hx
      rw [Option.some.inj hx]
    have htk : ys.take (j + 1) = ys.take j ++ [x] := by rw [List.take_add_one, hx]; rfl
    obtain ⟨b1, b2, b3⟩ := buf_cons_i x (ys.drop (j + 1) ++ ys.take j)
    obtain ⟨sn, rn, hc⟩ := hch
    have e1 : rot_i ys j = ((x :: (ys.drop (j + 1) ++ ys.take j)).map pv_i).toArray := by unfold rot_i; rw [hdr]; rfl
    rw [e1] at hc
    refine Fin.seq ?_
    refine Fin.cond (t := true) (by show Value.bool (decide (j < ys.length)) = _; rw [decide_eq_true hjl]) ?_
    refine Fin.skip ?_
    refine Fin.seq ?_
    refine Fin.block ?_
    refine Fin.seq ?_
    refine Fin.region ?_
    have c0 := qw.c0
    have c1 := qw.c1
    refine Fin.val (v := .pointer (some ⟨p, 0, none⟩)) rfl rfl (by simp [go_sem, execOp, Act.eval, c0]) ?_
    simp only [Act.put, List.setIfInBounds_toArray, List.set_cons_succ, List.set_cons_zero, List.getElem_toArray, List.getElem_cons_zero, List.getElem_cons_succ]
    refine Fin.val (v := .pointer (some ⟨p, 0, none⟩)) rfl rfl (by simp [go_sem, execOp, Act.eval, Act.put]) ?_
    simp only [Act.put, List.setIfInBounds_toArray, List.set_cons_succ, List.set_cons_zero, List.getElem_toArray, List.getElem_cons_zero, List.getElem_cons_succ]
    refine Fin.val (v := .pointer (some ⟨p, 0, none⟩)) rfl rfl (by simp [go_sem, execOp, Act.eval, Act.put]) ?_
    simp only [Act.put, List.setIfInBounds_toArray, List.set_cons_succ, List.set_cons_zero, List.getElem_toArray, List.getElem_cons_zero, List.getElem_cons_succ]
    refine Fin.val (v := .chan (some c)) rfl rfl (by simp [go_sem, execOp, Act.eval, Act.put, c1]) ?_
    simp only [Act.put, List.setIfInBounds_toArray, List.set_cons_succ, List.set_cons_zero, List.getElem_toArray, List.getElem_cons_zero, List.getElem_cons_succ]
    refine Fin.recv rfl rfl (c := c) (z := (.int .i64 0)) (by simp [go_sem, execOp, rcase, Act.eval]) hc b2 ?_
    rw [b1, b3]
    simp only [Act.put, List.setIfInBounds_toArray, List.set_cons_succ, List.set_cons_zero, List.getElem_toArray, List.getElem_cons_zero, List.getElem_cons_succ]
    refine Fin.val (v := .int .i64 x) rfl rfl (by simp [go_sem, execOp, Act.eval]) ?_
    simp only [Act.put, List.setIfInBounds_toArray, List.set_cons_succ, List.set_cons_zero, List.getElem_toArray, List.getElem_cons_zero, List.getElem_cons_succ]
    refine Fin.rend ?_
    have hcl := lt_of_block hc
    have o1 : Only c w (w.setChan c N ((ys.drop (j + 1) ++ ys.take j).map pv_i).toArray false sn (rn + 1) false) := kept_setChan (S := fun x => x = c) (Kept.refl _ _) (fun _ => rfl) _ _ _ _ _ _
    have hc1 : (w.setChan c N ((ys.drop (j + 1) ++ ys.take j).map pv_i).toArray false sn (rn + 1) false).heap[c]? = _ := heap_setChan _ _ _ _ _ _ _ _ hcl
    generalize w.setChan c N ((ys.drop (j + 1) ++ ys.take j).map pv_i).toArray false sn (rn + 1) false = w1 at *
    have hj1 := HJ.out _ _ _ _ hjj o1
    have qw1 := HQ.out _ _ _ hj1
    have d0 := qw1.c0
    have d1 := qw1.c1
    clear c0 c1 hc b1 b2 b3 e1
    refine Fin.seq ?_
    refine Fin.region ?_
    refine Fin.val (v := .pointer (some ⟨p, 0, none⟩)) rfl rfl (by simp [go_sem, execOp, Act.eval, d0]) ?_
    simp only [Act.put, List.setIfInBounds_toArray, List.set_cons_succ, List.set_cons_zero, List.getElem_toArray, List.getElem_cons_zero, List.getElem_cons_succ]
    refine Fin.val (v := .pointer (some ⟨p, 0, none⟩)) rfl rfl (by simp [go_sem, execOp, Act.eval, Act.put]) ?_
    simp only [Act.put, List.setIfInBounds_toArray, List.set_cons_succ, List.set_cons_zero, List.getElem_toArray, List.getElem_cons_zero, List.getElem_cons_succ]
    refine Fin.val (v := .pointer (some ⟨p, 0, none⟩)) rfl rfl (by simp [go_sem, execOp, Act.eval, Act.put]) ?_
    simp only [Act.put, List.setIfInBounds_toArray, List.set_cons_succ, List.set_cons_zero, List.getElem_toArray, List.getElem_cons_zero, List.getElem_cons_succ]
    refine Fin.val (v := .chan (some c)) rfl rfl (by simp [go_sem, execOp, Act.eval, Act.put, d1]) ?_
    simp only [Act.put, List.setIfInBounds_toArray, List.set_cons_succ, List.set_cons_zero, List.getElem_toArray, List.getElem_cons_zero, List.getElem_cons_succ]
    refine Fin.val (v := .int .i64 x) rfl rfl (by simp [go_sem, execOp, Act.eval]) ?_
    simp only [Act.put, List.setIfInBounds_toArray, List.set_cons_succ, List.set_cons_zero, List.getElem_toArray, List.getElem_cons_zero, List.getElem_cons_succ]
    refine Fin.send rfl rfl (c := c) (v := .int .i64 x) (z := .tuple #[]) (by simp [go_sem, execOp, scase, Act.eval]) hc1 (by simp; omega) ?_
    simp only [Act.put, List.setIfInBounds_toArray, List.set_cons_succ, List.set_cons_zero, List.getElem_toArray, List.getElem_cons_zero, List.getElem_cons_succ]
    refine Fin.rend ?_
    have o2 : Only c w1 (w1.setChan c N (((ys.drop (j + 1) ++ ys.take j).map pv_i).toArray.push (.int .i64 x)) false (sn + 1) (rn + 1) false) := kept_setChan (S := fun x => x = c) (Kept.refl _ _) (fun _ => rfl) _ _ _ _ _ _
    have hc2 : Chn (w1.setChan c N (((ys.drop (j + 1) ++ ys.take j).map pv_i).toArray.push (.int .i64 x)) false (sn + 1) (rn + 1) false) c N (rot_i ys (j + 1)) := ⟨sn + 1, rn + 1, by
      rw [heap_setChan _ _ _ _ _ _ _ _ (lt_of_block hc1)]
      unfold rot_i
      rw [htk, ← List.append_assoc, List.map_append, List.map_append]
      simp⟩
    generalize w1.setChan c N (((ys.drop (j + 1) ++ ys.take j).map pv_i).toArray.push (.int .i64 x)) false (sn + 1) (rn + 1) false = w2 at *
    have hj2 := HJ.out _ _ _ _ hj1 o2
    clear d0 d1 qw1 hc1 o1 o2
    have hpre : ys.take j ++ [x] <+: xs := by
      rw [← htk, HYS.out, List.take_take]
      exact List.take_prefix _ _
    obtain ⟨fn, tmps, assign, body, hy, hR⟩ := HY.out (ys.take j) _ x w2 hj2 hc2.lt hpre (by
      have : ys.length ≤ xs.length := by rw [HYS.out, List.length_take]; omega
      rw [List.length_take]; omega)
    dsimp only [encP_i] at hy
    have HRR := Lib.hid hR
    have HC2 := Lib.hid hc2
    have HTK := Lib.hid htk
    have NX := Lib.hid next
    clear hR hc2 htk next hpre hdr hx
    refine Fin.code Try.func40 fun K hK => ?_
    have hKK := Lib.hid hK
    clear hK
    refine (wpIn_wide (n := n)).1 ?_
    gi_wp2
    refine HRR.out.mono ?_
    rintro e W3 ⟨rfl, hJ3, hk3⟩
    gi_wp2
    refine hKK.out _ _ ?_
    refine Fin.inBlock ?_
    refine Fin.code Try.func40 fun K hK => ?_
    go_wp2_with fail
    refine NX.out _ _ ⟨j + 1, _, _, _, _, _, _, _, _, _, _, _, _, _, _, _, _, _, _, _, _, by omega, by rw [HTK.out]; exact hJ3, HC2.out.kept hk3 (fun h9 => h9.1 rfl), rfl⟩ ?_
    simp [intOf]
    omega
  · obtain rfl : j = ys.length := by omega
    obtain ⟨sn, rn, hc⟩ := hch
    have e1 : rot_i ys ys.length = (ys.map pv_i).toArray := by unfold rot_i; simp
    rw [e1] at hc
    rw [List.take_length] at hjj
    have HC := Lib.hid hc
    have QW := Lib.hid qw
    clear next hc e1 hjl hj
    refine Fin.seq ?_
    refine Fin.cond (t := false) (by show Value.bool (decide (ys.length < ys.length)) = _; rw [decide_eq_false (by omega)]) ?_
    refine Fin.exit rfl ?_
    have c0 := qw.c0
    have c2 := qw.c2
    have hsl : (s.sq l).length = xs.length - N := by
      have := congrArg List.length qw.vals
      simp [valsOf_i] at this
      exact this
    have hone : ∀ x, x ∈ s.sq l → ∃ v, (s.nd x).val = .int .i64 v := fun x hx => by
      have h9 : (s.nd x).val ∈ valsOf_i s (s.sq l) := List.mem_map.2 ⟨x, hx, rfl⟩
      rw [qw.vals] at h9
      obtain ⟨v, _, hv⟩ := List.mem_map.1 h9
      exact ⟨v, hv.symm⟩
    have hall := lallo_i s w qw.lw l qw.kl (by omega) hone
    rw [qw.vals, hsl] at hall
    have HALL := Lib.hid hall
    obtain ⟨zs, hzs⟩ : ∃ zs, zs = xs.drop N := ⟨_, rfl⟩
    have hzl : zs.length = xs.length - N := by rw [hzs, List.length_drop]
    have hxy : xs = ys ++ zs := by rw [hzs, HYS.out, List.take_append_drop]
    rw [← hzs, ← hzl] at HALL
    have HXY := Lib.hid hxy
    have hzb : zs.length < 100000 := by omega
    clear hall hone hsl qw hzs hzl hxy
    refine Fin.seq ?_
    refine Fin.code Try.func40 fun K hK => ?_
    go_wp2_with fail
    refine HALL.out.mono ?_
    rintro e w4 ⟨⟨v4, rfl, ho4⟩, k4⟩
    have o4 : Only c w w4 := (kept_of_below k4).mono fun y h1 h2 => absurd h2 (by omega)
    have hj4 := HJ.out _ _ _ _ hjj o4
    have hc4 : w4.heap[c]? = _ := (k4.block c (lt_of_block HC.out)).trans HC.out
    have r4 := VRow.inside (VRow.of_owns ho4)
    obtain ⟨a4, cp4, rfl⟩ := owns_slice ho4
    have HO4 := Lib.hid (r4.mono (R := fun b => w.heap.size ≤ b ∧ b < w4.heap.size) (fun b h => h))
    have HJ4 := Lib.hid hj4
    have HC4 := Lib.hid hc4
    clear ho4 o4 hj4 hc4 r4
    go_wp2_with fail
    obtain ⟨G4, hG4⟩ : ∃ G4 : Nat → Prop, G4 = fun k => G k ∨ (w.heap.size ≤ k ∧ k < w4.heap.size) := ⟨_, rfl⟩
    rw [← hG4] at HJ4
    have hGi : ∀ b, w.heap.size ≤ b ∧ b < w4.heap.size → G4 b := fun b hb => by rw [hG4]; exact .inr hb
    have HGI := Lib.hid hGi
    clear hG4 hGi k4 c0 c2 HALL hjj
    refine Fin.block ?_
    refine Fin.loop ?_
    refine Fin.rounds (fun a wr => ∃ (k : Nat) (v6 v40 v41 v42 v43 v44 v45 v46 v47 v48 v49 v50 v51 : Value), k ≤ zs.length ∧ J (ys ++ zs.take k) G4 wr ∧ wr.heap[c]? = some (.chan N (ys.map pv_i).toArray false sn rn false) ∧ VRow (fun b => w.heap.size ≤ b ∧ b < w4.heap.size) wr (.slice a4 zs.length cp4) (zs.map pv_i) ∧ a = { tmps := #[.func (.yield li) #[] #[], .pointer (some ⟨bb, 0, none⟩), undef, .bool true, u4, undef, v6, .pointer (some ⟨p, 0, none⟩), .bool false, .pointer (some ⟨p, 0, none⟩), .pointer (some ⟨p, 0, none⟩), .pointer (some ⟨p, 0, none⟩), .chan (some c), .int .i64 ys.length, .int .i64 ys.length, .bool false, u16, u17, u18, u19, u20, u21, u22, u23, u24, u25, u26, u27, u28, u29, u30, u31, u32, .pointer (some ⟨p, 0, none⟩), .pointer (some ⟨p, 0, none⟩), .pointer (some ⟨p, 1, none⟩), .pointer (some ⟨l, 0, none⟩), .slice a4 zs.length cp4, .int .i64 zs.length, .int .i64 k, v40, v41, v42, v43, v44, v45, v46, v47, v48, v49, v50, v51], defers := [] }) (fun a => zs.length - (intOf (a.tmps.getD 39 undef)).toNat) ⟨0, _, _, _, _, _, _, _, _, _, _, _, _, _, Nat.zero_le _, by rw [List.take_zero, List.append_nil]; exact HJ4.out, HC4.out, HO4.out, (by try simp only [decide_eq_false (Nat.lt_irrefl ys.length)]; rfl)⟩ ?_
    rintro _ wr ⟨k, v6, v40, v41, v42, v43, v44, v45, v46, v47, v48, v49, v50, v51, hk, hjk, hck, hrk, rfl⟩ next
    refine Fin.seq ?_
    refine Fin.code Try.func40 fun K hK => ?_
    go_wp2_with fail
    refine Fin.seq ?_
    have HRK := Lib.hid hrk
    have HCK := Lib.hid hck
    by_cases hkl : k < zs.length
    · obtain ⟨z, hz⟩ : ∃ z, zs[k]? = some z := ⟨_, List.getElem?_eq_getElem hkl⟩
      have htk : zs.take (k + 1) = zs.take k ++ [z] := by rw [List.take_add_one, hz]; rfl
      obtain ⟨_, hl1, hl2, hcell⟩ := hrk.at_
      obtain ⟨b, o, rfl, hb, hq, hcc⟩ := hcell (by rw [List.length_map]; omega)
      have hck' := hcc k (by rw [List.length_map]; exact hkl)
      rw [List.getElem?_map, hz] at hck'
      replace hck' : wr.cell? ⟨b, o + k, none⟩ = some (.int .i64 z) := hck'
      have hix := run_indexAt_at (P := Try.prog) (t := 35) (a := some ⟨b, o, none⟩) (cap := cp4) (s := 1) rfl Try.underlying35 (fun _ => by kernel_rfl) hkl
      rw [Nat.mul_one] at hix
      have hpre : ys ++ zs.take k ++ [z] <+: xs := by
        rw [List.append_assoc, ← htk, HXY.out]
        exact (List.prefix_append_right_inj _).2 (List.take_prefix _ _)
      obtain ⟨fn, tmps, assign, body, hy, hR⟩ := HY.out (ys ++ zs.take k) _ z wr hjk (lt_of_block hck) hpre (by
        rw [HXY.out, List.length_append, List.length_append, List.length_take]; omega)
      dsimp only [encP_i] at hy
      have HRR := Lib.hid hR
      have HTK := Lib.hid htk
      have NX := Lib.hid next
      clear hR htk hpre hcc hcell hrk hck hz hl1 hl2 hjk next
      refine Fin.cond (t := true) (by show Value.bool (decide (k < zs.length)) = _; rw [decide_eq_true hkl]) ?_
      refine Fin.skip ?_
      refine Fin.seq ?_
      refine Fin.block ?_
      refine Fin.seq ?_
      refine Fin.region ?_
      refine Fin.val (v := .pointer (some ⟨b, o + k, none⟩)) rfl rfl (by simp [go_sem, execOp, Act.eval, hix]) ?_
      simp only [Act.put, List.setIfInBounds_toArray, List.set_cons_succ, List.set_cons_zero, List.getElem_toArray, List.getElem_cons_zero, List.getElem_cons_succ]
      refine Fin.val (v := .int .i64 z) rfl rfl (by simp [go_sem, execOp, Act.eval, Act.put, hck']) ?_
      simp only [Act.put, List.setIfInBounds_toArray, List.set_cons_succ, List.set_cons_zero, List.getElem_toArray, List.getElem_cons_zero, List.getElem_cons_succ]
      refine Fin.val (v := .int .i64 z) rfl rfl (by simp [go_sem, execOp, Act.eval, Act.put]) ?_
      simp only [Act.put, List.setIfInBounds_toArray, List.set_cons_succ, List.set_cons_zero, List.getElem_toArray, List.getElem_cons_zero, List.getElem_cons_succ]
      refine Fin.rend ?_
      refine Fin.code Try.func40 fun K hK => ?_
      have hKK := Lib.hid hK
      clear hK
      refine (wpIn_wide (n := n)).1 ?_
      gi_wp2
      refine HRR.out.mono ?_
      rintro e W3 ⟨rfl, hJ3, hk3⟩
      dsimp only
      gi_wp2
      refine hKK.out _ _ ?_
      refine Fin.inBlock ?_
      refine Fin.code Try.func40 fun K hK => ?_
      go_wp2_with fail
      refine NX.out _ _ ⟨k + 1, _, _, _, _, _, _, _, _, _, _, _, _, _, by omega, by rw [HTK.out, ← List.append_assoc]; exact hJ3, (hk3.block c (lt_of_block HCK.out) (fun h9 => h9.1 rfl)).trans HCK.out, HRK.out.keep hk3 (fun b hb hbl h9 => h9.2 (HGI.out b hb)), rfl⟩ ?_
      simp [intOf]
      omega
    · obtain rfl : k = zs.length := by omega
      rw [List.take_length, ← HXY.out] at hjk
      refine Fin.cond (t := false) (by show Value.bool (decide (zs.length < zs.length)) = _; rw [decide_eq_false (by omega)]) ?_
      refine Fin.exit rfl ?_
      refine Fin.stop Try.func40 ?_
      exact ⟨rfl, _, results_none rfl _ _ _, ⟨_, rfl⟩, ⟨G4, hjk⟩, sn, rn, HCK.out⟩
theorem all_of_i (p : Nat) (w : World) : Calls Try.prog 31 #[.pointer (some ⟨p, 0, none⟩)] w fun e w' => e = .returned (.func (.func 40) #[] #[.pointer (some ⟨w.heap.size, 0, none⟩)]) ∧ Still w w' ∧ Blk w' w.heap.size #[.pointer (some ⟨p, 0, none⟩)] 24 := by
  go_enter Try.func31, Try.ntmps31
  go_wp2
  go_ret
  exact ⟨rfl, by (repeat (first | (with_reducible exact Kept.refl _ _) | (with_reducible refine Kept.drewN ?_ _) | (with_reducible refine Kept.drew ?_) | (with_reducible refine Kept.put ?_ _ _) | (with_reducible refine Kept.alloc ?_ _))), Blk.new _ _ _⟩
set_option maxHeartbeats 1000000 in
set_option maxRecDepth 100000 in
theorem pall_i {s : LS} {p c l N : Nat} {xs : List Int} {most : Nat} {shut : Bool} (w : World) (h : PW_i s w p c l N xs most shut) (hbig : xs.length < 100000) :
    Calls Try.prog 16 #[.pointer (some ⟨p, 0, none⟩)] w fun e w' => (∃ v, e = .returned v ∧ w'.ownsRow w.heap.size 3 1 v xs.length (xs.map pv_i)) ∧ PW_i s w' p c l N xs most shut ∧ Kept (fun y => y = c) w w' := by
  obtain ⟨i0, hi, hz0, hz1, hz2⟩ := info_parts infoElem_i
  have hpw := h.blk.lt
  have hcw := h.ch.lt
  have hpc := h.pc
  refine (callsIn_wide (n := 4)).1 ?_
  refine callsIn_of_wp_marks Try.func16 rfl trivial ?_ rfl
  simp only [Try.ntmps16, List.size_toArray, List.length_cons, List.length_nil, Nat.reduceAdd, Nat.reduceSub, Array.replicate_succ, Array.replicate_zero, List.push_toArray, List.append_toArray, List.nil_append, List.cons_append]
  gi_wp2_with fail
  refine ⟨trivial, callsIn_wide.2 ((all_of_i p _).mono ?_)⟩
  rintro e w1 ⟨rfl, k1, b1⟩
  have bR0 : Blk w1 w.heap.size #[.slice none 0 0] 35 := (Blk.new w _ _).still k1
  have kw : Kept (fun y => y = c ∨ w.heap.size ≤ y) w w1 := (((Kept.refl (fun y => y = c ∨ w.heap.size ≤ y) w).alloc _)).of_still k1
  rw [World.size_alloc] at *
  have z1 := b1.lt
  gi_wp2_with fail
  have H := Lib.hid h
  have hch1 : Chn w1 c N ((xs.take N).map pv_i).toArray := h.ch.kept (((Kept.refl (fun _ => False) w).alloc _).of_still k1) (fun f => f)
  clear h
  refine wpIn_range_true (T := c) rfl (by omega) (gf := 40) (lb := #[.pointer (some ⟨w.heap.size + 1, 0, none⟩)]) rfl trivial (enters_of Try.func40 (by kernel_rfl) rfl)
    (all1_i 3 (by omega) s (w.heap.size + 1) p c l N xs hbig H.out.n1) (by omega) (fun W h9 => by obtain ⟨a, b, h8⟩ := hch1; exact ⟨a, b, h9.trans h8⟩) (fun _ => rfl)
    (fun pre G W => ∃ v, Blk W w.heap.size #[v] 35 ∧ W.ownsRow (w1.heap.size + 2) 3 1 v pre.length (pre.map pv_i) ∧ (∀ b, v.ownBlock = some b → ¬ G b) ∧ Kept (fun y => y = c ∨ w.heap.size ≤ y) w W ∧ Blk W (w.heap.size + 1) #[.pointer (some ⟨p, 0, none⟩)] 24 ∧ ∀ k, G k → k < W.heap.size)
    (fun pre G W h9 => by
      obtain ⟨v, _, _, _, h3, h4, _⟩ := h9
      have bp := H.out.blk.kept h3 (by omega)
      exact ⟨h4.cell 0, bp.cell 0, bp.cell 1, H.out.lw.kept h3 (fun x hx e => by
        rcases e with e | e
        · rw [e] at hx; exact hx H.out.sc
        · exact hx (H.out.lw.fresh x e)), H.out.kl, H.out.vals⟩)
    (fun pre G A B h9 k => by
      obtain ⟨v, h1, h2, h2', h3, h4, h5⟩ := h9
      have hlt := h1.lt
      have hsz9 := k.size
      refine ⟨v, h1.kept k (by omega), owns_kept h2 k (fun b hb hbl e => by omega), fun b hb => ?_, h3.step k (fun i hi e => by omega), h4.kept k (by omega), fun k hk => by
        rcases hk with hk | hk
        · have := h5 k hk; omega
        · exact hk.2⟩
      rintro (h5 | h5)
      · exact h2' b hb h5
      · have := owns_lt h2 b hb; omega)
    (fun pre G G' A hG h9 => by
      obtain ⟨v, h1, h2, h2', h3, h4, h5⟩ := h9
      exact ⟨v, h1, h2, fun b hb h5 => h2' b hb (hG b h5), h3, h4, fun k hk => h5 k (hG k hk)⟩)
    ⟨_, bR0, World.ownsRow_nil _ _ _ _, fun _ _ f => f, kw, b1, fun _ f => f.elim⟩
    (fun x => { tmps := #[.pointer (some ⟨p, 0, none⟩), undef, .slice none 0 0, .pointer (some ⟨w.heap.size, 0, none⟩), .int .i64 x, .pointer (some ⟨p, 0, none⟩), .func (.func 40) #[] #[.pointer (some ⟨w.heap.size + 1, 0, none⟩)], .int .i64 x, undef, undef, undef, undef, undef], defers := [] }) ?assign ?body ?tp ?done
  case assign =>
    intro l x W K hK
    simp only [encP_i]
    gi_wp2
    exact hK
  case body =>
    rintro l' pre G x W hsz hG ⟨v, hb, ho, hg, hw, hbb, hgl⟩ ⟨rest, he⟩ hpl
    have f0 := hb.free 0
    have c0 := hb.cell 0
    have c0' : W.cell? ⟨w.heap.size, 0, none⟩ = some v := c0
    have hoa : (W.alloc (.cells #[.int .i64 x] 3)).ownsRow (w1.heap.size + 2) 3 1 v pre.length (pre.map pv_i) := owns_kept ho ((Kept.refl (fun _ => False) W).alloc _) (fun _ _ _ f => f)
    have hbz' : w1.heap.size + 2 ≤ (W.alloc (.cells #[.int .i64 x] 3)).heap.size := by simp; omega
    clear c0
    gi_wp2_with (first | (gi_at_builtin; refine wpListIn_append _ rfl _ _ 35 rfl (w1.heap.size + 2) 3 i0 (.int .i64 0) 1 8 Try.underlying35 hi hz0 hz1 hz2 rfl (by decide) _ _ _ rfl (hoa) ⟨W.heap.size, 0, none⟩ 1 1 [.int .i64 x] rfl rfl (by intro j u hj; match j, hj with | 0, hj => simp at hj; subst hj; first | (simp [Addr.add]; done) | exact (Blk.newAt _ _ _ (by simp)).cell 0) (by intro u hu; simp at hu; subst hu; rfl) (by unfold maxLen; omega) (by omega) (by first | omega | (simp; omega) | simp) ?_) | fail)
    intro v' w2 hap
    have hst : Still W (W.alloc (.cells #[.int .i64 x] 3)) := (still_refl W).alloc _
    have hk2 : Kept (fun k => v.ownBlock = some k) W w2 := (hst.mono (fun _ _ f => f.elim)).grown hap.grown (fun k e hk => e)
    have hvb := owns_block ho
    have hb2 := hb.kept hk2 (fun e => by have := hvb _ e; omega)
    have hbb2 := hbb.kept hk2 (fun e => by have := hvb _ e; omega)
    have f2 := hb2.free 0
    have c2 := hb2.cell 0
    have ho2 := hap.owns
    obtain ⟨a', c', rfl⟩ := owns_slice ho2
    have hblk := hap.block
    have HHG := Lib.hid hG
    have HGL := Lib.hid hgl
    clear hgl
    have HG := Lib.hid hg
    have HK2 := Lib.hid hk2
    have HO2 := Lib.hid ho2
    have HBL := Lib.hid hblk
    have HVB := Lib.hid hvb
    have HHW := Lib.hid hw
    have HB2 := Lib.hid hb2
    have HBB2 := Lib.hid hbb2
    clear hap hoa hG hg hk2 ho2 hblk hvb hw hst hb2 hbb2 hb hbb
    gi_wp2
    refine ⟨Kept.setCell (HK2.out.mono (fun k hkl e => ?_)) (fun _ => ?_) _, _, HB2.out.set 0 _, ?_, fun b hb h9 => ?_, ?_, ?_, fun k hk => ?_⟩
    · have := HVB.out _ e
      refine ⟨by omega, by omega, by omega, HG.out k e⟩
    · exact ⟨by simp only; omega, by simp only; omega, by simp only; omega, fun h9 => by have := HHG.out _ h9; simp only at this; omega⟩
    · rw [List.length_append, show (pre ++ [x]).map pv_i = pre.map pv_i ++ [.int .i64 x] by simp]
      exact owns_kept HO2.out (Kept.setCell (S := fun k => k = w.heap.size) (Kept.refl _ _) (fun _ => rfl) _) (by omega)
    · rcases HBL.out b hb with h8 | h8
      · exact HG.out b h8 h9
      · have := HGL.out b h9; simp at h8; omega
    · exact (HHW.out.step HK2.out (fun i hi e => .inr (by have := HVB.out _ e; omega))).step (Kept.setCell (S := fun k => k = w.heap.size) (Kept.refl _ _) (fun _ => rfl) _) (fun i hi e => .inr (by omega))
    · exact HBB2.out.other (by simp only; omega) _
    · have h8 := HGL.out k hk
      have h7 := HK2.out.size
      show k < (w2.setCell _ _).heap.size
      simp only [World.size_setCell]
      omega
  case tp => exact fun A B e h9 => by obtain ⟨a, b, h8⟩ := h9; exact ⟨a, b, e.trans h8⟩
  case done =>
    rintro ys G W hys ⟨v, hb, ho, hg, hw, hbb, _⟩ htp hK
    have c0 := hb.cell 0
    subst hys
    clear hg
    gi_wp2
    have hk3 := Kept.putObj (S := fun k => k = w1.heap.size) (l := w1.heap.size) (Kept.refl _ W) (.deferred none) rfl
    refine ⟨by simp, .inl ⟨_, _, rfl, run_takeDeferred hK, ?_⟩⟩
    have hwf := hw.step hk3 (fun i hi h => by omega)
    refine ⟨v, ?_, ⟨v, rfl, ?_⟩, ?_, ?_⟩
    · simp [results, Try.f16, go_sem]
    · exact owns_base (owns_kept ho hk3 (by omega)) (by omega)
    · exact ⟨H.out.blk.kept hwf (by omega), htp.kept hk3 (by omega), H.out.lw.kept hwf (fun x hx e => by
        rcases e with e | e
        · rw [e] at hx; exact hx H.out.sc
        · exact hx (H.out.lw.fresh x e)), H.out.kl, H.out.sp, H.out.sc, H.out.vals, H.out.n1⟩
    · exact hwf.mono (fun y hy e => by omega)

end Go.Proofs.Ytlpmfiplcikfpaa
