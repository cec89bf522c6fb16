/-
  What stands here: a pipe, and what its functions answer. Under no condition but that the world holds it.
-/
import Derived.Test.YtlpmfiplcikfpaaFin
import Derived.Test.YtlpmfiplcikfpaaListOps
import Derived.Deep.RegionWith
import Derived.Deep.CutRange
import Derived.Deep.CutBlock
namespace Go.Proofs.Ytlpmfiplcikfpaa
set_option linter.unusedVariables false
set_option linter.unusedSimpArgs false
open Go.RowKit Go.Proofs
open Go.Conc

abbrev pv_i : Int → Value := fun x => .int .i64 x
/-- a pipe: its things, in order -/
structure PW_i (s : LS) (W : World) (p c l N : Nat) (xs : List Int) (most : Nat) (shut : Bool) : Prop where
  blk : Blk W p #[.chan (some c), .pointer (some ⟨l, 0, none⟩), .int .i64 most, .bool shut] 60
  ch : Chn W c N ((xs.take N).map pv_i).toArray
  lw : LW_i s W
  kl : s.kd l = 1
  sp : s.kd p = 0
  sc : s.kd c = 0
  vals : valsOf_i s (s.sq l) = (xs.drop N).map pv_i
  n1 : 1 ≤ N
section
variable {s : LS} {W : World} {p c l N : Nat} {xs : List Int} {most : Nat} {shut : Bool}
theorem PW_i.pc (h : PW_i s W p c l N xs most shut) : p ≠ c := fun e => by
  obtain ⟨a, b, hc⟩ := h.ch
  have hb := h.blk
  unfold Blk at hb
  rw [e, hc] at hb; cases hb
theorem PW_i.kept (h : PW_i s W p c l N xs most shut) {S : Nat → Prop} {W' : World} (k : Kept S W W') (hS : ∀ y, s.kd y ≠ 0 ∨ y = p ∨ y = c → ¬ S y) : PW_i s W' p c l N xs most shut :=
  ⟨h.blk.kept k (hS p (.inr (.inl rfl))), h.ch.kept k (hS c (.inr (.inr rfl))), h.lw.kept k (fun x hx => hS x (.inl hx)), h.kl, h.sp, h.sc, h.vals, h.n1⟩
theorem PW_i.still (h : PW_i s W p c l N xs most shut) {W' : World} (k : Still W W') : PW_i s W' p c l N xs most shut := h.kept k (fun _ _ f => f)
theorem PW_i.len (h : PW_i s W p c l N xs most shut) : (s.sq l).length = xs.length - N := by
  have := congrArg List.length h.vals
  simp [valsOf_i] at this
  exact this
end
set_option maxRecDepth 100000 in
theorem psend_i (w : World) (p c cap : Nat) (buf : Array Value) (s r : Nat) (v : Int) (hp : w.cell? ⟨p, 0, none⟩ = some (.chan (some c))) (hc : w.heap[c]? = some (.chan cap buf false s r false)) (hroom : buf.size < cap) :
    Calls Try.prog 27 #[.pointer (some ⟨p, 0, none⟩), .int .i64 v] w fun e w' => e = .returned (.bool true) ∧ w' = w.setChan c cap (buf.push (.int .i64 v)) false (s + 1) r false := by
  refine calls_of_fin Try.func27 rfl fun cs => ?_
  simp only [Try.ntmps27, List.size_toArray, List.length_cons, List.length_nil, Nat.reduceAdd, Nat.reduceSub, Array.replicate_succ, Array.replicate_zero, List.push_toArray, List.append_toArray, List.nil_append, List.cons_append]
  refine Fin.seq ?_
  refine Fin.code Try.func27 fun K hK => ?_
  go_wp2_with fail
  refine Fin.seq ?_
  refine Fin.code Try.func27 fun K hK => ?_
  go_wp2_with fail
  refine Fin.seq ?_
  refine Fin.region ?_
  refine Fin.sel_send rfl rfl (c := c) (v := .int .i64 v) (z := (.int .i64 0)) (by simp [go_sem, execOp, scase, Act.eval]) hc hroom ?_
  simp only [Act.put, List.setIfInBounds_toArray, List.set_cons_succ, List.set_cons_zero, List.getElem_toArray, List.getElem_cons_zero, List.getElem_cons_succ]
  refine Fin.val (v := .int .i64 0) rfl rfl (by simp [go_sem, execOp, Act.eval, Act.put]) ?_
  simp only [Act.put, List.setIfInBounds_toArray, List.set_cons_succ, List.set_cons_zero, List.getElem_toArray, List.getElem_cons_zero, List.getElem_cons_succ]
  refine Fin.val (v := .bool true) rfl rfl (by simp [go_sem, execOp, Act.eval, Act.put]) ?_
  simp only [Act.put, List.setIfInBounds_toArray, List.set_cons_succ, List.set_cons_zero, List.getElem_toArray, List.getElem_cons_zero, List.getElem_cons_succ]
  refine Fin.rend ?_
  refine Fin.last Try.func27 ?_
  go_wp2_with fail
  go_ret
  exact ⟨rfl, rfl⟩
set_option maxRecDepth 100000 in
theorem psend_full_i (w : World) (p c cap : Nat) (buf : Array Value) (s r : Nat) (v : Int) (hp : w.cell? ⟨p, 0, none⟩ = some (.chan (some c))) (hc : w.heap[c]? = some (.chan cap buf false s r false)) (hfull : cap ≤ buf.size) :
    Calls Try.prog 27 #[.pointer (some ⟨p, 0, none⟩), .int .i64 v] w fun e w' => e = .returned (.bool false) ∧ w' = w := by
  refine calls_of_fin Try.func27 rfl fun cs => ?_
  simp only [Try.ntmps27, List.size_toArray, List.length_cons, List.length_nil, Nat.reduceAdd, Nat.reduceSub, Array.replicate_succ, Array.replicate_zero, List.push_toArray, List.append_toArray, List.nil_append, List.cons_append]
  refine Fin.seq ?_
  refine Fin.code Try.func27 fun K hK => ?_
  go_wp2_with fail
  refine Fin.seq ?_
  refine Fin.code Try.func27 fun K hK => ?_
  go_wp2_with fail
  refine Fin.seq ?_
  refine Fin.region ?_
  refine Fin.sel_send_full rfl rfl (c := c) (v := .int .i64 v) (z := (.int .i64 0)) (by simp [go_sem, execOp, scase, Act.eval]) hc hfull ?_
  simp only [Act.put, List.setIfInBounds_toArray, List.set_cons_succ, List.set_cons_zero, List.getElem_toArray, List.getElem_cons_zero, List.getElem_cons_succ]
  refine Fin.val (v := .int .i64 (-1)) rfl rfl (by simp [go_sem, execOp, Act.eval, Act.put]) ?_
  simp only [Act.put, List.setIfInBounds_toArray, List.set_cons_succ, List.set_cons_zero, List.getElem_toArray, List.getElem_cons_zero, List.getElem_cons_succ]
  refine Fin.val (v := .bool false) rfl rfl (by simp [go_sem, execOp, Act.eval, Act.put]) ?_
  simp only [Act.put, List.setIfInBounds_toArray, List.set_cons_succ, List.set_cons_zero, List.getElem_toArray, List.getElem_cons_zero, List.getElem_cons_succ]
  refine Fin.rend ?_
  refine Fin.last Try.func27 ?_
  go_wp2_with fail
  go_ret
  exact ⟨rfl, rfl⟩
theorem take_push_i {xs : List Int} {N : Nat} (h : xs.length < N) (v : Int) : (((xs.take N).map pv_i).toArray.push (.int .i64 v)) = (((xs ++ [v]).take N).map pv_i).toArray ∧ (xs ++ [v]).drop N = [] ∧ xs.drop N = [] := by
  refine ⟨?_, List.drop_eq_nil_of_le (by simp; omega), List.drop_eq_nil_of_le (by omega)⟩
  rw [List.take_of_length_le (by omega), List.take_of_length_le (by simp; omega)]
  simp
theorem take_size_i (xs : List Int) (N : Nat) : ((xs.take N).map pv_i).toArray.size = min N xs.length := by simp
set_option maxRecDepth 100000 in
theorem pput_shut_i {s : LS} {p c l N : Nat} {xs : List Int} {most : Nat} (w : World) (h : PW_i s w p c l N xs most true) (v : Int) :
    Calls Try.prog 9 #[.pointer (some ⟨p, 0, none⟩), .int .i64 v] w fun e w' => e = .returned (.tuple #[.bool false, .int .i64 3]) ∧ w = w' := by
  have c3 := h.blk.cell 3
  have c3' : w.cell? ⟨p, 3, none⟩ = some (.bool true) := c3
  clear c3 h
  go_enter Try.func9, Try.ntmps9
  go_wp2_with fail
  go_ret2
  exact ⟨rfl, rfl⟩
set_option maxRecDepth 100000 in
set_option maxHeartbeats 1000000 in
theorem pput_i {s : LS} {p c l N : Nat} {xs : List Int} {most : Nat} (w : World) (h : PW_i s w p c l N xs most false) (v : Int) (hx : xs.length < 100000) (hm : most < 100000) :
    Calls Try.prog 9 #[.pointer (some ⟨p, 0, none⟩), .int .i64 v] w fun e w' => e = .returned (.tuple #[.bool (decide (N ≤ xs.length)), .int .i64 0]) ∧ Kept (fun y => s.kd y ≠ 0 ∨ y = p ∨ y = c) w w' ∧ ∃ s', PW_i s' w' p c l N (xs ++ [v]) (max most (xs.length + 1 - N)) false ∧ (∀ y, y < w.heap.size → s'.kd y = s.kd y) ∧ ∀ y, y ≠ l → s'.sq y = s.sq y := by
  have hlen := h.len
  have c0 := h.blk.cell 0
  have c1 := h.blk.cell 1
  have c2 := h.blk.cell 2
  have c3 := h.blk.cell 3
  have c0' : w.cell? ⟨p, 0, none⟩ = some (.chan (some c)) := c0
  have c1' : w.cell? ⟨p, 1, none⟩ = some (.pointer (some ⟨l, 0, none⟩)) := c1
  have c3' : w.cell? ⟨p, 3, none⟩ = some (.bool false) := c3
  clear c0 c1 c2 c3
  obtain ⟨sn, rn, hc⟩ := h.ch
  obtain ⟨B, hB⟩ : ∃ B, B = ((xs.take N).map pv_i).toArray := ⟨_, rfl⟩
  rw [← hB] at hc
  have hBs : B.size = min N xs.length := by rw [hB]; exact take_size_i xs N
  have HB := Lib.hid hB
  clear hB
  have H := Lib.hid h
  have hl := llen_i s w h.lw l h.kl
  rw [hlen] at hl
  have HLN := Lib.hid hl
  have HS := Lib.hid hlen
  have HC := Lib.hid hc
  clear h hl hlen hc
  by_cases hN : xs.length < N
  · have e0 : xs.length - N = 0 := by omega
    have HL0 := HLN.out
    rw [e0] at HL0
    have HL := Lib.hid HL0
    have hd : decide (N ≤ xs.length) = false := decide_eq_false (by omega)
    rw [hd]
    clear HL0 hd
    go_enter Try.func9, Try.ntmps9
    go_wp2_with fail
    refine HL.out.mono ?_
    rintro e w1 ⟨rfl, rfl⟩
    go_wp2_with fail
    refine (psend_i w p c N _ sn rn v c0' HC.out (by omega)).mono ?_
    rintro e w1 ⟨rfl, rfl⟩
    go_wp2_with fail
    go_ret2
    obtain ⟨t1, t2, t3⟩ := take_push_i hN v
    have kk : Kept (fun y => s.kd y ≠ 0 ∨ y = p ∨ y = c) w (w.setChan c N (B.push (.int .i64 v)) false (sn + 1) rn false) := kept_setChan (Kept.refl _ _) (fun _ => .inr (.inr rfl)) _ _ _ _ _ _
    have k1 : Kept (fun y => y = c) w (w.setChan c N (B.push (.int .i64 v)) false (sn + 1) rn false) := kept_setChan (S := fun y => y = c) (Kept.refl _ _) (fun _ => rfl) _ _ _ _ _ _
    refine ⟨rfl, kk, s, ⟨H.out.blk.kept k1 H.out.pc |>.cast ?_, ⟨sn + 1, rn, ?_⟩, H.out.lw.kept k1 (fun x hx e => hx (by have h9 : x = c := e; rw [h9]; exact H.out.sc)), H.out.kl, H.out.sp, H.out.sc, ?_, H.out.n1⟩, fun _ _ => rfl, fun _ _ => rfl⟩
    · rw [show max most (xs.length + 1 - N) = most by omega]
    · rw [heap_setChan _ _ _ _ _ _ _ _ H.out.ch.lt, HB.out, t1]
    · rw [H.out.vals, t2, t3]
  · have hd : decide (N ≤ xs.length) = true := decide_eq_true (by omega)
    rw [hd]
    obtain ⟨q, hq⟩ : ∃ q, q = xs.length - N := ⟨_, rfl⟩
    have hl := HLN.out
    rw [← hq] at hl
    have HL := Lib.hid hl
    have HQ := Lib.hid hq
    have hq1 : q < 100000 := by omega
    have hpush := oPush_i s w H.out.lw l v H.out.kl (by rw [HS.out]; omega)
    have HP := Lib.hid hpush
    clear hl hpush hq hd
    have first : ∀ (B : Prop), (Calls Try.prog 9 #[.pointer (some ⟨p, 0, none⟩), .int .i64 v] w fun e w' => B) → True := fun _ _ => trivial
    clear first
    by_cases hq0 : q = 0
    · subst hq0
      have hfull : N ≤ B.size := by omega
      have HF := Lib.hid hfull
      clear hfull
      go_enter Try.func9, Try.ntmps9
      go_wp2_with fail
      refine HL.out.mono ?_
      rintro e w1 ⟨rfl, rfl⟩
      go_wp2_with fail
      refine (psend_full_i w p c N _ sn rn v c0' HC.out HF.out).mono ?_
      rintro e w1 ⟨rfl, h9⟩
      rw [h9]
      clear h9
      go_wp2_with fail
      refine HP.out.mono ?_
      rintro e w2 ⟨rfl, z2, k2, s2, h2, n2, d2, q2, v2⟩
      have bp := H.out.blk.kept k2 (by have := H.out.sp; omega)
      have hcl := H.out.ch.lt
      have hch2 := H.out.ch.kept k2 (by have := H.out.sc; omega)
      have kl2 : s2.kd l = 1 := (n2 l (H.out.lw.lists l H.out.kl).lt).trans H.out.kl
      have vl2 : valsOf_i s2 (s2.sq l) = ((xs ++ [v]).drop N).map pv_i := by
        rw [q2, upd_same, List.drop_append_of_le_length (by omega), List.map_append, ← H.out.vals]
        show (s.sq l ++ [w.heap.size]).map (LV s2) = (s.sq l).map (LV s) ++ _
        rw [List.map_append, v2, List.map_singleton, upd_same]
        congr 1
        exact List.map_congr_left fun y hy => upd_ne _ _ (by have := (H.out.lw.nodes y (H.out.lw.inv.mem l y H.out.kl hy).1).lt; omega)
      have P2 : PW_i s2 w2 p c l N (xs ++ [v]) most false := ⟨bp, by rw [List.take_append_of_le_length (by omega)]; exact hch2, h2, kl2, (n2 p H.out.blk.lt).trans H.out.sp, (n2 c hcl).trans H.out.sc, vl2, H.out.n1⟩
      have HP2 := Lib.hid P2
      have hll := llen_i s2 w2 h2 l kl2
      have hq2l : (s2.sq l).length = xs.length + 1 - N := by rw [P2.len]; simp
      rw [hq2l] at hll
      obtain ⟨m2, hm2⟩ : ∃ m, m = xs.length + 1 - N := ⟨_, rfl⟩
      rw [← hm2] at hll
      have HM2 := Lib.hid hm2
      have HLL := Lib.hid hll
      have hm2b : m2 < 200000 := by omega
      have d0 : w2.cell? ⟨p, 0, none⟩ = some (.chan (some c)) := bp.cell 0
      have d1 : w2.cell? ⟨p, 1, none⟩ = some (.pointer (some ⟨l, 0, none⟩)) := bp.cell 1
      have d2' : w2.cell? ⟨p, 2, none⟩ = some (.int .i64 most) := bp.cell 2
      have CP := Lib.hid bp.cells
      have fp2 := bp.free 2
      have K2 := Lib.hid k2
      have N2 := Lib.hid n2
      have Q2 := Lib.hid q2
      clear z2 k2 h2 n2 d2 q2 v2 bp hch2 kl2 vl2 P2 hll hq2l hm2 c0' c1' c3' hcl
      go_upto_region 8 with fail
      go_cut [] from 32 to 44 (fun wx => ∃ w4, Still w2 w4 ∧ wx = w4.setCell ⟨p, 2, none⟩ (.int .i64 (max most m2 : Nat)))
      case first =>
        as_aux_lemma =>
          by_cases hmx : most < m2
          · have e9 : max most m2 = m2 := by omega
            refine wp_region_end ([4], [9, 24]) [p] rfl (by kernel_rfl) (by kernel_rfl) (by kernel_rfl) (cellsB_cons CP.out cellsB_nil) (by simp [segs, isEff, isLoad, askOps, asks, ptrEq, eqOrNe, isNil]; rfl) ?_
            (repeat ((first | (refine segs_nil ?_) | (refine segs_go (stay_drew) ?_ ?_; focus (simp [isLoad]; done)) | (refine segs_load (stay_drew) ?_ ?_; focus (intro h; first | exact ⟨p, _, rfl, by simp⟩ | (simp [Region.wanted, yielded] at h; done))) | fail); go_wp2_with fail))
            refine ((llen_i s2 _ (HP2.out.lw.still ((still_refl w2).drewN 1)) l HP2.out.kl)).mono ?_
            rintro e w4 ⟨rfl, rfl⟩
            rw [show (s2.sq l).length = m2 by rw [HP2.out.len, HM2.out, List.length_append, List.length_singleton]]
            go_wp2_with fail
            (repeat ((first | (refine segs_nil ?_) | (refine segs_go (stay_drew) ?_ ?_; focus (simp [isLoad]; done)) | (refine segs_load (stay_drew) ?_ ?_; focus (intro h; first | exact ⟨p, _, rfl, by simp⟩ | (simp [Region.wanted, yielded] at h; done))) | fail); go_wp2_with fail))
            go_meet
            case rel => exact ⟨_, (still_refl w2).drewN 1, by rw [e9]⟩
          · have e9 : max most m2 = most := by omega
            refine wp_region_end ([4], [9, 24]) [p] rfl (by kernel_rfl) (by kernel_rfl) (by kernel_rfl) (cellsB_cons CP.out cellsB_nil) (by simp [segs, isEff, isLoad, askOps, asks, ptrEq, eqOrNe, isNil]; rfl) ?_
            (repeat ((first | (refine segs_nil ?_) | (refine segs_go (stay_drew) ?_ ?_; focus (simp [isLoad]; done)) | (refine segs_load (stay_drew) ?_ ?_; focus (intro h; first | exact ⟨p, _, rfl, by simp⟩ | (simp [Region.wanted, yielded] at h; done))) | fail); go_wp2_with fail))
            refine ((llen_i s2 _ (HP2.out.lw.still ((still_refl w2).drewN 1)) l HP2.out.kl)).mono ?_
            rintro e w4 ⟨rfl, rfl⟩
            rw [show (s2.sq l).length = m2 by rw [HP2.out.len, HM2.out, List.length_append, List.length_singleton]]
            go_wp2_with fail
            (repeat ((first | (refine segs_nil ?_) | (refine segs_go (stay_drew) ?_ ?_; focus (simp [isLoad]; done)) | (refine segs_load (stay_drew) ?_ ?_; focus (intro h; first | exact ⟨p, _, rfl, by simp⟩ | (simp [Region.wanted, yielded] at h; done))) | fail); go_wp2_with fail))
            go_meet
            case rel => exact ⟨_, (still_refl w2).drewN 1, by rw [e9]⟩
      case rest =>
        obtain ⟨w4, k4, rfl⟩ := hcut
        have P4 := HP2.out.still k4
        have K4 := Lib.hid k4
        clear k4 d0 d1 d2' fp2 CP
        go_wp2_with fail
        go_ret2
        have k5 : Kept (fun y => y = p) w4 (w4.setCell ⟨p, 2, none⟩ (.int .i64 (max most m2 : Nat))) := Kept.setCell (S := fun y => y = p) (Kept.refl _ _) (fun _ => rfl) _
        refine ⟨rfl, ((K2.out.mono (fun y _ hy => .inl hy)).of_still K4.out).step k5 (fun i _ e => .inr (.inl e)), s2, ⟨?_, P4.ch.kept k5 (fun e => P4.pc e.symm), P4.lw.kept k5 (fun x hx e => hx (by have h9 : x = p := e; rw [h9]; exact P4.sp)), P4.kl, P4.sp, P4.sc, P4.vals, P4.n1⟩, N2.out, fun y hy => by rw [Q2.out, upd_ne _ _ hy]⟩
        rw [← HM2.out]
        exact P4.blk.set' rfl

    · have hb : ((q : Int) == 0) = false := by rw [beq_eq_false_iff_ne]; omega
      go_enter Try.func9, Try.ntmps9
      go_wp2_with fail
      refine HL.out.mono ?_
      rintro e w1 ⟨rfl, rfl⟩
      go_wp2_with fail
      refine HP.out.mono ?_
      rintro e w2 ⟨rfl, z2, k2, s2, h2, n2, d2, q2, v2⟩
      have bp := H.out.blk.kept k2 (by have := H.out.sp; omega)
      have hcl := H.out.ch.lt
      have hch2 := H.out.ch.kept k2 (by have := H.out.sc; omega)
      have kl2 : s2.kd l = 1 := (n2 l (H.out.lw.lists l H.out.kl).lt).trans H.out.kl
      have vl2 : valsOf_i s2 (s2.sq l) = ((xs ++ [v]).drop N).map pv_i := by
        rw [q2, upd_same, List.drop_append_of_le_length (by omega), List.map_append, ← H.out.vals]
        show (s.sq l ++ [w.heap.size]).map (LV s2) = (s.sq l).map (LV s) ++ _
        rw [List.map_append, v2, List.map_singleton, upd_same]
        congr 1
        exact List.map_congr_left fun y hy => upd_ne _ _ (by have := (H.out.lw.nodes y (H.out.lw.inv.mem l y H.out.kl hy).1).lt; omega)
      have P2 : PW_i s2 w2 p c l N (xs ++ [v]) most false := ⟨bp, by rw [List.take_append_of_le_length (by omega)]; exact hch2, h2, kl2, (n2 p H.out.blk.lt).trans H.out.sp, (n2 c hcl).trans H.out.sc, vl2, H.out.n1⟩
      have HP2 := Lib.hid P2
      have hll := llen_i s2 w2 h2 l kl2
      have hq2l : (s2.sq l).length = xs.length + 1 - N := by rw [P2.len]; simp
      rw [hq2l] at hll
      obtain ⟨m2, hm2⟩ : ∃ m, m = xs.length + 1 - N := ⟨_, rfl⟩
      rw [← hm2] at hll
      have HM2 := Lib.hid hm2
      have HLL := Lib.hid hll
      have hm2b : m2 < 200000 := by omega
      have d0 : w2.cell? ⟨p, 0, none⟩ = some (.chan (some c)) := bp.cell 0
      have d1 : w2.cell? ⟨p, 1, none⟩ = some (.pointer (some ⟨l, 0, none⟩)) := bp.cell 1
      have d2' : w2.cell? ⟨p, 2, none⟩ = some (.int .i64 most) := bp.cell 2
      have CP := Lib.hid bp.cells
      have fp2 := bp.free 2
      have K2 := Lib.hid k2
      have N2 := Lib.hid n2
      have Q2 := Lib.hid q2
      clear z2 k2 h2 n2 d2 q2 v2 bp hch2 kl2 vl2 P2 hll hq2l hm2 c0' c1' c3' hcl
      go_upto_region 8 with fail
      go_cut [] from 32 to 44 (fun wx => ∃ w4, Still w2 w4 ∧ wx = w4.setCell ⟨p, 2, none⟩ (.int .i64 (max most m2 : Nat)))
      case first =>
        as_aux_lemma =>
          by_cases hmx : most < m2
          · have e9 : max most m2 = m2 := by omega
            refine wp_region_end ([4], [9, 24]) [p] rfl (by kernel_rfl) (by kernel_rfl) (by kernel_rfl) (cellsB_cons CP.out cellsB_nil) (by simp [segs, isEff, isLoad, askOps, asks, ptrEq, eqOrNe, isNil]; rfl) ?_
            (repeat ((first | (refine segs_nil ?_) | (refine segs_go (stay_drew) ?_ ?_; focus (simp [isLoad]; done)) | (refine segs_load (stay_drew) ?_ ?_; focus (intro h; first | exact ⟨p, _, rfl, by simp⟩ | (simp [Region.wanted, yielded] at h; done))) | fail); go_wp2_with fail))
            refine ((llen_i s2 _ (HP2.out.lw.still ((still_refl w2).drewN 1)) l HP2.out.kl)).mono ?_
            rintro e w4 ⟨rfl, rfl⟩
            rw [show (s2.sq l).length = m2 by rw [HP2.out.len, HM2.out, List.length_append, List.length_singleton]]
            go_wp2_with fail
            (repeat ((first | (refine segs_nil ?_) | (refine segs_go (stay_drew) ?_ ?_; focus (simp [isLoad]; done)) | (refine segs_load (stay_drew) ?_ ?_; focus (intro h; first | exact ⟨p, _, rfl, by simp⟩ | (simp [Region.wanted, yielded] at h; done))) | fail); go_wp2_with fail))
            go_meet
            case rel => exact ⟨_, (still_refl w2).drewN 1, by rw [e9]⟩
          · have e9 : max most m2 = most := by omega
            refine wp_region_end ([4], [9, 24]) [p] rfl (by kernel_rfl) (by kernel_rfl) (by kernel_rfl) (cellsB_cons CP.out cellsB_nil) (by simp [segs, isEff, isLoad, askOps, asks, ptrEq, eqOrNe, isNil]; rfl) ?_
            (repeat ((first | (refine segs_nil ?_) | (refine segs_go (stay_drew) ?_ ?_; focus (simp [isLoad]; done)) | (refine segs_load (stay_drew) ?_ ?_; focus (intro h; first | exact ⟨p, _, rfl, by simp⟩ | (simp [Region.wanted, yielded] at h; done))) | fail); go_wp2_with fail))
            refine ((llen_i s2 _ (HP2.out.lw.still ((still_refl w2).drewN 1)) l HP2.out.kl)).mono ?_
            rintro e w4 ⟨rfl, rfl⟩
            rw [show (s2.sq l).length = m2 by rw [HP2.out.len, HM2.out, List.length_append, List.length_singleton]]
            go_wp2_with fail
            (repeat ((first | (refine segs_nil ?_) | (refine segs_go (stay_drew) ?_ ?_; focus (simp [isLoad]; done)) | (refine segs_load (stay_drew) ?_ ?_; focus (intro h; first | exact ⟨p, _, rfl, by simp⟩ | (simp [Region.wanted, yielded] at h; done))) | fail); go_wp2_with fail))
            go_meet
            case rel => exact ⟨_, (still_refl w2).drewN 1, by rw [e9]⟩
      case rest =>
        obtain ⟨w4, k4, rfl⟩ := hcut
        have P4 := HP2.out.still k4
        have K4 := Lib.hid k4
        clear k4 d0 d1 d2' fp2 CP
        go_wp2_with fail
        go_ret2
        have k5 : Kept (fun y => y = p) w4 (w4.setCell ⟨p, 2, none⟩ (.int .i64 (max most m2 : Nat))) := Kept.setCell (S := fun y => y = p) (Kept.refl _ _) (fun _ => rfl) _
        refine ⟨rfl, ((K2.out.mono (fun y _ hy => .inl hy)).of_still K4.out).step k5 (fun i _ e => .inr (.inl e)), s2, ⟨?_, P4.ch.kept k5 (fun e => P4.pc e.symm), P4.lw.kept k5 (fun x hx e => hx (by have h9 : x = p := e; rw [h9]; exact P4.sp)), P4.kl, P4.sp, P4.sc, P4.vals, P4.n1⟩, N2.out, fun y hy => by rw [Q2.out, upd_ne _ _ hy]⟩
        rw [← HM2.out]
        exact P4.blk.set' rfl

set_option maxRecDepth 100000 in
theorem ptake_none_i {s : LS} {p c l N : Nat} {most : Nat} {shut : Bool} (w : World) (h : PW_i s w p c l N [] most shut) :
    Calls Try.prog 10 #[.pointer (some ⟨p, 0, none⟩)] w fun e w' => e = .returned (.tuple #[(.int .i64 0), .int .i64 6]) ∧ w = w' := by
  have c0' : w.cell? ⟨p, 0, none⟩ = some (.chan (some c)) := h.blk.cell 0
  obtain ⟨sn, rn, hc⟩ := h.ch
  rw [List.take_nil] at hc
  replace hc : w.heap[c]? = some (.chan N #[] false sn rn false) := hc
  clear h
  refine calls_of_fin Try.func10 rfl fun cs => ?_
  simp only [Try.ntmps10, List.size_toArray, List.length_cons, List.length_nil, Nat.reduceAdd, Nat.reduceSub, Array.replicate_succ, Array.replicate_zero, List.push_toArray, List.append_toArray, List.nil_append, List.cons_append]
  iterate 4 (refine Fin.seq ?_; refine Fin.code Try.func10 fun K hK => ?_; go_wp2_with fail)
  refine Fin.seq ?_
  refine Fin.region ?_
  refine Fin.sel_recv_none rfl rfl (c := c) (z := (.int .i64 0)) (by simp [go_sem, execOp, rcase, Act.eval]) hc ?_
  simp only [Act.put, List.setIfInBounds_toArray, List.set_cons_succ, List.set_cons_zero, List.getElem_toArray, List.getElem_cons_zero, List.getElem_cons_succ]
  refine Fin.val (v := .int .i64 (-1)) rfl rfl (by simp [go_sem, execOp, Act.eval, Act.put]) ?_
  simp only [Act.put, List.setIfInBounds_toArray, List.set_cons_succ, List.set_cons_zero, List.getElem_toArray, List.getElem_cons_zero, List.getElem_cons_succ]
  refine Fin.val (v := .bool false) rfl rfl (by simp [go_sem, execOp, Act.eval, Act.put]) ?_
  simp only [Act.put, List.setIfInBounds_toArray, List.set_cons_succ, List.set_cons_zero, List.getElem_toArray, List.getElem_cons_zero, List.getElem_cons_succ]
  refine Fin.rend ?_
  refine Fin.last Try.func10 ?_
  go_wp2_with fail
  go_ret2
  exact ⟨rfl, rfl⟩
theorem buf_head_i (x : Int) (rest : List Int) {N : Nat} (h : 1 ≤ N) : (((x :: rest).take N).map pv_i).toArray.getD 0 undef = .int .i64 x ∧ 0 < (((x :: rest).take N).map pv_i).toArray.size ∧ (((x :: rest).take N).map pv_i).toArray.extract 1 (((x :: rest).take N).map pv_i).toArray.size = ((rest.take (N - 1)).map pv_i).toArray := by
  obtain ⟨M, rfl⟩ : ∃ M, N = M + 1 := ⟨N - 1, by omega⟩
  refine ⟨by simp, by simp, ?_⟩
  apply Array.ext'
  simp
  exact List.take_of_length_le (by simp)
set_option maxRecDepth 100000 in
set_option maxHeartbeats 1000000 in
theorem ptake_i {s : LS} {p c l N : Nat} {x : Int} {rest : List Int} {most : Nat} {shut : Bool} (w : World) (h : PW_i s w p c l N (x :: rest) most shut) (hx : rest.length < 100000) :
    Calls Try.prog 10 #[.pointer (some ⟨p, 0, none⟩)] w fun e w' => e = .returned (.tuple #[.int .i64 x, .int .i64 0]) ∧ Kept (fun y => s.kd y ≠ 0 ∨ y = p ∨ y = c) w w' ∧ ∃ s', PW_i s' w' p c l N rest most shut ∧ s'.kd = s.kd ∧ ∀ y, y ≠ l → s'.sq y = s.sq y := by
  obtain ⟨b1, b2, b3⟩ := buf_head_i x rest h.n1
  obtain ⟨sn, rn, hc⟩ := h.ch
  obtain ⟨B, hB⟩ : ∃ B, B = (((x :: rest).take N).map pv_i).toArray := ⟨_, rfl⟩
  rw [← hB] at hc b1 b2 b3
  obtain ⟨B', hB'⟩ : ∃ B', B' = ((rest.take (N - 1)).map pv_i).toArray := ⟨_, rfl⟩
  rw [← hB'] at b3
  have HB' := Lib.hid hB'
  clear hB hB'
  have c0' : w.cell? ⟨p, 0, none⟩ = some (.chan (some c)) := h.blk.cell 0
  have k1 : Kept (fun y => y = c) w (w.setChan c N B' false sn (rn + 1) false) := kept_setChan (S := fun y => y = c) (Kept.refl _ _) (fun _ => rfl) _ _ _ _ _ _
  have hc1 : (w.setChan c N B' false sn (rn + 1) false).heap[c]? = some (.chan N B' false sn (rn + 1) false) := heap_setChan _ _ _ _ _ _ _ _ h.ch.lt
  have bp1 := h.blk.kept k1 h.pc
  have lw1 : LW_i s (w.setChan c N B' false sn (rn + 1) false) := h.lw.kept k1 (fun y hy e => hy (by have h9 : y = c := e; rw [h9]; exact h.sc))
  have H := Lib.hid h
  have HC1 := Lib.hid hc1
  have K1 := Lib.hid k1
  have BP1 := Lib.hid bp1
  have LW1 := Lib.hid lw1
  clear h hc1 k1 bp1 lw1
  refine calls_of_fin Try.func10 rfl fun cs => ?_
  simp only [Try.ntmps10, List.size_toArray, List.length_cons, List.length_nil, Nat.reduceAdd, Nat.reduceSub, Array.replicate_succ, Array.replicate_zero, List.push_toArray, List.append_toArray, List.nil_append, List.cons_append]
  iterate 4 (refine Fin.seq ?_; refine Fin.code Try.func10 fun K hK => ?_; go_wp2_with fail)
  refine Fin.seq ?_
  refine Fin.region ?_
  refine Fin.sel_recv rfl rfl (c := c) (z := (.int .i64 0)) (by simp [go_sem, execOp, rcase, Act.eval]) hc b2 ?_
  rw [b1, b3]
  simp only [Act.put, List.setIfInBounds_toArray, List.set_cons_succ, List.set_cons_zero, List.getElem_toArray, List.getElem_cons_zero, List.getElem_cons_succ]
  refine Fin.val (v := .int .i64 0) rfl rfl (by simp [go_sem, execOp, Act.eval, Act.put]) ?_
  simp only [Act.put, List.setIfInBounds_toArray, List.set_cons_succ, List.set_cons_zero, List.getElem_toArray, List.getElem_cons_zero, List.getElem_cons_succ]
  refine Fin.val (v := .bool true) rfl rfl (by simp [go_sem, execOp, Act.eval, Act.put]) ?_
  simp only [Act.put, List.setIfInBounds_toArray, List.set_cons_succ, List.set_cons_zero, List.getElem_toArray, List.getElem_cons_zero, List.getElem_cons_succ]
  refine Fin.rend ?_
  refine Fin.last Try.func10 ?_
  generalize w.setChan c N B' false sn (rn + 1) false = w1 at *
  clear c0' hc b1 b2 b3
  have d1 : w1.cell? ⟨p, 1, none⟩ = some (.pointer (some ⟨l, 0, none⟩)) := BP1.out.cell 1
  have hf := lfirst_i s w1 LW1.out l H.out.kl
  have hvals := H.out.vals
  have hN1 := H.out.n1
  rcases (show s.sq l = [] ∨ ∃ y ys, s.sq l = y :: ys by
    cases s.sq l with
    | nil => exact .inl rfl
    | cons y ys => exact .inr ⟨y, ys, rfl⟩) with hs | ⟨y, ys, hs⟩
  · rw [hs] at hf hvals
    have hf' : Calls Try.prog 29 #[.pointer (some ⟨l, 0, none⟩)] w1 fun e w' => e = .returned (.pointer none) ∧ w1 = w' := hf
    have hdl : (x :: rest).length ≤ N := by
      have := congrArg List.length hvals
      simp [valsOf_i] at this
      simp only [List.length_cons]; omega
    have HDL := Lib.hid hdl
    have HS := Lib.hid hs
    clear hf hvals hs hdl
    go_wp2_with fail
    refine hf'.mono ?_
    rintro e w2 ⟨rfl, rfl⟩
    go_wp2_with fail
    go_ret2
    have hl9 := HDL.out
    simp only [List.length_cons] at hl9
    refine ⟨rfl, K1.out.mono (fun _ _ e => .inr (.inr e)), s, ⟨BP1.out, ⟨sn, rn + 1, ?_⟩, LW1.out, H.out.kl, H.out.sp, H.out.sc, ?_, hN1⟩, rfl, fun _ _ => rfl⟩
    · rw [HC1.out, HB'.out, List.take_of_length_le (by omega), List.take_of_length_le (by omega)]
    · rw [HS.out, List.drop_eq_nil_of_le (by omega)]; rfl
  · rw [hs] at hvals
    have hf' : Calls Try.prog 29 #[.pointer (some ⟨l, 0, none⟩)] w1 fun e w' => e = .returned (.pointer (some ⟨y, 0, none⟩)) ∧ w1 = w' := by rw [hs] at hf; exact hf
    obtain ⟨M, rfl⟩ : ∃ M, N = M + 1 := ⟨N - 1, by omega⟩
    have hdr : rest.drop M ≠ [] := fun e => by
      rw [List.drop_succ_cons, e] at hvals
      simp [valsOf_i] at hvals
    obtain ⟨v1, more, hm⟩ : ∃ v1 more, rest.drop M = v1 :: more := by
      cases hh : rest.drop M with
      | nil => exact absurd hh hdr
      | cons a b => exact ⟨a, b, rfl⟩
    rw [List.drop_succ_cons, hm] at hvals
    have hvy : (s.nd y).val = .int .i64 v1 := by have := congrArg (fun l => l.head?) hvals; simpa [valsOf_i] using this
    have hvys : valsOf_i s ys = more.map pv_i := by have := congrArg List.tail hvals; simpa [valsOf_i] using this
    have hym : y ∈ s.sq l := by rw [hs]; simp
    have hky := (H.out.lw.inv.mem l y H.out.kl hym).1
    have hlsq : (s.sq l).length < 200000 := by rw [H.out.len]; simp only [List.length_cons]; omega
    have hun := oUnlink_i s w1 LW1.out l y H.out.kl hky (by omega)
    rw [if_pos hym] at hun
    have HUN := Lib.hid hun
    have HS := Lib.hid hs
    have HM := Lib.hid hm
    have HVY := Lib.hid hvy
    have HVYS := Lib.hid hvys
    have HKY := Lib.hid hky
    clear hf hvals hs hdr hm hvy hvys hym hun hky
    go_wp2_with fail
    refine hf'.mono ?_
    rintro e w2 ⟨rfl, rfl⟩
    go_wp2_with fail
    refine HUN.out.mono ?_
    rintro e w2 ⟨rfl, k2, s2, h2, d2, q2, v2⟩
    have hy2 := h2.nodes y (by rw [d2]; exact HKY.out)
    have e2 : (s2.nd y).val = .int .i64 v1 := (congrFun v2 y).trans HVY.out
    rw [e2] at hy2
    have cy0 := hy2.cell 0
    have bp2 := BP1.out.kept k2 (by have := H.out.sp; omega)
    have hc2 := (k2.block c (lt_of_block HC1.out) (by have := H.out.sc; omega)).trans HC1.out
    have e0 : w2.cell? ⟨p, 0, none⟩ = some (.chan (some c)) := bp2.cell 0
    have hroom : B'.size < M + 1 := by rw [HB'.out]; simp; omega
    have HH2 := Lib.hid h2
    have K2 := Lib.hid k2
    have D2 := Lib.hid d2
    have Q2 := Lib.hid q2
    have V2 := Lib.hid v2
    have BP2 := Lib.hid bp2
    have HC2 := Lib.hid hc2
    have HRM := Lib.hid hroom
    clear h2 k2 d2 q2 v2 bp2 hc2 hroom hy2 e2 hf' d1
    go_wp2_with fail
    refine (psend_i w2 p c (M + 1) B' sn (rn + 1) v1 e0 HC2.out HRM.out).mono ?_
    rintro e w3 ⟨rfl, rfl⟩
    go_wp2_with fail
    go_ret2
    have k3 : Kept (fun y => y = c) w2 (w2.setChan c (M + 1) (B'.push (.int .i64 v1)) false (sn + 1) (rn + 1) false) := kept_setChan (S := fun y => y = c) (Kept.refl _ _) (fun _ => rfl) _ _ _ _ _ _
    have hlt : M < rest.length := by
      have := congrArg List.length HM.out
      simp only [List.length_drop, List.length_cons] at this; omega
    have hgM : rest[M]? = some v1 := by rw [← List.head?_drop, HM.out]; rfl
    refine ⟨rfl, ((K1.out.mono (fun _ _ e => .inr (.inr e))).step K2.out (fun i _ hi => .inl hi)).step k3 (fun i _ e => .inr (.inr e)), s2, ⟨BP2.out.kept k3 H.out.pc, ⟨sn + 1, rn + 1, ?_⟩, HH2.out.kept k3 (fun z hz e => hz (by have h9 : z = c := e; rw [h9, D2.out]; exact H.out.sc)), by rw [D2.out]; exact H.out.kl, by rw [D2.out]; exact H.out.sp, by rw [D2.out]; exact H.out.sc, ?_, hN1⟩, D2.out, fun z hz => by rw [Q2.out, upd_ne _ _ hz]⟩
    · rw [heap_setChan _ _ _ _ _ _ _ _ (lt_of_block HC2.out), HB'.out, Nat.add_sub_cancel, List.take_add_one, hgM]
      simp
    · rw [Q2.out, upd_same, HS.out, List.erase_cons_head, show rest.drop (M + 1) = more by rw [← List.tail_drop, HM.out]; rfl, ← HVYS.out]
      exact List.map_congr_left fun z _ => congrFun V2.out z

abbrev pv_s : ByteArray → Value := fun x => .string x
/-- a pipe: its things, in order -/
structure PW_s (s : LS) (W : World) (p c l N : Nat) (xs : List ByteArray) (most : Nat) (shut : Bool) : Prop where
  blk : Blk W p #[.chan (some c), .pointer (some ⟨l, 0, none⟩), .int .i64 most, .bool shut] 75
  ch : Chn W c N ((xs.take N).map pv_s).toArray
  lw : LW_s s W
  kl : s.kd l = 1
  sp : s.kd p = 0
  sc : s.kd c = 0
  vals : valsOf_s s (s.sq l) = (xs.drop N).map pv_s
  n1 : 1 ≤ N
section
variable {s : LS} {W : World} {p c l N : Nat} {xs : List ByteArray} {most : Nat} {shut : Bool}
theorem PW_s.pc (h : PW_s s W p c l N xs most shut) : p ≠ c := fun e => by
  obtain ⟨a, b, hc⟩ := h.ch
  have hb := h.blk
  unfold Blk at hb
  rw [e, hc] at hb; cases hb
theorem PW_s.kept (h : PW_s s W p c l N xs most shut) {S : Nat → Prop} {W' : World} (k : Kept S W W') (hS : ∀ y, s.kd y ≠ 0 ∨ y = p ∨ y = c → ¬ S y) : PW_s s W' p c l N xs most shut :=
  ⟨h.blk.kept k (hS p (.inr (.inl rfl))), h.ch.kept k (hS c (.inr (.inr rfl))), h.lw.kept k (fun x hx => hS x (.inl hx)), h.kl, h.sp, h.sc, h.vals, h.n1⟩
theorem PW_s.still (h : PW_s s W p c l N xs most shut) {W' : World} (k : Still W W') : PW_s s W' p c l N xs most shut := h.kept k (fun _ _ f => f)
theorem PW_s.len (h : PW_s s W p c l N xs most shut) : (s.sq l).length = xs.length - N := by
  have := congrArg List.length h.vals
  simp [valsOf_s] at this
  exact this
end
set_option maxRecDepth 100000 in
theorem psend_s (w : World) (p c cap : Nat) (buf : Array Value) (s r : Nat) (v : ByteArray) (hp : w.cell? ⟨p, 0, none⟩ = some (.chan (some c))) (hc : w.heap[c]? = some (.chan cap buf false s r false)) (hroom : buf.size < cap) :
    Calls Try.prog 34 #[.pointer (some ⟨p, 0, none⟩), .string v] w fun e w' => e = .returned (.bool true) ∧ w' = w.setChan c cap (buf.push (.string v)) false (s + 1) r false := by
  refine calls_of_fin Try.func34 rfl fun cs => ?_
  simp only [Try.ntmps34, List.size_toArray, List.length_cons, List.length_nil, Nat.reduceAdd, Nat.reduceSub, Array.replicate_succ, Array.replicate_zero, List.push_toArray, List.append_toArray, List.nil_append, List.cons_append]
  refine Fin.seq ?_
  refine Fin.code Try.func34 fun K hK => ?_
  go_wp2_with fail
  refine Fin.seq ?_
  refine Fin.code Try.func34 fun K hK => ?_
  go_wp2_with fail
  refine Fin.seq ?_
  refine Fin.region ?_
  refine Fin.sel_send rfl rfl (c := c) (v := .string v) (z := (.string ⟨#[]⟩)) (by simp [go_sem, execOp, scase, Act.eval]) hc hroom ?_
  simp only [Act.put, List.setIfInBounds_toArray, List.set_cons_succ, List.set_cons_zero, List.getElem_toArray, List.getElem_cons_zero, List.getElem_cons_succ]
  refine Fin.val (v := .int .i64 0) rfl rfl (by simp [go_sem, execOp, Act.eval, Act.put]) ?_
  simp only [Act.put, List.setIfInBounds_toArray, List.set_cons_succ, List.set_cons_zero, List.getElem_toArray, List.getElem_cons_zero, List.getElem_cons_succ]
  refine Fin.val (v := .bool true) rfl rfl (by simp [go_sem, execOp, Act.eval, Act.put]) ?_
  simp only [Act.put, List.setIfInBounds_toArray, List.set_cons_succ, List.set_cons_zero, List.getElem_toArray, List.getElem_cons_zero, List.getElem_cons_succ]
  refine Fin.rend ?_
  refine Fin.last Try.func34 ?_
  go_wp2_with fail
  go_ret
  exact ⟨rfl, rfl⟩
set_option maxRecDepth 100000 in
theorem psend_full_s (w : World) (p c cap : Nat) (buf : Array Value) (s r : Nat) (v : ByteArray) (hp : w.cell? ⟨p, 0, none⟩ = some (.chan (some c))) (hc : w.heap[c]? = some (.chan cap buf false s r false)) (hfull : cap ≤ buf.size) :
    Calls Try.prog 34 #[.pointer (some ⟨p, 0, none⟩), .string v] w fun e w' => e = .returned (.bool false) ∧ w' = w := by
  refine calls_of_fin Try.func34 rfl fun cs => ?_
  simp only [Try.ntmps34, List.size_toArray, List.length_cons, List.length_nil, Nat.reduceAdd, Nat.reduceSub, Array.replicate_succ, Array.replicate_zero, List.push_toArray, List.append_toArray, List.nil_append, List.cons_append]
  refine Fin.seq ?_
  refine Fin.code Try.func34 fun K hK => ?_
  go_wp2_with fail
  refine Fin.seq ?_
  refine Fin.code Try.func34 fun K hK => ?_
  go_wp2_with fail
  refine Fin.seq ?_
  refine Fin.region ?_
  refine Fin.sel_send_full rfl rfl (c := c) (v := .string v) (z := (.string ⟨#[]⟩)) (by simp [go_sem, execOp, scase, Act.eval]) hc hfull ?_
  simp only [Act.put, List.setIfInBounds_toArray, List.set_cons_succ, List.set_cons_zero, List.getElem_toArray, List.getElem_cons_zero, List.getElem_cons_succ]
  refine Fin.val (v := .int .i64 (-1)) rfl rfl (by simp [go_sem, execOp, Act.eval, Act.put]) ?_
  simp only [Act.put, List.setIfInBounds_toArray, List.set_cons_succ, List.set_cons_zero, List.getElem_toArray, List.getElem_cons_zero, List.getElem_cons_succ]
  refine Fin.val (v := .bool false) rfl rfl (by simp [go_sem, execOp, Act.eval, Act.put]) ?_
  simp only [Act.put, List.setIfInBounds_toArray, List.set_cons_succ, List.set_cons_zero, List.getElem_toArray, List.getElem_cons_zero, List.getElem_cons_succ]
  refine Fin.rend ?_
  refine Fin.last Try.func34 ?_
  go_wp2_with fail
  go_ret
  exact ⟨rfl, rfl⟩
theorem take_push_s {xs : List ByteArray} {N : Nat} (h : xs.length < N) (v : ByteArray) : (((xs.take N).map pv_s).toArray.push (.string v)) = (((xs ++ [v]).take N).map pv_s).toArray ∧ (xs ++ [v]).drop N = [] ∧ xs.drop N = [] := by
  refine ⟨?_, List.drop_eq_nil_of_le (by simp; omega), List.drop_eq_nil_of_le (by omega)⟩
  rw [List.take_of_length_le (by omega), List.take_of_length_le (by simp; omega)]
  simp
theorem take_size_s (xs : List ByteArray) (N : Nat) : ((xs.take N).map pv_s).toArray.size = min N xs.length := by simp
set_option maxRecDepth 100000 in
theorem pput_shut_s {s : LS} {p c l N : Nat} {xs : List ByteArray} {most : Nat} (w : World) (h : PW_s s w p c l N xs most true) (v : ByteArray) :
    Calls Try.prog 22 #[.pointer (some ⟨p, 0, none⟩), .string v] w fun e w' => e = .returned (.tuple #[.bool false, .int .i64 3]) ∧ w = w' := by
  have c3 := h.blk.cell 3
  have c3' : w.cell? ⟨p, 3, none⟩ = some (.bool true) := c3
  clear c3 h
  go_enter Try.func22, Try.ntmps22
  go_wp2_with fail
  go_ret2
  exact ⟨rfl, rfl⟩
set_option maxRecDepth 100000 in
set_option maxHeartbeats 1000000 in
theorem pput_s {s : LS} {p c l N : Nat} {xs : List ByteArray} {most : Nat} (w : World) (h : PW_s s w p c l N xs most false) (v : ByteArray) (hx : xs.length < 100000) (hm : most < 100000) :
    Calls Try.prog 22 #[.pointer (some ⟨p, 0, none⟩), .string v] w fun e w' => e = .returned (.tuple #[.bool (decide (N ≤ xs.length)), .int .i64 0]) ∧ Kept (fun y => s.kd y ≠ 0 ∨ y = p ∨ y = c) w w' ∧ ∃ s', PW_s s' w' p c l N (xs ++ [v]) (max most (xs.length + 1 - N)) false ∧ (∀ y, y < w.heap.size → s'.kd y = s.kd y) ∧ ∀ y, y ≠ l → s'.sq y = s.sq y := by
  have hlen := h.len
  have c0 := h.blk.cell 0
  have c1 := h.blk.cell 1
  have c2 := h.blk.cell 2
  have c3 := h.blk.cell 3
  have c0' : w.cell? ⟨p, 0, none⟩ = some (.chan (some c)) := c0
  have c1' : w.cell? ⟨p, 1, none⟩ = some (.pointer (some ⟨l, 0, none⟩)) := c1
  have c3' : w.cell? ⟨p, 3, none⟩ = some (.bool false) := c3
  clear c0 c1 c2 c3
  obtain ⟨sn, rn, hc⟩ := h.ch
  obtain ⟨B, hB⟩ : ∃ B, B = ((xs.take N).map pv_s).toArray := ⟨_, rfl⟩
  rw [← hB] at hc
  have hBs : B.size = min N xs.length := by rw [hB]; exact take_size_s xs N
  have HB := Lib.hid hB
  clear hB
  have H := Lib.hid h
  have hl := llen_s s w h.lw l h.kl
  rw [hlen] at hl
  have HLN := Lib.hid hl
  have HS := Lib.hid hlen
  have HC := Lib.hid hc
  clear h hl hlen hc
  by_cases hN : xs.length < N
  · have e0 : xs.length - N = 0 := by omega
    have HL0 := HLN.out
    rw [e0] at HL0
    have HL := Lib.hid HL0
    have hd : decide (N ≤ xs.length) = false := decide_eq_false (by omega)
    rw [hd]
    clear HL0 hd
    go_enter Try.func22, Try.ntmps22
    go_wp2_with fail
    refine HL.out.mono ?_
    rintro e w1 ⟨rfl, rfl⟩
    go_wp2_with fail
    refine (psend_s w p c N _ sn rn v c0' HC.out (by omega)).mono ?_
    rintro e w1 ⟨rfl, rfl⟩
    go_wp2_with fail
    go_ret2
    obtain ⟨t1, t2, t3⟩ := take_push_s hN v
    have kk : Kept (fun y => s.kd y ≠ 0 ∨ y = p ∨ y = c) w (w.setChan c N (B.push (.string v)) false (sn + 1) rn false) := kept_setChan (Kept.refl _ _) (fun _ => .inr (.inr rfl)) _ _ _ _ _ _
    have k1 : Kept (fun y => y = c) w (w.setChan c N (B.push (.string v)) false (sn + 1) rn false) := kept_setChan (S := fun y => y = c) (Kept.refl _ _) (fun _ => rfl) _ _ _ _ _ _
    refine ⟨rfl, kk, s, ⟨H.out.blk.kept k1 H.out.pc |>.cast ?_, ⟨sn + 1, rn, ?_⟩, H.out.lw.kept k1 (fun x hx e => hx (by have h9 : x = c := e; rw [h9]; exact H.out.sc)), H.out.kl, H.out.sp, H.out.sc, ?_, H.out.n1⟩, fun _ _ => rfl, fun _ _ => rfl⟩
    · rw [show max most (xs.length + 1 - N) = most by omega]
    · rw [heap_setChan _ _ _ _ _ _ _ _ H.out.ch.lt, HB.out, t1]
    · rw [H.out.vals, t2, t3]
  · have hd : decide (N ≤ xs.length) = true := decide_eq_true (by omega)
    rw [hd]
    obtain ⟨q, hq⟩ : ∃ q, q = xs.length - N := ⟨_, rfl⟩
    have hl := HLN.out
    rw [← hq] at hl
    have HL := Lib.hid hl
    have HQ := Lib.hid hq
    have hq1 : q < 100000 := by omega
    have hpush := oPush_s s w H.out.lw l v H.out.kl (by rw [HS.out]; omega)
    have HP := Lib.hid hpush
    clear hl hpush hq hd
    have first : ∀ (B : Prop), (Calls Try.prog 22 #[.pointer (some ⟨p, 0, none⟩), .string v] w fun e w' => B) → True := fun _ _ => trivial
    clear first
    by_cases hq0 : q = 0
    · subst hq0
      have hfull : N ≤ B.size := by omega
      have HF := Lib.hid hfull
      clear hfull
      go_enter Try.func22, Try.ntmps22
      go_wp2_with fail
      refine HL.out.mono ?_
      rintro e w1 ⟨rfl, rfl⟩
      go_wp2_with fail
      refine (psend_full_s w p c N _ sn rn v c0' HC.out HF.out).mono ?_
      rintro e w1 ⟨rfl, h9⟩
      rw [h9]
      clear h9
      go_wp2_with fail
      refine HP.out.mono ?_
      rintro e w2 ⟨rfl, z2, k2, s2, h2, n2, d2, q2, v2⟩
      have bp := H.out.blk.kept k2 (by have := H.out.sp; omega)
      have hcl := H.out.ch.lt
      have hch2 := H.out.ch.kept k2 (by have := H.out.sc; omega)
      have kl2 : s2.kd l = 1 := (n2 l (H.out.lw.lists l H.out.kl).lt).trans H.out.kl
      have vl2 : valsOf_s s2 (s2.sq l) = ((xs ++ [v]).drop N).map pv_s := by
        rw [q2, upd_same, List.drop_append_of_le_length (by omega), List.map_append, ← H.out.vals]
        show (s.sq l ++ [w.heap.size]).map (LV s2) = (s.sq l).map (LV s) ++ _
        rw [List.map_append, v2, List.map_singleton, upd_same]
        congr 1
        exact List.map_congr_left fun y hy => upd_ne _ _ (by have := (H.out.lw.nodes y (H.out.lw.inv.mem l y H.out.kl hy).1).lt; omega)
      have P2 : PW_s s2 w2 p c l N (xs ++ [v]) most false := ⟨bp, by rw [List.take_append_of_le_length (by omega)]; exact hch2, h2, kl2, (n2 p H.out.blk.lt).trans H.out.sp, (n2 c hcl).trans H.out.sc, vl2, H.out.n1⟩
      have HP2 := Lib.hid P2
      have hll := llen_s s2 w2 h2 l kl2
      have hq2l : (s2.sq l).length = xs.length + 1 - N := by rw [P2.len]; simp
      rw [hq2l] at hll
      obtain ⟨m2, hm2⟩ : ∃ m, m = xs.length + 1 - N := ⟨_, rfl⟩
      rw [← hm2] at hll
      have HM2 := Lib.hid hm2
      have HLL := Lib.hid hll
      have hm2b : m2 < 200000 := by omega
      have d0 : w2.cell? ⟨p, 0, none⟩ = some (.chan (some c)) := bp.cell 0
      have d1 : w2.cell? ⟨p, 1, none⟩ = some (.pointer (some ⟨l, 0, none⟩)) := bp.cell 1
      have d2' : w2.cell? ⟨p, 2, none⟩ = some (.int .i64 most) := bp.cell 2
      have CP := Lib.hid bp.cells
      have fp2 := bp.free 2
      have K2 := Lib.hid k2
      have N2 := Lib.hid n2
      have Q2 := Lib.hid q2
      clear z2 k2 h2 n2 d2 q2 v2 bp hch2 kl2 vl2 P2 hll hq2l hm2 c0' c1' c3' hcl
      go_upto_region 8 with fail
      go_cut [] from 32 to 44 (fun wx => ∃ w4, Still w2 w4 ∧ wx = w4.setCell ⟨p, 2, none⟩ (.int .i64 (max most m2 : Nat)))
      case first =>
        as_aux_lemma =>
          by_cases hmx : most < m2
          · have e9 : max most m2 = m2 := by omega
            refine wp_region_end ([4], [9, 50]) [p] rfl (by kernel_rfl) (by kernel_rfl) (by kernel_rfl) (cellsB_cons CP.out cellsB_nil) (by simp [segs, isEff, isLoad, askOps, asks, ptrEq, eqOrNe, isNil]; rfl) ?_
            (repeat ((first | (refine segs_nil ?_) | (refine segs_go (stay_drew) ?_ ?_; focus (simp [isLoad]; done)) | (refine segs_load (stay_drew) ?_ ?_; focus (intro h; first | exact ⟨p, _, rfl, by simp⟩ | (simp [Region.wanted, yielded] at h; done))) | fail); go_wp2_with fail))
            refine ((llen_s s2 _ (HP2.out.lw.still ((still_refl w2).drewN 1)) l HP2.out.kl)).mono ?_
            rintro e w4 ⟨rfl, rfl⟩
            rw [show (s2.sq l).length = m2 by rw [HP2.out.len, HM2.out, List.length_append, List.length_singleton]]
            go_wp2_with fail
            (repeat ((first | (refine segs_nil ?_) | (refine segs_go (stay_drew) ?_ ?_; focus (simp [isLoad]; done)) | (refine segs_load (stay_drew) ?_ ?_; focus (intro h; first | exact ⟨p, _, rfl, by simp⟩ | (simp [Region.wanted, yielded] at h; done))) | fail); go_wp2_with fail))
            go_meet
            case rel => exact ⟨_, (still_refl w2).drewN 1, by rw [e9]⟩
          · have e9 : max most m2 = most := by omega
            refine wp_region_end ([4], [9, 50]) [p] rfl (by kernel_rfl) (by kernel_rfl) (by kernel_rfl) (cellsB_cons CP.out cellsB_nil) (by simp [segs, isEff, isLoad, askOps, asks, ptrEq, eqOrNe, isNil]; rfl) ?_
            (repeat ((first | (refine segs_nil ?_) | (refine segs_go (stay_drew) ?_ ?_; focus (simp [isLoad]; done)) | (refine segs_load (stay_drew) ?_ ?_; focus (intro h; first | exact ⟨p, _, rfl, by simp⟩ | (simp [Region.wanted, yielded] at h; done))) | fail); go_wp2_with fail))
            refine ((llen_s s2 _ (HP2.out.lw.still ((still_refl w2).drewN 1)) l HP2.out.kl)).mono ?_
            rintro e w4 ⟨rfl, rfl⟩
            rw [show (s2.sq l).length = m2 by rw [HP2.out.len, HM2.out, List.length_append, List.length_singleton]]
            go_wp2_with fail
            (repeat ((first | (refine segs_nil ?_) | (refine segs_go (stay_drew) ?_ ?_; focus (simp [isLoad]; done)) | (refine segs_load (stay_drew) ?_ ?_; focus (intro h; first | exact ⟨p, _, rfl, by simp⟩ | (simp [Region.wanted, yielded] at h; done))) | fail); go_wp2_with fail))
            go_meet
            case rel => exact ⟨_, (still_refl w2).drewN 1, by rw [e9]⟩
      case rest =>
        obtain ⟨w4, k4, rfl⟩ := hcut
        have P4 := HP2.out.still k4
        have K4 := Lib.hid k4
        clear k4 d0 d1 d2' fp2 CP
        go_wp2_with fail
        go_ret2
        have k5 : Kept (fun y => y = p) w4 (w4.setCell ⟨p, 2, none⟩ (.int .i64 (max most m2 : Nat))) := Kept.setCell (S := fun y => y = p) (Kept.refl _ _) (fun _ => rfl) _
        refine ⟨rfl, ((K2.out.mono (fun y _ hy => .inl hy)).of_still K4.out).step k5 (fun i _ e => .inr (.inl e)), s2, ⟨?_, P4.ch.kept k5 (fun e => P4.pc e.symm), P4.lw.kept k5 (fun x hx e => hx (by have h9 : x = p := e; rw [h9]; exact P4.sp)), P4.kl, P4.sp, P4.sc, P4.vals, P4.n1⟩, N2.out, fun y hy => by rw [Q2.out, upd_ne _ _ hy]⟩
        rw [← HM2.out]
        exact P4.blk.set' rfl

    · have hb : ((q : Int) == 0) = false := by rw [beq_eq_false_iff_ne]; omega
      go_enter Try.func22, Try.ntmps22
      go_wp2_with fail
      refine HL.out.mono ?_
      rintro e w1 ⟨rfl, rfl⟩
      go_wp2_with fail
      refine HP.out.mono ?_
      rintro e w2 ⟨rfl, z2, k2, s2, h2, n2, d2, q2, v2⟩
      have bp := H.out.blk.kept k2 (by have := H.out.sp; omega)
      have hcl := H.out.ch.lt
      have hch2 := H.out.ch.kept k2 (by have := H.out.sc; omega)
      have kl2 : s2.kd l = 1 := (n2 l (H.out.lw.lists l H.out.kl).lt).trans H.out.kl
      have vl2 : valsOf_s s2 (s2.sq l) = ((xs ++ [v]).drop N).map pv_s := by
        rw [q2, upd_same, List.drop_append_of_le_length (by omega), List.map_append, ← H.out.vals]
        show (s.sq l ++ [w.heap.size]).map (LV s2) = (s.sq l).map (LV s) ++ _
        rw [List.map_append, v2, List.map_singleton, upd_same]
        congr 1
        exact List.map_congr_left fun y hy => upd_ne _ _ (by have := (H.out.lw.nodes y (H.out.lw.inv.mem l y H.out.kl hy).1).lt; omega)
      have P2 : PW_s s2 w2 p c l N (xs ++ [v]) most false := ⟨bp, by rw [List.take_append_of_le_length (by omega)]; exact hch2, h2, kl2, (n2 p H.out.blk.lt).trans H.out.sp, (n2 c hcl).trans H.out.sc, vl2, H.out.n1⟩
      have HP2 := Lib.hid P2
      have hll := llen_s s2 w2 h2 l kl2
      have hq2l : (s2.sq l).length = xs.length + 1 - N := by rw [P2.len]; simp
      rw [hq2l] at hll
      obtain ⟨m2, hm2⟩ : ∃ m, m = xs.length + 1 - N := ⟨_, rfl⟩
      rw [← hm2] at hll
      have HM2 := Lib.hid hm2
      have HLL := Lib.hid hll
      have hm2b : m2 < 200000 := by omega
      have d0 : w2.cell? ⟨p, 0, none⟩ = some (.chan (some c)) := bp.cell 0
      have d1 : w2.cell? ⟨p, 1, none⟩ = some (.pointer (some ⟨l, 0, none⟩)) := bp.cell 1
      have d2' : w2.cell? ⟨p, 2, none⟩ = some (.int .i64 most) := bp.cell 2
      have CP := Lib.hid bp.cells
      have fp2 := bp.free 2
      have K2 := Lib.hid k2
      have N2 := Lib.hid n2
      have Q2 := Lib.hid q2
      clear z2 k2 h2 n2 d2 q2 v2 bp hch2 kl2 vl2 P2 hll hq2l hm2 c0' c1' c3' hcl
      go_upto_region 8 with fail
      go_cut [] from 32 to 44 (fun wx => ∃ w4, Still w2 w4 ∧ wx = w4.setCell ⟨p, 2, none⟩ (.int .i64 (max most m2 : Nat)))
      case first =>
        as_aux_lemma =>
          by_cases hmx : most < m2
          · have e9 : max most m2 = m2 := by omega
            refine wp_region_end ([4], [9, 50]) [p] rfl (by kernel_rfl) (by kernel_rfl) (by kernel_rfl) (cellsB_cons CP.out cellsB_nil) (by simp [segs, isEff, isLoad, askOps, asks, ptrEq, eqOrNe, isNil]; rfl) ?_
            (repeat ((first | (refine segs_nil ?_) | (refine segs_go (stay_drew) ?_ ?_; focus (simp [isLoad]; done)) | (refine segs_load (stay_drew) ?_ ?_; focus (intro h; first | exact ⟨p, _, rfl, by simp⟩ | (simp [Region.wanted, yielded] at h; done))) | fail); go_wp2_with fail))
            refine ((llen_s s2 _ (HP2.out.lw.still ((still_refl w2).drewN 1)) l HP2.out.kl)).mono ?_
            rintro e w4 ⟨rfl, rfl⟩
            rw [show (s2.sq l).length = m2 by rw [HP2.out.len, HM2.out, List.length_append, List.length_singleton]]
            go_wp2_with fail
            (repeat ((first | (refine segs_nil ?_) | (refine segs_go (stay_drew) ?_ ?_; focus (simp [isLoad]; done)) | (refine segs_load (stay_drew) ?_ ?_; focus (intro h; first | exact ⟨p, _, rfl, by simp⟩ | (simp [Region.wanted, yielded] at h; done))) | fail); go_wp2_with fail))
            go_meet
            case rel => exact ⟨_, (still_refl w2).drewN 1, by rw [e9]⟩
          · have e9 : max most m2 = most := by omega
            refine wp_region_end ([4], [9, 50]) [p] rfl (by kernel_rfl) (by kernel_rfl) (by kernel_rfl) (cellsB_cons CP.out cellsB_nil) (by simp [segs, isEff, isLoad, askOps, asks, ptrEq, eqOrNe, isNil]; rfl) ?_
            (repeat ((first | (refine segs_nil ?_) | (refine segs_go (stay_drew) ?_ ?_; focus (simp [isLoad]; done)) | (refine segs_load (stay_drew) ?_ ?_; focus (intro h; first | exact ⟨p, _, rfl, by simp⟩ | (simp [Region.wanted, yielded] at h; done))) | fail); go_wp2_with fail))
            refine ((llen_s s2 _ (HP2.out.lw.still ((still_refl w2).drewN 1)) l HP2.out.kl)).mono ?_
            rintro e w4 ⟨rfl, rfl⟩
            rw [show (s2.sq l).length = m2 by rw [HP2.out.len, HM2.out, List.length_append, List.length_singleton]]
            go_wp2_with fail
            (repeat ((first | (refine segs_nil ?_) | (refine segs_go (stay_drew) ?_ ?_; focus (simp [isLoad]; done)) | (refine segs_load (stay_drew) ?_ ?_; focus (intro h; first | exact ⟨p, _, rfl, by simp⟩ | (simp [Region.wanted, yielded] at h; done))) | fail); go_wp2_with fail))
            go_meet
            case rel => exact ⟨_, (still_refl w2).drewN 1, by rw [e9]⟩
      case rest =>
        obtain ⟨w4, k4, rfl⟩ := hcut
        have P4 := HP2.out.still k4
        have K4 := Lib.hid k4
        clear k4 d0 d1 d2' fp2 CP
        go_wp2_with fail
        go_ret2
        have k5 : Kept (fun y => y = p) w4 (w4.setCell ⟨p, 2, none⟩ (.int .i64 (max most m2 : Nat))) := Kept.setCell (S := fun y => y = p) (Kept.refl _ _) (fun _ => rfl) _
        refine ⟨rfl, ((K2.out.mono (fun y _ hy => .inl hy)).of_still K4.out).step k5 (fun i _ e => .inr (.inl e)), s2, ⟨?_, P4.ch.kept k5 (fun e => P4.pc e.symm), P4.lw.kept k5 (fun x hx e => hx (by have h9 : x = p := e; rw [h9]; exact P4.sp)), P4.kl, P4.sp, P4.sc, P4.vals, P4.n1⟩, N2.out, fun y hy => by rw [Q2.out, upd_ne _ _ hy]⟩
        rw [← HM2.out]
        exact P4.blk.set' rfl

set_option maxRecDepth 100000 in
theorem ptake_none_s {s : LS} {p c l N : Nat} {most : Nat} {shut : Bool} (w : World) (h : PW_s s w p c l N [] most shut) :
    Calls Try.prog 23 #[.pointer (some ⟨p, 0, none⟩)] w fun e w' => e = .returned (.tuple #[(.string ⟨#[]⟩), .int .i64 6]) ∧ w = w' := by
  have c0' : w.cell? ⟨p, 0, none⟩ = some (.chan (some c)) := h.blk.cell 0
  obtain ⟨sn, rn, hc⟩ := h.ch
  rw [List.take_nil] at hc
  replace hc : w.heap[c]? = some (.chan N #[] false sn rn false) := hc
  clear h
  refine calls_of_fin Try.func23 rfl fun cs => ?_
  simp only [Try.ntmps23, List.size_toArray, List.length_cons, List.length_nil, Nat.reduceAdd, Nat.reduceSub, Array.replicate_succ, Array.replicate_zero, List.push_toArray, List.append_toArray, List.nil_append, List.cons_append]
  iterate 4 (refine Fin.seq ?_; refine Fin.code Try.func23 fun K hK => ?_; go_wp2_with fail)
  refine Fin.seq ?_
  refine Fin.region ?_
  refine Fin.sel_recv_none rfl rfl (c := c) (z := (.string ⟨#[]⟩)) (by simp [go_sem, execOp, rcase, Act.eval]) hc ?_
  simp only [Act.put, List.setIfInBounds_toArray, List.set_cons_succ, List.set_cons_zero, List.getElem_toArray, List.getElem_cons_zero, List.getElem_cons_succ]
  refine Fin.val (v := .int .i64 (-1)) rfl rfl (by simp [go_sem, execOp, Act.eval, Act.put]) ?_
  simp only [Act.put, List.setIfInBounds_toArray, List.set_cons_succ, List.set_cons_zero, List.getElem_toArray, List.getElem_cons_zero, List.getElem_cons_succ]
  refine Fin.val (v := .bool false) rfl rfl (by simp [go_sem, execOp, Act.eval, Act.put]) ?_
  simp only [Act.put, List.setIfInBounds_toArray, List.set_cons_succ, List.set_cons_zero, List.getElem_toArray, List.getElem_cons_zero, List.getElem_cons_succ]
  refine Fin.rend ?_
  refine Fin.last Try.func23 ?_
  go_wp2_with fail
  go_ret2
  exact ⟨rfl, rfl⟩
theorem buf_head_s (x : ByteArray) (rest : List ByteArray) {N : Nat} (h : 1 ≤ N) : (((x :: rest).take N).map pv_s).toArray.getD 0 undef = .string x ∧ 0 < (((x :: rest).take N).map pv_s).toArray.size ∧ (((x :: rest).take N).map pv_s).toArray.extract 1 (((x :: rest).take N).map pv_s).toArray.size = ((rest.take (N - 1)).map pv_s).toArray := by
  obtain ⟨M, rfl⟩ : ∃ M, N = M + 1 := ⟨N - 1, by omega⟩
  refine ⟨by simp, by simp, ?_⟩
  apply Array.ext'
  simp
  exact List.take_of_length_le (by simp)
set_option maxRecDepth 100000 in
set_option maxHeartbeats 1000000 in
theorem ptake_s {s : LS} {p c l N : Nat} {x : ByteArray} {rest : List ByteArray} {most : Nat} {shut : Bool} (w : World) (h : PW_s s w p c l N (x :: rest) most shut) (hx : rest.length < 100000) :
    Calls Try.prog 23 #[.pointer (some ⟨p, 0, none⟩)] w fun e w' => e = .returned (.tuple #[.string x, .int .i64 0]) ∧ Kept (fun y => s.kd y ≠ 0 ∨ y = p ∨ y = c) w w' ∧ ∃ s', PW_s s' w' p c l N rest most shut ∧ s'.kd = s.kd ∧ ∀ y, y ≠ l → s'.sq y = s.sq y := by
  obtain ⟨b1, b2, b3⟩ := buf_head_s x rest h.n1
  obtain ⟨sn, rn, hc⟩ := h.ch
  obtain ⟨B, hB⟩ : ∃ B, B = (((x :: rest).take N).map pv_s).toArray := ⟨_, rfl⟩
  rw [← hB] at hc b1 b2 b3
  obtain ⟨B', hB'⟩ : ∃ B', B' = ((rest.take (N - 1)).map pv_s).toArray := ⟨_, rfl⟩
  rw [← hB'] at b3
  have HB' := Lib.hid hB'
  clear hB hB'
  have c0' : w.cell? ⟨p, 0, none⟩ = some (.chan (some c)) := h.blk.cell 0
  have k1 : Kept (fun y => y = c) w (w.setChan c N B' false sn (rn + 1) false) := kept_setChan (S := fun y => y = c) (Kept.refl _ _) (fun _ => rfl) _ _ _ _ _ _
  have hc1 : (w.setChan c N B' false sn (rn + 1) false).heap[c]? = some (.chan N B' false sn (rn + 1) false) := heap_setChan _ _ _ _ _ _ _ _ h.ch.lt
  have bp1 := h.blk.kept k1 h.pc
  have lw1 : LW_s s (w.setChan c N B' false sn (rn + 1) false) := h.lw.kept k1 (fun y hy e => hy (by have h9 : y = c := e; rw [h9]; exact h.sc))
  have H := Lib.hid h
  have HC1 := Lib.hid hc1
  have K1 := Lib.hid k1
  have BP1 := Lib.hid bp1
  have LW1 := Lib.hid lw1
  clear h hc1 k1 bp1 lw1
  refine calls_of_fin Try.func23 rfl fun cs => ?_
  simp only [Try.ntmps23, List.size_toArray, List.length_cons, List.length_nil, Nat.reduceAdd, Nat.reduceSub, Array.replicate_succ, Array.replicate_zero, List.push_toArray, List.append_toArray, List.nil_append, List.cons_append]
  iterate 4 (refine Fin.seq ?_; refine Fin.code Try.func23 fun K hK => ?_; go_wp2_with fail)
  refine Fin.seq ?_
  refine Fin.region ?_
  refine Fin.sel_recv rfl rfl (c := c) (z := (.string ⟨#[]⟩)) (by simp [go_sem, execOp, rcase, Act.eval]) hc b2 ?_
  rw [b1, b3]
  simp only [Act.put, List.setIfInBounds_toArray, List.set_cons_succ, List.set_cons_zero, List.getElem_toArray, List.getElem_cons_zero, List.getElem_cons_succ]
  refine Fin.val (v := .int .i64 0) rfl rfl (by simp [go_sem, execOp, Act.eval, Act.put]) ?_
  simp only [Act.put, List.setIfInBounds_toArray, List.set_cons_succ, List.set_cons_zero, List.getElem_toArray, List.getElem_cons_zero, List.getElem_cons_succ]
  refine Fin.val (v := .bool true) rfl rfl (by simp [go_sem, execOp, Act.eval, Act.put]) ?_
  simp only [Act.put, List.setIfInBounds_toArray, List.set_cons_succ, List.set_cons_zero, List.getElem_toArray, List.getElem_cons_zero, List.getElem_cons_succ]
  refine Fin.rend ?_
  refine Fin.last Try.func23 ?_
  generalize w.setChan c N B' false sn (rn + 1) false = w1 at *
  clear c0' hc b1 b2 b3
  have d1 : w1.cell? ⟨p, 1, none⟩ = some (.pointer (some ⟨l, 0, none⟩)) := BP1.out.cell 1
  have hf := lfirst_s s w1 LW1.out l H.out.kl
  have hvals := H.out.vals
  have hN1 := H.out.n1
  rcases (show s.sq l = [] ∨ ∃ y ys, s.sq l = y :: ys by
    cases s.sq l with
    | nil => exact .inl rfl
    | cons y ys => exact .inr ⟨y, ys, rfl⟩) with hs | ⟨y, ys, hs⟩
  · rw [hs] at hf hvals
    have hf' : Calls Try.prog 36 #[.pointer (some ⟨l, 0, none⟩)] w1 fun e w' => e = .returned (.pointer none) ∧ w1 = w' := hf
    have hdl : (x :: rest).length ≤ N := by
      have := congrArg List.length hvals
      simp [valsOf_s] at this
      simp only [List.length_cons]; omega
    have HDL := Lib.hid hdl
    have HS := Lib.hid hs
    clear hf hvals hs hdl
    go_wp2_with fail
    refine hf'.mono ?_
    rintro e w2 ⟨rfl, rfl⟩
    go_wp2_with fail
    go_ret2
    have hl9 := HDL.out
    simp only [List.length_cons] at hl9
    refine ⟨rfl, K1.out.mono (fun _ _ e => .inr (.inr e)), s, ⟨BP1.out, ⟨sn, rn + 1, ?_⟩, LW1.out, H.out.kl, H.out.sp, H.out.sc, ?_, hN1⟩, rfl, fun _ _ => rfl⟩
    · rw [HC1.out, HB'.out, List.take_of_length_le (by omega), List.take_of_length_le (by omega)]
    · rw [HS.out, List.drop_eq_nil_of_le (by omega)]; rfl
  · rw [hs] at hvals
    have hf' : Calls Try.prog 36 #[.pointer (some ⟨l, 0, none⟩)] w1 fun e w' => e = .returned (.pointer (some ⟨y, 0, none⟩)) ∧ w1 = w' := by rw [hs] at hf; exact hf
    obtain ⟨M, rfl⟩ : ∃ M, N = M + 1 := ⟨N - 1, by omega⟩
    have hdr : rest.drop M ≠ [] := fun e => by
      rw [List.drop_succ_cons, e] at hvals
      simp [valsOf_s] at hvals
    obtain ⟨v1, more, hm⟩ : ∃ v1 more, rest.drop M = v1 :: more := by
      cases hh : rest.drop M with
      | nil => exact absurd hh hdr
      | cons a b => exact ⟨a, b, rfl⟩
    rw [List.drop_succ_cons, hm] at hvals
    have hvy : (s.nd y).val = .string v1 := by have := congrArg (fun l => l.head?) hvals; simpa [valsOf_s] using this
    have hvys : valsOf_s s ys = more.map pv_s := by have := congrArg List.tail hvals; simpa [valsOf_s] using this
    have hym : y ∈ s.sq l := by rw [hs]; simp
    have hky := (H.out.lw.inv.mem l y H.out.kl hym).1
    have hlsq : (s.sq l).length < 200000 := by rw [H.out.len]; simp only [List.length_cons]; omega
    have hun := oUnlink_s s w1 LW1.out l y H.out.kl hky (by omega)
    rw [if_pos hym] at hun
    have HUN := Lib.hid hun
    have HS := Lib.hid hs
    have HM := Lib.hid hm
    have HVY := Lib.hid hvy
    have HVYS := Lib.hid hvys
    have HKY := Lib.hid hky
    clear hf hvals hs hdr hm hvy hvys hym hun hky
    go_wp2_with fail
    refine hf'.mono ?_
    rintro e w2 ⟨rfl, rfl⟩
    go_wp2_with fail
    refine HUN.out.mono ?_
    rintro e w2 ⟨rfl, k2, s2, h2, d2, q2, v2⟩
    have hy2 := h2.nodes y (by rw [d2]; exact HKY.out)
    have e2 : (s2.nd y).val = .string v1 := (congrFun v2 y).trans HVY.out
    rw [e2] at hy2
    have cy0 := hy2.cell 0
    have bp2 := BP1.out.kept k2 (by have := H.out.sp; omega)
    have hc2 := (k2.block c (lt_of_block HC1.out) (by have := H.out.sc; omega)).trans HC1.out
    have e0 : w2.cell? ⟨p, 0, none⟩ = some (.chan (some c)) := bp2.cell 0
    have hroom : B'.size < M + 1 := by rw [HB'.out]; simp; omega
    have HH2 := Lib.hid h2
    have K2 := Lib.hid k2
    have D2 := Lib.hid d2
    have Q2 := Lib.hid q2
    have V2 := Lib.hid v2
    have BP2 := Lib.hid bp2
    have HC2 := Lib.hid hc2
    have HRM := Lib.hid hroom
    clear h2 k2 d2 q2 v2 bp2 hc2 hroom hy2 e2 hf' d1
    go_wp2_with fail
    refine (psend_s w2 p c (M + 1) B' sn (rn + 1) v1 e0 HC2.out HRM.out).mono ?_
    rintro e w3 ⟨rfl, rfl⟩
    go_wp2_with fail
    go_ret2
    have k3 : Kept (fun y => y = c) w2 (w2.setChan c (M + 1) (B'.push (.string v1)) false (sn + 1) (rn + 1) false) := kept_setChan (S := fun y => y = c) (Kept.refl _ _) (fun _ => rfl) _ _ _ _ _ _
    have hlt : M < rest.length := by
      have := congrArg List.length HM.out
      simp only [List.length_drop, List.length_cons] at this; omega
    have hgM : rest[M]? = some v1 := by rw [← List.head?_drop, HM.out]; rfl
    refine ⟨rfl, ((K1.out.mono (fun _ _ e => .inr (.inr e))).step K2.out (fun i _ hi => .inl hi)).step k3 (fun i _ e => .inr (.inr e)), s2, ⟨BP2.out.kept k3 H.out.pc, ⟨sn + 1, rn + 1, ?_⟩, HH2.out.kept k3 (fun z hz e => hz (by have h9 : z = c := e; rw [h9, D2.out]; exact H.out.sc)), by rw [D2.out]; exact H.out.kl, by rw [D2.out]; exact H.out.sp, by rw [D2.out]; exact H.out.sc, ?_, hN1⟩, D2.out, fun z hz => by rw [Q2.out, upd_ne _ _ hz]⟩
    · rw [heap_setChan _ _ _ _ _ _ _ _ (lt_of_block HC2.out), HB'.out, Nat.add_sub_cancel, List.take_add_one, hgM]
      simp
    · rw [Q2.out, upd_same, HS.out, List.erase_cons_head, show rest.drop (M + 1) = more by rw [← List.tail_drop, HM.out]; rfl, ← HVYS.out]
      exact List.map_congr_left fun z _ => congrFun V2.out z

end Go.Proofs.Ytlpmfiplcikfpaa
