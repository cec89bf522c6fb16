/-
  What stands here: a pipe of firings, and what its functions answer. Under no condition but that the world holds it.
-/
import Derived.Test.YtbikganlloopbaaFin
import Derived.Test.YtbikganlloopbaaFList
import Derived.Deep.RegionWith
import Derived.Deep.CutRange
import Derived.Deep.CutBlock
namespace Go.Proofs.Ytbikganlloopbaa
set_option linter.unusedVariables false
set_option linter.unusedSimpArgs false
open Go.RowKit Go.Proofs
open Go.Conc
def valsOf_f (s : LS) (xs : List Nat) : List Value := xs.map fun x => (s.nd x).val
abbrev pv_f : FiringV → Value := fun x => x.v
/-- a pipe of firings -/
structure PW_f (s : LS) (W : World) (p c l N : Nat) (xs : List FiringV) (most : Nat) (shut : Bool) : Prop where
  blk : Blk W p #[.chan (some c), .pointer (some ⟨l, 0, none⟩), .int .i64 most, .bool shut] 104
  ch : Chn W c N ((xs.take N).map pv_f).toArray
  lw : LW_f s W
  kl : s.kd l = 1
  sp : s.kd p = 0
  sc : s.kd c = 0
  vals : valsOf_f s (s.sq l) = (xs.drop N).map pv_f
  n1 : 1 ≤ N
section
variable {s : LS} {W : World} {p c l N : Nat} {xs : List FiringV} {most : Nat} {shut : Bool}
theorem PW_f.pc (h : PW_f s W p c l N xs most shut) : p ≠ c := fun e => by
  obtain ⟨a, b, hc⟩ := h.ch
  have hb := h.blk
  unfold Blk at hb
  rw [e, hc] at hb; cases hb
theorem PW_f.kept (h : PW_f s W p c l N xs most shut) {S : Nat → Prop} {W' : World} (k : Kept S W W') (hS : ∀ y, s.kd y ≠ 0 ∨ y = p ∨ y = c → ¬ S y) : PW_f s W' p c l N xs most shut :=
  ⟨h.blk.kept k (hS p (.inr (.inl rfl))), h.ch.kept k (hS c (.inr (.inr rfl))), h.lw.kept k (fun x hx => hS x (.inl hx)), h.kl, h.sp, h.sc, h.vals, h.n1⟩
theorem PW_f.still (h : PW_f s W p c l N xs most shut) {W' : World} (k : Still W W') : PW_f s W' p c l N xs most shut := h.kept k (fun _ _ f => f)
theorem PW_f.len (h : PW_f s W p c l N xs most shut) : (s.sq l).length = xs.length - N := by
  have := congrArg List.length h.vals
  simp [valsOf_f] at this
  exact this
end
/-- the box of a firing -/
abbrev boxF (v : FiringV) : Obj := .cells #[.int .u64 v.id, .int .u64 v.gen, .int .u64 v.dl, .int .u64 v.tick] 40
theorem boxf_cells (w : World) (v : FiringV) : (w.alloc (boxF v)).cell? ⟨w.heap.size, 0, none⟩ = some (.int .u64 v.id) ∧ (w.alloc (boxF v)).cell? ⟨w.heap.size, 1, none⟩ = some (.int .u64 v.gen) ∧ (w.alloc (boxF v)).cell? ⟨w.heap.size, 2, none⟩ = some (.int .u64 v.dl) ∧ (w.alloc (boxF v)).cell? ⟨w.heap.size, 3, none⟩ = some (.int .u64 v.tick) := by
  have b : Blk (w.alloc (boxF v)) w.heap.size #[.int .u64 v.id, .int .u64 v.gen, .int .u64 v.dl, .int .u64 v.tick] 40 := Blk.new w _ _
  exact ⟨b.cell 0, b.cell 1, b.cell 2, b.cell 3⟩
set_option maxHeartbeats 1000000 in
set_option maxRecDepth 100000 in
theorem psend_f (w : World) (p c cap : Nat) (buf : Array Value) (s r : Nat) (v : FiringV) (hp : w.cell? ⟨p, 0, none⟩ = some (.chan (some c))) (hc : w.heap[c]? = some (.chan cap buf false s r false)) (hroom : buf.size < cap) :
    Calls Try.prog 38 #[.pointer (some ⟨p, 0, none⟩), v.v] w fun e w' => e = .returned (.bool true) ∧ w' = (w.alloc (boxF v)).setChan c cap (buf.push v.v) false (s + 1) r false := by
  obtain ⟨d0, d1, d2, d3⟩ := boxf_cells w v
  have k0 : Still w (w.alloc (boxF v)) := (still_refl w).alloc _
  have hp' : (w.alloc (boxF v)).cell? ⟨p, 0, none⟩ = some (.chan (some c)) := (World.cell?_of_block (a := ⟨p, 0, none⟩) (k0.block p (lt_of_cell hp) (fun f => f))).trans hp
  have hc' : (w.alloc (boxF v)).heap[c]? = some (.chan cap buf false s r false) := (k0.block c (lt_of_block hc) (fun f => f)).trans hc
  have HC := Lib.hid hc'
  obtain ⟨vi, vg, vd, vt⟩ := v
  simp only [boxF, FiringV.v] at hp' d0 d1 d2 d3 HC ⊢
  clear k0 hp hc hc'
  refine calls_of_fin Try.func38 rfl fun cs => ?_
  simp only [Try.ntmps38, List.size_toArray, List.length_cons, List.length_nil, Nat.reduceAdd, Nat.reduceSub, Array.replicate_succ, Array.replicate_zero, List.push_toArray, List.append_toArray, List.nil_append, List.cons_append]
  refine Fin.seq ?_
  refine Fin.code Try.func38 fun K hK => ?_
  go_wp2_with fail
  refine Fin.seq ?_
  refine Fin.code Try.func38 fun K hK => ?_
  go_wp2_with fail
  refine Fin.seq ?_
  refine Fin.region ?_
  refine Fin.sel_send rfl rfl (c := c) (v := .agg #[.int .u64 vi, .int .u64 vg, .int .u64 vd, .int .u64 vt]) (z := .agg #[.int .u64 0, .int .u64 0, .int .u64 0, .int .u64 0]) (by simp [go_sem, execOp, scase, Act.eval]) HC.out hroom ?_
  simp only [Act.put, List.setIfInBounds_toArray, List.set_cons_succ, List.set_cons_zero, List.getElem_toArray, List.getElem_cons_zero, List.getElem_cons_succ]
  refine Fin.val (v := .int .i64 0) rfl rfl (by simp [go_sem, execOp, Act.eval, Act.put]) ?_
  simp only [Act.put, List.setIfInBounds_toArray, List.set_cons_succ, List.set_cons_zero, List.getElem_toArray, List.getElem_cons_zero, List.getElem_cons_succ]
  refine Fin.val (v := .bool true) rfl rfl (by simp [go_sem, execOp, Act.eval, Act.put]) ?_
  simp only [Act.put, List.setIfInBounds_toArray, List.set_cons_succ, List.set_cons_zero, List.getElem_toArray, List.getElem_cons_zero, List.getElem_cons_succ]
  refine Fin.rend ?_
  refine Fin.last Try.func38 ?_
  go_wp2_with fail
  go_ret
  exact ⟨rfl, rfl⟩
set_option maxHeartbeats 1000000 in
set_option maxRecDepth 100000 in
theorem psend_full_f (w : World) (p c cap : Nat) (buf : Array Value) (s r : Nat) (v : FiringV) (hp : w.cell? ⟨p, 0, none⟩ = some (.chan (some c))) (hc : w.heap[c]? = some (.chan cap buf false s r false)) (hfull : cap ≤ buf.size) :
    Calls Try.prog 38 #[.pointer (some ⟨p, 0, none⟩), v.v] w fun e w' => e = .returned (.bool false) ∧ w' = w.alloc (boxF v) := by
  obtain ⟨d0, d1, d2, d3⟩ := boxf_cells w v
  have k0 : Still w (w.alloc (boxF v)) := (still_refl w).alloc _
  have hp' : (w.alloc (boxF v)).cell? ⟨p, 0, none⟩ = some (.chan (some c)) := (World.cell?_of_block (a := ⟨p, 0, none⟩) (k0.block p (lt_of_cell hp) (fun f => f))).trans hp
  have hc' : (w.alloc (boxF v)).heap[c]? = some (.chan cap buf false s r false) := (k0.block c (lt_of_block hc) (fun f => f)).trans hc
  have HC := Lib.hid hc'
  obtain ⟨vi, vg, vd, vt⟩ := v
  simp only [boxF, FiringV.v] at hp' d0 d1 d2 d3 HC ⊢
  clear k0 hp hc hc'
  refine calls_of_fin Try.func38 rfl fun cs => ?_
  simp only [Try.ntmps38, List.size_toArray, List.length_cons, List.length_nil, Nat.reduceAdd, Nat.reduceSub, Array.replicate_succ, Array.replicate_zero, List.push_toArray, List.append_toArray, List.nil_append, List.cons_append]
  refine Fin.seq ?_
  refine Fin.code Try.func38 fun K hK => ?_
  go_wp2_with fail
  refine Fin.seq ?_
  refine Fin.code Try.func38 fun K hK => ?_
  go_wp2_with fail
  refine Fin.seq ?_
  refine Fin.region ?_
  refine Fin.sel_send_full rfl rfl (c := c) (v := .agg #[.int .u64 vi, .int .u64 vg, .int .u64 vd, .int .u64 vt]) (z := .agg #[.int .u64 0, .int .u64 0, .int .u64 0, .int .u64 0]) (by simp [go_sem, execOp, scase, Act.eval]) HC.out hfull ?_
  simp only [Act.put, List.setIfInBounds_toArray, List.set_cons_succ, List.set_cons_zero, List.getElem_toArray, List.getElem_cons_zero, List.getElem_cons_succ]
  refine Fin.val (v := .int .i64 (-1)) rfl rfl (by simp [go_sem, execOp, Act.eval, Act.put]) ?_
  simp only [Act.put, List.setIfInBounds_toArray, List.set_cons_succ, List.set_cons_zero, List.getElem_toArray, List.getElem_cons_zero, List.getElem_cons_succ]
  refine Fin.val (v := .bool false) rfl rfl (by simp [go_sem, execOp, Act.eval, Act.put]) ?_
  simp only [Act.put, List.setIfInBounds_toArray, List.set_cons_succ, List.set_cons_zero, List.getElem_toArray, List.getElem_cons_zero, List.getElem_cons_succ]
  refine Fin.rend ?_
  refine Fin.last Try.func38 ?_
  go_wp2_with fail
  go_ret
  exact ⟨rfl, rfl⟩
theorem take_push_f {xs : List FiringV} {N : Nat} (h : xs.length < N) (v : FiringV) : (((xs.take N).map pv_f).toArray.push v.v) = (((xs ++ [v]).take N).map pv_f).toArray ∧ (xs ++ [v]).drop N = [] ∧ xs.drop N = [] := by
  refine ⟨?_, List.drop_eq_nil_of_le (by simp; omega), List.drop_eq_nil_of_le (by omega)⟩
  rw [List.take_of_length_le (by omega), List.take_of_length_le (by simp; omega)]
  simp
theorem take_size_f (xs : List FiringV) (N : Nat) : ((xs.take N).map pv_f).toArray.size = min N xs.length := by simp
set_option maxRecDepth 100000 in
set_option maxHeartbeats 2000000 in
theorem pput_room_f {s : LS} {p c l N : Nat} {xs : List FiringV} {most : Nat} (w : World) (h : PW_f s w p c l N xs most false) (v : FiringV) (hN : xs.length < N) :
    Calls Try.prog 13 #[.pointer (some ⟨p, 0, none⟩), v.v] w fun e w' => e = .returned (.tuple #[.bool false, .int .i64 0]) ∧ Kept (fun y => y = c) w w' ∧ PW_f s w' p c l N (xs ++ [v]) most false := by
  obtain ⟨w0, hw0⟩ : ∃ w0, w0 = w.alloc (boxF v) := ⟨_, rfl⟩
  obtain ⟨A, hA⟩ : ∃ A, A = w.heap.size := ⟨_, rfl⟩
  have k0 : Still w w0 := by rw [hw0]; exact (still_refl w).alloc _
  obtain ⟨d0, d1, d2, d3⟩ := boxf_cells w v
  rw [← hw0, ← hA] at d0 d1 d2 d3
  have h0 := h.still k0
  have hlen := h0.len
  have c0 : w0.cell? ⟨p, 0, none⟩ = some (.chan (some c)) := h0.blk.cell 0
  have c1 : w0.cell? ⟨p, 1, none⟩ = some (.pointer (some ⟨l, 0, none⟩)) := h0.blk.cell 1
  have c3 : w0.cell? ⟨p, 3, none⟩ = some (.bool false) := h0.blk.cell 3
  obtain ⟨sn, rn, hc⟩ := h0.ch
  obtain ⟨B, hB⟩ : ∃ B, B = ((xs.take N).map pv_f).toArray := ⟨_, rfl⟩
  rw [← hB] at hc
  have hBs : B.size = min N xs.length := by rw [hB]; exact take_size_f xs N
  have hl := llen_f s w0 h0.lw l h0.kl
  rw [hlen, show xs.length - N = 0 by omega] at hl
  have HS := Lib.hid (psend_f w0 p c N B sn rn v c0 hc (by omega))
  have HL := Lib.hid hl
  have HB := Lib.hid hB
  have H := Lib.hid h0
  have HC := Lib.hid hc
  have K0 := Lib.hid k0
  have HW := Lib.hid hw0
  have HA := Lib.hid hA
  clear h h0 hlen hc hB hBs hl k0 hw0 hA
  obtain ⟨t1, t2, t3⟩ := take_push_f hN v
  have HT := Lib.hid (And.intro t1 (And.intro t2 t3))
  clear t1 t2 t3 hN
  obtain ⟨vi, vg, vd, vt⟩ := v
  simp only [FiringV.v] at d0 d1 d2 d3 HS HT ⊢
  have HW' := HW.out
  simp only [boxF] at HW'
  have HWW := Lib.hid HW'
  clear HW'
  go_enter Try.func13, Try.ntmps13
  go_upto_region 3 with fail
  rw [← HWW.out, ← HA.out]
  go_wp2_with fail
  refine HL.out.mono ?_
  rintro e w1 ⟨rfl, rfl⟩
  go_wp2_with fail
  refine HS.out.mono ?_
  rintro e w1 ⟨rfl, rfl⟩
  go_wp2_with fail
  go_ret2
  obtain ⟨t1, t2, t3⟩ := HT.out
  have ka : Still w0 (w0.alloc (boxF ⟨vi, vg, vd, vt⟩)) := (still_refl w0).alloc _
  have P1 := H.out.still ka
  have k1 : Kept (fun y => y = c) (w0.alloc (boxF ⟨vi, vg, vd, vt⟩)) ((w0.alloc (boxF ⟨vi, vg, vd, vt⟩)).setChan c N (B.push (.agg #[.int .u64 vi, .int .u64 vg, .int .u64 vd, .int .u64 vt])) false (sn + 1) rn false) := kept_setChan (S := fun y => y = c) (Kept.refl _ _) (fun _ => rfl) _ _ _ _ _ _
  have k9 := ((K0.out.trans ka).mono (T := fun y => y = c) (fun _ _ f => f.elim)).step k1 (fun _ _ e => e)
  refine ⟨rfl, k9, ⟨P1.blk.kept k1 P1.pc, ⟨sn + 1, rn, ?_⟩, P1.lw.kept k1 (fun x hx e => hx (by have h9 : x = c := e; rw [h9]; exact P1.sc)), P1.kl, P1.sp, P1.sc, ?_, P1.n1⟩⟩
  · rw [heap_setChan _ _ _ _ _ _ _ _ P1.ch.lt, HB.out, t1]
  · rw [P1.vals, t2, t3]
theorem buf_head_f (x : FiringV) (rest : List FiringV) {N : Nat} (h : 1 ≤ N) : (((x :: rest).take N).map pv_f).toArray.getD 0 undef = x.v ∧ 0 < (((x :: rest).take N).map pv_f).toArray.size ∧ (((x :: rest).take N).map pv_f).toArray.extract 1 (((x :: rest).take N).map pv_f).toArray.size = ((rest.take (N - 1)).map pv_f).toArray := by
  obtain ⟨M, rfl⟩ : ∃ M, N = M + 1 := ⟨N - 1, by omega⟩
  refine ⟨by simp, by simp, ?_⟩
  apply Array.ext'
  simp
  exact List.take_of_length_le (by simp)
theorem boxf_set {w : World} {A : Nat} {T : TypeId} {x0 x1 x2 x3 : Value} (b : Blk w A #[x0, x1, x2, x3] T) (vi vg vd vt : Int) : ∃ w4, w4 = ((((w.setCell ⟨A, 0, none⟩ (.int .u64 vi)).setCell ⟨A, 1, none⟩ (.int .u64 vg)).setCell ⟨A, 2, none⟩ (.int .u64 vd)).setCell ⟨A, 3, none⟩ (.int .u64 vt)) ∧ Kept (· = A) w w4 ∧ Blk w4 A #[.int .u64 vi, .int .u64 vg, .int .u64 vd, .int .u64 vt] T :=
  ⟨_, rfl, ((((Kept.refl _ w).put 0 _).put 1 _).put 2 _).put 3 _, (((b.set 0 _).set 1 _).set 2 _).set 3 _⟩
/-- the zero of a firing, in a box -/
abbrev zoF : Obj := .cells #[.int .u64 0, .int .u64 0, .int .u64 0, .int .u64 0] 40
set_option maxRecDepth 100000 in
set_option maxHeartbeats 2000000 in
theorem ptake_room_f {s : LS} {p c l N : Nat} {x : FiringV} {rest : List FiringV} {most : Nat} {shut : Bool} (w : World) (h : PW_f s w p c l N (x :: rest) most shut) (hx : rest.length < N) :
    Calls Try.prog 58 #[.pointer (some ⟨p, 0, none⟩)] w fun e w' => e = .returned (.tuple #[x.v, .int .i64 0]) ∧ Kept (fun y => y = c) w w' ∧ PW_f s w' p c l N rest most shut := by
  obtain ⟨w0, hw0⟩ : ∃ w0, w0 = (w.alloc zoF).alloc zoF := ⟨_, rfl⟩
  have k0 : Still w w0 := by rw [hw0]; exact ((still_refl w).alloc _).alloc _
  have h0 := h.still k0
  have c0 : w0.cell? ⟨p, 0, none⟩ = some (.chan (some c)) := h0.blk.cell 0
  have c0' := c0
  rw [hw0] at c0'
  have hwl := hw0
  simp only [zoF] at c0' hwl
  obtain ⟨b1, b2, b3⟩ := buf_head_f x rest h.n1
  obtain ⟨sn, rn, hc⟩ := h0.ch
  obtain ⟨B, hB⟩ : ∃ B, B = (((x :: rest).take N).map pv_f).toArray := ⟨_, rfl⟩
  rw [← hB] at hc b1 b2 b3
  obtain ⟨B', hB'⟩ : ∃ B', B' = ((rest.take (N - 1)).map pv_f).toArray := ⟨_, rfl⟩
  rw [← hB'] at b3
  have k1 : Kept (fun y => y = c) w0 (w0.setChan c N B' false sn (rn + 1) false) := kept_setChan (S := fun y => y = c) (Kept.refl _ _) (fun _ => rfl) _ _ _ _ _ _
  have hc1 : (w0.setChan c N B' false sn (rn + 1) false).heap[c]? = some (.chan N B' false sn (rn + 1) false) := heap_setChan _ _ _ _ _ _ _ _ h0.ch.lt
  have bp1 := h0.blk.kept k1 h0.pc
  have lw1 : LW_f s (w0.setChan c N B' false sn (rn + 1) false) := h0.lw.kept k1 (fun y hy e => hy (by have h9 : y = c := e; rw [h9]; exact h0.sc))
  have hcw : c < w.heap.size := h.ch.lt
  have HPW := Lib.hid h.blk.lt
  have HFR := Lib.hid (h.lw.fresh w.heap.size (Nat.le_refl _))
  obtain ⟨A, hA⟩ : ∃ A, A = w.heap.size := ⟨_, rfl⟩
  have bz0 : Blk w0 A #[.int .u64 0, .int .u64 0, .int .u64 0, .int .u64 0] 40 := by rw [hw0, hA]; exact (Blk.new w _ _).alloc _
  have bz1 := bz0.kept k1 (by show A ≠ c; omega)
  have hsl : s.sq l = [] := List.eq_nil_of_length_eq_zero (by rw [h0.len]; simp only [List.length_cons]; omega)
  have P1 : PW_f s (w0.setChan c N B' false sn (rn + 1) false) p c l N rest most shut := ⟨bp1, ⟨sn, rn + 1, by rw [hc1, hB', List.take_of_length_le (by omega), List.take_of_length_le (by omega)]⟩, lw1, h0.kl, h0.sp, h0.sc, by rw [hsl, List.drop_eq_nil_of_le (by omega)]; rfl, h0.n1⟩
  have HP1 := Lib.hid P1
  have HSL := Lib.hid hsl
  have K1 := Lib.hid (((k0.mono (T := fun y => y = c) (fun _ _ f => f.elim)).step k1 (fun _ _ e => e)))
  have HZ := Lib.hid bz1
  have HWL := Lib.hid hwl
  have HC := Lib.hid hc
  have hAb : A < w0.heap.size := bz0.lt
  have HAB := Lib.hid hAb
  have HA := Lib.hid hA
  rw [← hA] at HPW HFR
  have HS1 := Lib.hid (show (w0.setChan c N B' false sn (rn + 1) false).heap.size = w0.heap.size by simp [World.setChan])
  clear hsl P1 bz0 bz1 bp1 lw1 hc1 k1 h0 hwl hw0 c0 k0 hc hAb hA hB' hB
  refine calls_of_fin Try.func58 rfl fun cs => ?_
  simp only [Try.ntmps58, List.size_toArray, List.length_cons, List.length_nil, Nat.reduceAdd, Nat.reduceSub, Array.replicate_succ, Array.replicate_zero, List.push_toArray, List.append_toArray, List.nil_append, List.cons_append]
  iterate 4 (refine Fin.seq ?_; refine Fin.code Try.func58 fun K hK => ?_; go_wp2_with fail)
  rw [← HWL.out, ← HA.out]
  refine Fin.seq ?_
  refine Fin.region ?_
  refine Fin.sel_recv rfl rfl (c := c) (z := .agg #[.int .u64 0, .int .u64 0, .int .u64 0, .int .u64 0]) (by simp [go_sem, execOp, rcase, Act.eval]) HC.out b2 ?_
  rw [b1, b3]
  simp only [Act.put, List.setIfInBounds_toArray, List.set_cons_succ, List.set_cons_zero, List.getElem_toArray, List.getElem_cons_zero, List.getElem_cons_succ]
  refine Fin.val (v := .int .i64 0) rfl rfl (by simp [go_sem, execOp, Act.eval, Act.put]) ?_
  simp only [Act.put, List.setIfInBounds_toArray, List.set_cons_succ, List.set_cons_zero, List.getElem_toArray, List.getElem_cons_zero, List.getElem_cons_succ]
  refine Fin.val (v := .bool true) rfl rfl (by simp [go_sem, execOp, Act.eval, Act.put]) ?_
  simp only [Act.put, List.setIfInBounds_toArray, List.set_cons_succ, List.set_cons_zero, List.getElem_toArray, List.getElem_cons_zero, List.getElem_cons_succ]
  refine Fin.rend ?_
  refine Fin.last Try.func58 ?_
  generalize w0.setChan c N B' false sn (rn + 1) false = w1 at *
  clear c0' b1 b2 b3
  obtain ⟨vi, vg, vd, vt⟩ := x
  simp only [FiringV.v]
  obtain ⟨w2, hw2⟩ : ∃ w2, w2 = w1.alloc (.cells #[.int .u64 vi, .int .u64 vg, .int .u64 vd, .int .u64 vt] 40) := ⟨_, rfl⟩
  have k2 : Still w1 w2 := by rw [hw2]; exact (still_refl w1).alloc _
  have b2 : Blk w2 w1.heap.size #[.int .u64 vi, .int .u64 vg, .int .u64 vd, .int .u64 vt] 40 := by rw [hw2]; exact Blk.new _ _ _
  obtain ⟨D, hD⟩ : ∃ D, D = w1.heap.size := ⟨_, rfl⟩
  rw [← hD] at b2
  have P2 := HP1.out.still k2
  have z2 := HZ.out.still k2
  have hf : Calls Try.prog 74 #[.pointer (some ⟨l, 0, none⟩)] w2 fun e w' => e = .returned (.pointer none) ∧ w2 = w' := by
    have := lfirst_f s w2 P2.lw l P2.kl
    rw [HSL.out] at this; exact this
  have d1 : w2.cell? ⟨p, 1, none⟩ = some (.pointer (some ⟨l, 0, none⟩)) := P2.blk.cell 1
  have e0 : w2.cell? ⟨D, 0, none⟩ = some (.int .u64 vi) := b2.cell 0
  have e1 : w2.cell? ⟨D, 1, none⟩ = some (.int .u64 vg) := b2.cell 1
  have e2 : w2.cell? ⟨D, 2, none⟩ = some (.int .u64 vd) := b2.cell 2
  have e3 : w2.cell? ⟨D, 3, none⟩ = some (.int .u64 vt) := b2.cell 3
  have g0 : w2.cell? ⟨A, 0, none⟩ = some (.int .u64 0) := z2.cell 0
  have g1 : w2.cell? ⟨A, 1, none⟩ = some (.int .u64 0) := z2.cell 1
  have g2 : w2.cell? ⟨A, 2, none⟩ = some (.int .u64 0) := z2.cell 2
  have g3 : w2.cell? ⟨A, 3, none⟩ = some (.int .u64 0) := z2.cell 3
  have f0 := z2.free 0
  have f1 := z2.free 1
  have f2 := z2.free 2
  have f3 := z2.free 3
  have HF := Lib.hid hf
  have HW2 := Lib.hid hw2
  have K2 := Lib.hid k2
  have HP2 := Lib.hid P2
  have HZ2 := Lib.hid z2
  have HD := Lib.hid hD
  clear hf hw2 k2 P2 z2 b2 hD
  go_upto_region 8 with fail
  rw [← HW2.out, ← HD.out]
  go_wp2_with fail
  refine HF.out.mono ?_
  rintro e w3 ⟨rfl, rfl⟩
  go_wp2_with fail
  obtain ⟨w4, hw4, k4, b4⟩ := boxf_set HZ2.out vi vg vd vt
  rw [← hw4]
  have p0 : w4.cell? ⟨A, 0, none⟩ = some (.int .u64 vi) := b4.cell 0
  have p1 : w4.cell? ⟨A, 1, none⟩ = some (.int .u64 vg) := b4.cell 1
  have p2 : w4.cell? ⟨A, 2, none⟩ = some (.int .u64 vd) := b4.cell 2
  have p3 : w4.cell? ⟨A, 3, none⟩ = some (.int .u64 vt) := b4.cell 3
  refine bodyPost_ret (v := .tuple #[.agg #[.int .u64 vi, .int .u64 vg, .int .u64 vd, .int .u64 vt], .int .i64 0]) (by simp [results, Try.f58, go_sem, p0, p1, p2, p3]) rfl ?_
  have hA := HA.out
  have hpA : p ≠ A := fun e => by have := HPW.out; omega
  have hcA : c ≠ A := fun e => by omega
  refine ⟨rfl, (K1.out.step K2.out (fun _ _ f => f.elim)).step k4 (fun i hi e => absurd hi (by omega)), HP2.out.kept k4 ?_⟩
  rintro y (h9 | h9 | h9) e
  · exact h9 (by have h8 : y = A := e; rw [h8]; exact HFR.out)
  · exact hpA (h9 ▸ e)
  · exact hcA (h9 ▸ e)
set_option maxRecDepth 100000 in
theorem pnew_no_f (w : World) (n : Int) (hn : n < 1 ∨ 16 < n) :
    Calls Try.prog 32 #[.int .i64 n] w fun e w' => e = .returned (.tuple #[.pointer none, .int .i64 4]) ∧ w = w' := by
  by_cases h1 : n < 1
  · go_enter Try.func32, Try.ntmps32
    go_wp2_with fail
    go_ret2
    exact ⟨rfl, rfl⟩
  · have h2 : 16 < n := by omega
    go_enter Try.func32, Try.ntmps32
    go_wp2_with fail
    go_ret2
    exact ⟨rfl, rfl⟩
set_option maxRecDepth 100000 in
set_option maxHeartbeats 1000000 in
theorem pnew_f (s : LS) (w : World) (h : LW_f s w) (n : Nat) (hn1 : 1 ≤ n) (hn2 : n ≤ 16) :
    Calls Try.prog 32 #[.int .i64 n] w fun e w' => ∃ p c l s', e = .returned (.tuple #[.pointer (some ⟨p, 0, none⟩), .int .i64 0]) ∧ PW_f s' w' p c l n [] 0 false ∧ Still w w' ∧ (∀ y, y < w.heap.size → s'.kd y = s.kd y) ∧ w.heap.size ≤ p ∧ w.heap.size ≤ c ∧ w.heap.size ≤ l ∧ s'.sq = upd s.sq l [] := by
  have hmc := fun w => run_makeChan (P := Try.prog) (w := w) Try.underlying101 (i := (Try.prog.info? 40).getD default) (by kernel_rfl) .i64 n (by omega) (by rw [show ((Try.prog.info? 40).getD default).bytes = 32 by kernel_rfl]; omega)
  go_enter Try.func32, Try.ntmps32
  go_upto_region 3 with fail
  go_region_with (refine (oNew_f s _ (h.still (by (repeat (first | (with_reducible exact Kept.refl _ _) | (with_reducible refine Kept.drewN ?_ _) | (with_reducible refine Kept.drew ?_) | (with_reducible refine Kept.put ?_ _ _) | (with_reducible refine Kept.alloc ?_ _)))))).mono ?_; rintro e w1 ⟨rfl, z1, k1, s1, h1, n1, l1, q1, v1⟩)
  · go_wp2_with fail
    go_ret2
    have kA : Still w w1 := Still.then (((still_refl w).drewN 1).alloc (.chan n #[] false 0 0 false)) k1
    have hcA : w1.heap[w.heap.size]? = some (.chan n #[] false 0 0 false) := (k1.block w.heap.size (by simp [World.drew]) (fun f => f)).trans (heap_alloc_new w.drew _)
    have hcl := lt_of_block hcA
    have k2 : Still w1 (w1.alloc (.cells #[.chan (some w.heap.size), .pointer (some ⟨w.heap.size + 1 + 1, 0, none⟩), .int .i64 0, .bool false] 104)) := by (repeat (first | (with_reducible exact Kept.refl _ _) | (with_reducible refine Kept.drewN ?_ _) | (with_reducible refine Kept.drew ?_) | (with_reducible refine Kept.put ?_ _ _) | (with_reducible refine Kept.alloc ?_ _)))
    have hk0 : ∀ y, y < w.heap.size + 1 → s1.kd y = s.kd y := fun y hy => n1 y (by simpa using hy)
    have q1' : s1.sq = upd s.sq (w.heap.size + 1 + 1) [] := by rw [q1]; simp
    have l1' : s1.kd (w.heap.size + 1 + 1) = 1 := by simpa using l1
    refine ⟨_, _, _, s1, rfl, ⟨Blk.new _ _ _, ⟨0, 0, (k2.block _ hcl (fun f => f)).trans ?_⟩, h1.still k2, l1', h1.fresh _ (Nat.le_refl _), (hk0 _ (by omega)).trans (h.fresh _ (Nat.le_refl _)), ?_, hn1⟩, kA.of_still k2, fun y hy => hk0 y (by omega), kA.size, Nat.le_refl _, by omega, q1'⟩
    · rw [hcA]; simp
    · rw [q1', upd_same]; simp [valsOf_f]
  · go_wp2_with fail
    go_ret2
    have kA : Still w w1 := Still.then ((still_refl w).drewN 1) k1
    have hz1 := kA.size
    have k2 : Still w1 ((w1.alloc (.chan n #[] false 0 0 false)).alloc (.cells #[.chan (some w1.heap.size), .pointer (some ⟨w.heap.size + 1, 0, none⟩), .int .i64 0, .bool false] 104)) := by (repeat (first | (with_reducible exact Kept.refl _ _) | (with_reducible refine Kept.drewN ?_ _) | (with_reducible refine Kept.drew ?_) | (with_reducible refine Kept.put ?_ _ _) | (with_reducible refine Kept.alloc ?_ _)))
    have q1' : s1.sq = upd s.sq (w.heap.size + 1) [] := by rw [q1]; simp
    have l1' : s1.kd (w.heap.size + 1) = 1 := by simpa using l1
    have hcB : ((w1.alloc (.chan n #[] false 0 0 false)).alloc (.cells #[.chan (some w1.heap.size), .pointer (some ⟨w.heap.size + 1, 0, none⟩), .int .i64 0, .bool false] 104)).heap[w1.heap.size]? = some (.chan n #[] false 0 0 false) := by
      rw [Below.heap_alloc _ _ _ (by simp)]; exact heap_alloc_new w1 _
    refine ⟨_, _, _, s1, rfl, ⟨Blk.newAt _ _ _ (by simp), ⟨0, 0, ?_⟩, h1.still k2, l1', h1.fresh _ (by omega), h1.fresh _ (Nat.le_refl _), ?_, hn1⟩, kA.of_still k2, fun y hy => n1 y hy, by omega, hz1, by omega, q1'⟩
    · rw [hcB]; simp
    · rw [q1', upd_same]; simp [valsOf_f]

section
variable {s : LS} {p c l N : Nat} {xs : List FiringV} {most : Nat} {shut : Bool}
set_option maxRecDepth 100000 in
theorem plen_f (w : World) (h : PW_f s w p c l N xs most shut) (hx : xs.length < 100000) : Calls Try.prog 45 #[.pointer (some ⟨p, 0, none⟩)] w fun e w' => e = .returned (.int .i64 xs.length) ∧ Still w w' := by
  have c0 : w.cell? ⟨p, 0, none⟩ = some (.chan (some c)) := h.blk.cell 0
  have c1 : w.cell? ⟨p, 1, none⟩ = some (.pointer (some ⟨l, 0, none⟩)) := h.blk.cell 1
  obtain ⟨sn, rn, hc⟩ := h.ch
  have hlen : ∀ n ty, (Builtin.len_ #[101] ty #[.chan (some c)]).run Try.prog (w.drewN n) = .ok (goInt (min N xs.length : Nat)) (w.drewN n) := fun n ty => by
    have hc' : (w.drewN n).heap[c]? = some (.chan N ((xs.take N).map pv_f).toArray false sn rn false) := hc
    have := run_len_chan (P := Try.prog) 101 ty Try.underlying101 hc'
    rw [take_size_f] at this
    exact this
  have hl : ∀ n, Calls Try.prog 37 #[.pointer (some ⟨l, 0, none⟩)] (w.drewN n) fun e w' => e = .returned (.int .i64 (xs.length - N : Nat)) ∧ w' = w.drewN n := fun n => by
    have := llen_f s (w.drewN n) (h.lw.still ((still_refl w).drewN n)) l h.kl
    rw [h.len] at this
    exact this.mono fun e w' h9 => ⟨h9.1, h9.2.symm⟩
  have HL := Lib.hid hl
  clear h hl hc
  obtain ⟨m, hm⟩ : ∃ m, m = min N xs.length := ⟨_, rfl⟩
  obtain ⟨q, hq⟩ : ∃ q, q = xs.length - N := ⟨_, rfl⟩
  rw [← hm] at hlen
  rw [← hq] at HL
  have e9 : (m : Int) + q = xs.length := by omega
  have E9 := Lib.hid e9
  have hmb : m < 200000 := by omega
  have hqb : q < 200000 := by omega
  clear hm hq e9
  generalize xs.length = X at *
  go_enter Try.func45, Try.ntmps45
  go_upto_region 3 with fail
  go_quiet (exact Calls.quiet_of_same (HL.out _))
  go_wp2_with fail
  go_ret
  exact ⟨by rw [← E9.out]; rfl, (still_refl w).drewN _⟩
end

end Go.Proofs.Ytbikganlloopbaa
