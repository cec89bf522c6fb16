/-
  What stands here: all values of a list of firings. Under no condition but that the world holds it.
-/
import Derived.Test.YtbikganlloopbaaFRow
import Derived.Test.YtbikganlloopbaaListIter
namespace Go.Proofs.Ytbikganlloopbaa
set_option linter.unusedVariables false
set_option linter.unusedSimpArgs false
open Go.RowKit Go.Proofs
attribute [local go_sem] Oper.semAt_some
def NextOkF (l : Nat) (xs pre : List Nat) (W : World) : Prop :=
  (pre = [] → W.cell? ⟨l, 0, none⟩ = some (ptrO (hd xs none))) ∧ ∀ x rest, xs = pre ++ x :: rest → W.cell? ⟨x, 5, none⟩ = some (ptrO (hd rest none))
theorem nodes1_in_f (n : Nat) (hn : 1 ≤ n) (li T l : Nat) (xs : List Nat) (tt : TypeId) (J Jx : List Nat → World → Prop)
    (W : World) (hnd : xs.Nodup) (hT : Blk W T #[.pointer (some ⟨l, 0, none⟩)] tt) (hQ : ∀ s A, J s A → NextOkF l xs s A) (hJ : ∀ s A B, J s A → Only T A B → J s B) (hJx : ∀ s A B, Jx s A → Only T A B → Jx s B)
    (hY : ∀ pre x W1, J pre W1 → T < W1.heap.size → (pre ++ [x]) <+: xs → pre.length < xs.length → YieldAt Fence.wide (n - 1) Try.prog li (encN x) W1 fun e W' =>
      (e = .returned (.bool true) ∧ J (pre ++ [x]) W' ∧ Kept (· ≠ T) W1 W') ∨ (e = .returned (.bool false) ∧ Jx (pre ++ [x]) W'))
    (h0 : J [] W) :
    CallsIn Fence.wide n Try.prog 84 #[.func (.yield li) #[] #[], .pointer (some ⟨T, 0, none⟩)] W fun e W' => (∃ v, e = .returned v) ∧ ((∃ ys, ys = xs ∧ J ys W') ∨ (∃ pre, pre <+: xs ∧ Jx pre W')) := by
  have c0 := hT.cell 0
  have c0' : W.cell? ⟨T, 0, none⟩ = some (.pointer (some ⟨l, 0, none⟩)) := c0
  have cl := (hQ [] W h0).1 rfl
  have hTl := hT.lt
  clear c0
  refine callsIn_of_wp Try.func84 rfl trivial ?_ rfl
  simp only [Try.ntmps84, List.size_toArray, List.length_cons, List.length_nil, Nat.reduceAdd, Nat.reduceSub, Array.replicate_succ, Array.replicate_zero, List.push_toArray, List.append_toArray, List.nil_append, List.cons_append]
  gi_wp2
  gi_loopw [3] (fun p wr => ∃ pre rest : List Nat, p = ptrO (hd rest none) ∧ xs = pre ++ rest ∧ J pre wr ∧ T < wr.heap.size) (fun p _ => remN xs p)
  case atStart => exact ⟨[], xs, rfl, rfl, h0, hTl⟩
  case round =>
    obtain ⟨pre, rest, rfl, hx, hj, hlt⟩ := hrel
    cases rest with
    | nil =>
      rw [List.append_nil] at hx
      have HX := Lib.hid hx
      clear hx
      have e0 : ptrO (hd [] none) = .pointer none := rfl
      rw [e0]
      gi_wp2
      go_end0
      exact ⟨⟨_, rfl⟩, .inl ⟨pre, HX.out.symm, hj⟩⟩
    | cons x rest =>
      have hc2 := (hQ pre wr hj).2 x rest hx
      have hpl : pre.length < xs.length := by rw [hx]; simp
      obtain ⟨fn, tmps, assign, body, hy, hR⟩ := hY pre x wr hj hlt ⟨rest, by rw [hx]; simp⟩ hpl
      dsimp only [encN] at hy
      have hr0 : remN xs (.pointer (some ⟨x, 0, none⟩)) = xs.length - pre.length := by
        show xs.length - xs.idxOf x = _
        rw [show xs.idxOf x = pre.length by rw [hx]; exact idx_at (by rw [← hx]; exact hnd)]
      have hr1 : remN xs (ptrO (hd rest none)) < xs.length - pre.length := by
        cases rest with
        | nil => show 0 < _; omega
        | cons y rest =>
          have h9 : xs = (pre ++ [x]) ++ y :: rest := by rw [hx]; simp
          show xs.length - xs.idxOf y < _
          have h8 : xs.idxOf y = pre.length + 1 := by
            rw [h9, idx_at (by rw [← h9]; exact hnd)]; simp
          omega
      have e0 : ptrO (hd (x :: rest) none) = .pointer (some ⟨x, 0, none⟩) := rfl
      rw [e0]
      obtain ⟨vn, hvn⟩ : ∃ v, v = ptrO (hd rest none) := ⟨_, rfl⟩
      rw [← hvn] at hc2 hr1
      have HX := Lib.hid hx
      have HVN := Lib.hid hvn
      have HR0 := Lib.hid hr0
      have HR1 := Lib.hid hr1
      clear hx hvn hr0 hr1 e0
      gi_wp2
      refine hR.mono ?_
      rintro e W3 (⟨rfl, hJ3, hk3⟩ | ⟨rfl, hJx3⟩)
      · gi_wp2
        go_roundw
        case rel => exact ⟨pre ++ [x], rest, HVN.out, by rw [HX.out]; simp, hJ3, Nat.lt_of_lt_of_le hlt hk3.size⟩
        case measure => rw [HR0.out]; exact HR1.out
      · gi_wp2
        refine bodyPost_ret (results_none rfl _ _ _) rfl ?_
        exact ⟨⟨_, rfl⟩, .inr ⟨pre ++ [x], by rw [HX.out]; exact ⟨rest, by simp⟩, hJx3⟩⟩
theorem nodes_stops_f (n : Nat) (hn : 1 ≤ n) (T l : Nat) (xs : List Nat) (hnd : xs.Nodup) (tt : TypeId) :
    IterC Fence.wide n Try.prog 84 #[.pointer (some ⟨T, 0, none⟩)] encN (fun ys => ys = xs) (fun pre => pre <+: xs) xs.length T (fun W => Blk W T #[.pointer (some ⟨l, 0, none⟩)] tt) (NextOkF l xs) :=
  fun li J Jx W hT hQ hJ hJx hY h0 => nodes1_in_f n hn li T l xs tt J Jx W hnd hT hQ hJ hJx hY h0
theorem nodes_of_f (l : Nat) (w : World) : Calls Try.prog 80 #[.pointer (some ⟨l, 0, none⟩)] w fun e w' => e = .returned (.func (.func 84) #[] #[.pointer (some ⟨w.heap.size, 0, none⟩)]) ∧ Still w w' ∧ Blk w' w.heap.size #[.pointer (some ⟨l, 0, none⟩)] 102 := by
  go_enter Try.func80, Try.ntmps80
  go_wp2
  go_ret
  exact ⟨rfl, by (repeat (first | (with_reducible exact Kept.refl _ _) | (with_reducible refine Kept.drewN ?_ _) | (with_reducible refine Kept.drew ?_) | (with_reducible refine Kept.put ?_ _ _) | (with_reducible refine Kept.alloc ?_ _))), Blk.new _ _ _⟩
theorem LW_f.nextok {s : LS} {w : World} (h : LW_f s w) {l : Nat} (hl : s.kd l = 1) : w.cell? ⟨l, 0, none⟩ = some (ptrO (hd (s.sq l) none)) ∧ ∀ pre x rest, s.sq l = pre ++ x :: rest → w.cell? ⟨x, 5, none⟩ = some (ptrO (hd rest none)) := by
  refine ⟨(h.lists l hl).cell 0, fun pre x rest he => ?_⟩
  have hx := (h.inv.mem l x hl (by rw [he]; simp)).1
  have hn := (h.inv.ends hl he).2
  have c := (h.nodes x hx).cell 5
  rw [hn] at c
  exact c
set_option maxHeartbeats 1000000 in
theorem lallo_f (s : LS) (w : World) (h : LW_f s w) (l : Nat) (hl : s.kd l = 1) (vs : List FiringV) (hvs : (s.sq l).map (fun x => (s.nd x).val) = vs.map FiringV.v) (hbig : (s.sq l).length < 100000) :
    Calls Try.prog 69 #[.pointer (some ⟨l, 0, none⟩)] w fun e w' => (∃ v, e = .returned v ∧ w'.ownsRow w.heap.size 40 4 v vs.length (cells4 vs)) ∧ Below w.heap.size w w' := by
  obtain ⟨i0, hi, hz0, hz1, hz2⟩ := info_parts infoFiring
  obtain ⟨xs, hxs⟩ : ∃ xs, xs = s.sq l := ⟨_, rfl⟩
  obtain ⟨hn0, hn1⟩ := h.nextok hl
  have hnd := h.inv.nodup l hl
  have hmem : ∀ x, x ∈ xs → s.kd x = 2 := fun x hx => (h.inv.mem l x hl (by rw [← hxs]; exact hx)).1
  have hltx : ∀ x, x ∈ xs → x < w.heap.size := fun x hx => (h.nodes x (hmem x hx)).lt
  have hll := (h.lists l hl).lt
  rw [← hxs] at hn0 hn1 hnd hbig hvs
  have hvl : xs.length = vs.length := by have := congrArg List.length hvs; simpa using this
  refine (callsIn_wide (n := 4)).1 ?_
  refine callsIn_of_wp_marks Try.func69 rfl trivial ?_ rfl
  simp only [Try.ntmps69, List.size_toArray, List.length_cons, List.length_nil, Nat.reduceAdd, Nat.reduceSub, Array.replicate_succ, Array.replicate_zero, List.push_toArray, List.append_toArray, List.nil_append, List.cons_append]
  gi_wp2_with fail
  refine ⟨trivial, callsIn_wide.2 ((nodes_of_f l _).mono ?_)⟩
  rintro e w1 ⟨rfl, k1, b1⟩
  have bR0 : Blk w1 w.heap.size #[.slice none 0 0] 22 := (Blk.new w _ _).still k1
  have kw : Below w.heap.size w w1 := below_still (((Below.refl _ w).alloc (Nat.le_refl _) _)) k1 (Nat.le_refl _)
  rw [World.size_alloc] at *
  have z1 := b1.lt
  gi_wp2_with fail
  have hown : ∀ (A B : World) (c : Array Value) (X : Nat) (T : TypeId), Looped (w.heap.size + 1) w1.heap.size A B → Blk A X c T → X ≠ w.heap.size + 1 → X < w1.heap.size → Blk B X c T := fun A B c X T h hb hne hlt => hb.kept h (by omega)
  have hbel : ∀ A B : World, Looped (w.heap.size + 1) w1.heap.size A B → Below w.heap.size w A → Below w.heap.size w B := fun A B h hb => below_step hb h (Nat.le_refl _) (fun i hi h => by omega)
  have hrow : ∀ (A B : World) (v : Value) (n : Nat) (ys : List Value), Looped (w.heap.size + 1) w1.heap.size A B → A.ownsRow (w1.heap.size + 2) 40 4 v n ys → B.ownsRow (w1.heap.size + 2) 40 4 v n ys := fun A B v n ys h ho => owns_kept ho h (by omega)
  refine wpIn_range_cell (T := w.heap.size + 1) rfl (by omega) (gf := 84) (lb := #[.pointer (some ⟨w.heap.size + 1, 0, none⟩)]) rfl trivial (enters_of Try.func84 (by kernel_rfl) rfl)
    (nodes_stops_f 3 (by omega) (w.heap.size + 1) l xs hnd 102) (by omega) (fun W h => h.trans b1) (fun _ => rfl)
    (fun pre W => ∃ v, Blk W w.heap.size #[v] 22 ∧ W.ownsRow (w1.heap.size + 2) 40 4 v pre.length (cells4 (vs.take pre.length)) ∧ Below w.heap.size w W)
    (fun c pre W => False)
    (fun pre W h => by
      obtain ⟨v, _, _, h3⟩ := h
      refine ⟨fun _ => (World.cell?_of_block (a := ⟨l, 0, none⟩) ((kept_of_below h3).block _ hll (by simp only; omega))).trans hn0, fun x rest he => (World.cell?_of_block (a := ⟨x, 5, none⟩) ((kept_of_below h3).block _ (hltx x (by rw [he]; simp)) (by have := hltx x (by rw [he]; simp); simp only; omega))).trans (hn1 pre x rest he)⟩)
    (fun pre A B h k => by
      obtain ⟨v, h1, h2, h3⟩ := h
      exact ⟨v, hown _ _ _ _ _ k h1 (by omega) (by omega), hrow _ _ _ _ _ k h2, hbel _ _ k h3⟩)
    (fun c s A B h k => h.elim)
    ⟨_, bR0, World.ownsRow_nil _ _ _ _, kw⟩
    (fun x => { tmps := #[.pointer (some ⟨l, 0, none⟩), undef, .slice none 0 0, .pointer (some ⟨w.heap.size, 0, none⟩), .pointer (some ⟨x, 0, none⟩), .pointer (some ⟨l, 0, none⟩), .func (.func 84) #[] #[.pointer (some ⟨w.heap.size + 1, 0, none⟩)], .pointer (some ⟨x, 0, none⟩), undef, undef, undef, undef, undef, undef, undef, undef], defers := [] }) ?assign ?body ?done ?stop
  case assign =>
    intro l x W K hK
    simp only [encN]
    gi_wp2
    exact hK
  case body =>
    rintro l' pre x W hsz ⟨v, hb, ho, hw⟩ ⟨rest, he⟩ hpl
    have f0 := hb.free 0
    have c0 := hb.cell 0
    have c0' : W.cell? ⟨w.heap.size, 0, none⟩ = some v := c0
    clear c0
    have hxm : x ∈ xs := by rw [← he]; simp
    have bx := (h.nodes x (hmem x hxm)).below hw (hltx x hxm)
    have hpx : xs[pre.length]? = some x := by rw [← he]; simp
    obtain ⟨vx, hvx⟩ : ∃ vx, vs[pre.length]? = some vx := ⟨_, List.getElem?_eq_getElem (by omega)⟩
    have hval : (s.nd x).val = vx.v := by
      have h9 := congrArg (fun l => l[pre.length]?) hvs
      simp only [List.getElem?_map, hpx, hvx, Option.map_some, Option.some.injEq] at h9
      exact h9
    rw [hval, FC_v0, FC_v1, FC_v2, FC_v3] at bx
    have cx0 : W.cell? ⟨x, 0, none⟩ = some (.int .u64 vx.id) := bx.cell 0
    have cx1 : W.cell? ⟨x, 1, none⟩ = some (.int .u64 vx.gen) := bx.cell 1
    have cx2 : W.cell? ⟨x, 2, none⟩ = some (.int .u64 vx.dl) := bx.cell 2
    have cx3 : W.cell? ⟨x, 3, none⟩ = some (.int .u64 vx.tick) := bx.cell 3
    gi_wp2_with fail
    refine wpIn_region_end (wide_round _) ([4], [9, 106]) [w.heap.size, x] rfl (by kernel_rfl) (by kernel_rfl) (by kernel_rfl) (by kernel_rfl) (cellsB_cons hb.cells (cellsB_cons bx.cells cellsB_nil)) (by simp [segs, isEff, isLoad, askOps, asks, ptrEq, eqOrNe, isNil]; rfl) ?_
    refine segs_go stay_drew (by simp [isLoad]) ?_
    go_wp2_with fail
    refine segs_load stay_drew (fun _ => (by exact ⟨w.heap.size, _, rfl, by simp⟩)) ?_
    go_wp2_with fail
    refine segs_load stay_drew (fun _ => (by exact ⟨x, _, rfl, by simp⟩)) ?_
    go_wp2_with fail
    have hd : ∀ b, b ∈ [w.heap.size, x] → b < W.heap.size := fun b hb' => by
      simp at hb'
      rcases hb' with rfl | rfl
      · omega
      · exact bx.lt
    have hsa : StayB [w.heap.size, x] W (W.drew.alloc (.cells #[.int .u64 vx.id, .int .u64 vx.gen, .int .u64 vx.dl, .int .u64 vx.tick] 40)) := StayB.kept stay_drew (((Kept.refl (fun _ => False) W.drew).alloc _)) (fun b hb => ⟨hd b hb, fun f => f⟩)
    refine segs_go hsa (by simp [isLoad]) ?_
    have hoa : (W.drew.alloc (.cells #[.int .u64 vx.id, .int .u64 vx.gen, .int .u64 vx.dl, .int .u64 vx.tick] 40)).ownsRow (w1.heap.size + 2) 40 4 v pre.length (cells4 (vs.take pre.length)) := owns_kept ho (((Kept.refl (fun _ => False) W).drew.alloc _)) (fun _ _ _ f => f)
    have hod : W.drew.ownsRow (w1.heap.size + 2) 40 4 v pre.length (cells4 (vs.take pre.length)) := owns_kept ho ((Kept.refl (fun _ => False) W).drew) (fun _ _ _ f => f)
    have hbz' : w1.heap.size + 2 ≤ (W.drew.alloc (.cells #[.int .u64 vx.id, .int .u64 vx.gen, .int .u64 vx.dl, .int .u64 vx.tick] 40)).heap.size := by simp; omega
    go_wp2_with (first | (at_builtin; refine wpList_append_own _ rfl _ _ 22 rfl (w1.heap.size + 2) 40 i0 (.agg #[.int .u64 0, .int .u64 0, .int .u64 0, .int .u64 0]) 4 32 Try.underlying22 hi hz0 hz1 hz2 rfl (by decide) _ _ _ rfl (hoa) ⟨W.heap.size, 0, none⟩ 1 1 vx.cl rfl rfl (by intro j u hj; rw [addr_add, Nat.zero_add]; exact ((Blk.newAt _ _ _ (by simp)).cell j).trans (by simpa [FiringV.cl] using hj)) (by intro u hu; simp only [FiringV.cl, List.mem_cons, List.not_mem_nil, or_false] at hu; rcases hu with rfl | rfl | rfl | rfl <;> rfl) (by unfold maxLen; omega) (by omega) (by first | omega | (simp; omega) | simp) ?_) | fail)
    intro v' w2 ho2 hg2 _
    have hk2 : Kept (fun k => w1.heap.size + 2 ≤ k) W w2 := kept_append ((Kept.refl _ W).drew) hod hg2 (fun k _ h => h)
    have hst2 : StayB [w.heap.size, x] W w2 := StayB.kept (fun b hb => rfl) hk2 (fun b hb' => ⟨hd b hb', by simp at hb'; rcases hb' with rfl | rfl; omega; have := hltx _ hxm; omega⟩)
    have hb2 := hb.kept hk2 (by omega)
    have f2 := hb2.free 0
    have c2 := hb2.cell 0
    obtain ⟨a', c', rfl⟩ := owns_slice ho2
    refine segs_go hst2 (by simp [isLoad]) ?_
    go_wp2_with fail
    refine segs_nil ?_
    go_wp2_with fail
    gi_wp2
    refine ⟨Kept.setCell (hk2.mono (fun k _ h => by omega)) (fun _ => ⟨by simp only; omega, by simp only; omega, by simp only; omega⟩) _, _, hb2.set 0 _, ?_, ?_⟩
    · rw [List.length_append, List.length_singleton, show vs.take (pre.length + 1) = vs.take pre.length ++ [vx] by rw [List.take_add_one, hvx]; rfl, cells4_snoc]
      exact owns_kept ho2 (Kept.setCell (S := fun k => k = w.heap.size) (Kept.refl _ _) (fun _ => rfl) _) (by omega)
    · exact below_step (below_step hw hk2 (Nat.le_refl _) (fun i _ h => by omega)) (Kept.setCell (S := fun k => k = w.heap.size) (Kept.refl _ _) (fun _ => rfl) _) (Nat.le_refl _) (fun i _ h => by omega)
  case done =>
    rintro ys W hys ⟨v, hb, ho, hw⟩ hK
    have c0 := hb.cell 0
    subst hys
    gi_wp2
    have hk3 := Kept.putObj (S := fun k => k = w1.heap.size) (l := w1.heap.size) (Kept.refl _ W) (.deferred none) rfl
    refine ⟨by simp, .inl ⟨_, _, rfl, run_takeDeferred hK, ?_⟩⟩
    refine ⟨v, ?_, ⟨v, rfl, ?_⟩, below_step hw hk3 (Nat.le_refl _) (fun i hi h => by omega)⟩
    · simp [results, Try.f69, go_sem]
    · rw [hvl, List.take_of_length_le (Nat.le_refl _)] at ho
      exact owns_base (owns_kept ho hk3 (by omega)) (by omega)
  case stop =>
    rintro c pre W hpre h hK
    exact h.elim
end Go.Proofs.Ytbikganlloopbaa
