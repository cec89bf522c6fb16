/-
  What stands here: the iterator over a list's nodes has its contract; all values of a list; what a list drains. Under no condition but that the world holds it.
-/
import Derived.Test.YthamdbfilpegjaaListMem
import Derived.Test.YthamdbfilpegjaaListOut
import Derived.Test.YthamdbfilpegjaaText
import Derived.Test.YthamdbfilpegjaaRangeQ
import Derived.Shelf.Abstract
import Derived.Shelf.RegionOpen
import Derived.WalkKit
import Derived.OwnWalkIn
import Derived.TacticsInMore
import Derived.LoopNIn
import Derived.LoopIn
namespace Go.Proofs.Ythamdbfilpegjaa
set_option linter.unusedVariables false
set_option linter.unusedSimpArgs false
open Go.RowKit Go.Proofs
attribute [local go_sem] Oper.semAt_some

def encN (x : Nat) : Array Value := #[.pointer (some ⟨x, 0, none⟩)]
/-- what the iterator meets, behind the nodes pre of xs -/
def NextOk (l : Nat) (xs pre : List Nat) (W : World) : Prop :=
  (pre = [] → W.cell? ⟨l, 0, none⟩ = some (ptrO (hd xs none))) ∧ ∀ x rest, xs = pre ++ x :: rest → W.cell? ⟨x, 2, none⟩ = some (ptrO (hd rest none))
def remN (xs : List Nat) (v : Value) : Nat := match v with
  | .pointer (some a) => xs.length - xs.idxOf a.block
  | _ => 0
theorem idx_at {pre rest : List Nat} {x : Nat} (h : (pre ++ x :: rest).Nodup) : (pre ++ x :: rest).idxOf x = pre.length := by
  have hx : x ∉ pre := fun hm => (List.nodup_append.1 h).2.2 x hm x (by simp) rfl
  rw [List.idxOf_append, if_neg hx, List.idxOf_cons_self]; omega
theorem infoElem_i : (Try.prog.info? 3).map (fun i => (i.zero, i.size, i.bytes)) = some (some (.int .i64 0), 1, 8) := by kernel_rfl
theorem owns_base {w : World} {base base' : Nat} {e : TypeId} {sz : Nat} {v : Value} {n : Nat} {xs : List Value} (h : w.ownsRow base e sz v n xs) (hb : base' ≤ base) : w.ownsRow base' e sz v n xs := by
  obtain ⟨hl, h | ⟨g, cap, cur, hv, hbg, hr⟩⟩ := h
  · exact ⟨hl, .inl h⟩
  · exact ⟨hl, .inr ⟨g, cap, cur, hv, by omega, hr⟩⟩
/-- the block of a row that is one's own -/
theorem owns_blk {w : World} {base : Nat} {e : TypeId} {v : Value} {n : Nat} {xs : List Value} (h : w.ownsRow base e 1 v n xs) (hn : 0 < n) : ∃ g cap cur, v = .slice (some ⟨g, 0, none⟩) n cap ∧ base ≤ g ∧ Blk w g cur e ∧ n ≤ cap ∧ cap ≤ maxLen ∧ cur.size = cap ∧ cur.toList.take n = xs := by
  obtain ⟨hl, ⟨rfl, rfl⟩ | ⟨g, cap, cur, rfl, hb, hg, hn, hm, hc, ht⟩⟩ := h
  · omega
  · rw [Nat.mul_one] at hl hc ht
    exact ⟨g, cap, cur, rfl, hb, hg, hn, hm, hc, ht⟩
theorem blk_row {w : World} {g n cap : Nat} {cur : Array Value} {e : TypeId} (h : Blk w g cur e) (hn : n ≤ cur.size) (hc : n ≤ cap) (hm : cap ≤ maxLen) : VRow (· = g) w (.slice (some ⟨g, 0, none⟩) n cap) (cur.toList.take n) := by
  have hl : (cur.toList.take n).length = n := by rw [List.length_take]; simp; omega
  refine ⟨_, cap, by rw [hl], by omega, hm, fun _ => ⟨g, 0, rfl, h.lt, rfl, fun j hj => ?_⟩⟩
  rw [hl] at hj
  rw [Nat.zero_add, h.cell j, List.getElem?_take_of_lt hj]
  simp
theorem infoElem_t : (Try.prog.info? 67).map (fun i => (i.zero, i.size, i.bytes)) = some (some (.pointer none), 1, 8) := by kernel_rfl

theorem nodes1_in_t (n : Nat) (hn : 1 ≤ n) (li T l : Nat) (xs : List Nat) (tt : TypeId) (J Jx : List Nat → World → Prop)
    (W : World) (hnd : xs.Nodup) (hT : Blk W T #[.pointer (some ⟨l, 0, none⟩)] tt) (hQ : ∀ s A, J s A → NextOk l xs s A) (hJ : ∀ s A B, J s A → Only T A B → J s B) (hJx : ∀ s A B, Jx s A → Only T A B → Jx s B)
    (hY : ∀ pre x W1, J pre W1 → T < W1.heap.size → (pre ++ [x]) <+: xs → pre.length < xs.length → YieldAt Fence.wide (n - 1) Try.prog li (encN x) W1 fun e W' =>
      (e = .returned (.bool true) ∧ J (pre ++ [x]) W' ∧ Kept (· ≠ T) W1 W') ∨ (e = .returned (.bool false) ∧ Jx (pre ++ [x]) W'))
    (h0 : J [] W) :
    CallsIn Fence.wide n Try.prog 70 #[.func (.yield li) #[] #[], .pointer (some ⟨T, 0, none⟩)] W fun e W' => (∃ v, e = .returned v) ∧ ((∃ ys, ys = xs ∧ J ys W') ∨ (∃ pre, pre <+: xs ∧ Jx pre W')) := by
  have c0 := hT.cell 0
  have c0' : W.cell? ⟨T, 0, none⟩ = some (.pointer (some ⟨l, 0, none⟩)) := c0
  have cl := (hQ [] W h0).1 rfl
  have hTl := hT.lt
  clear c0
  refine callsIn_of_wp Try.func70 rfl trivial ?_ rfl
  simp only [Try.ntmps70, List.size_toArray, List.length_cons, List.length_nil, Nat.reduceAdd, Nat.reduceSub, Array.replicate_succ, Array.replicate_zero, List.push_toArray, List.append_toArray, List.nil_append, List.cons_append]
  gi_wp2
  gi_loopw [3] (fun p wr => ∃ pre rest : List Nat, p = ptrO (hd rest none) ∧ xs = pre ++ rest ∧ J pre wr ∧ T < wr.heap.size) (fun p _ => remN xs p)
  case atStart => exact ⟨[], xs, rfl, rfl, h0, hTl⟩
  case round =>
    obtain ⟨pre, rest, rfl, hx, hj, hlt⟩ := hrel
    cases rest with
    | nil =>
      rw [List.append_nil] at hx
      have HX := Lib.hid hx
      clear hx
      have e0 : ptrO (hd [] none) = .pointer none := rfl
      rw [e0]
      gi_wp2
      go_end0
      exact ⟨⟨_, rfl⟩, .inl ⟨pre, HX.out.symm, hj⟩⟩
    | cons x rest =>
      have hc2 := (hQ pre wr hj).2 x rest hx
      have hpl : pre.length < xs.length := by rw [hx]; simp
      obtain ⟨fn, tmps, assign, body, hy, hR⟩ := hY pre x wr hj hlt ⟨rest, by rw [hx]; simp⟩ hpl
      dsimp only [encN] at hy
      have hr0 : remN xs (.pointer (some ⟨x, 0, none⟩)) = xs.length - pre.length := by
        show xs.length - xs.idxOf x = _
        rw [show xs.idxOf x = pre.length by rw [hx]; exact idx_at (by rw [← hx]; exact hnd)]
      have hr1 : remN xs (ptrO (hd rest none)) < xs.length - pre.length := by
        cases rest with
        | nil => show 0 < _; omega
        | cons y rest =>
          have h9 : xs = (pre ++ [x]) ++ y :: rest := by rw [hx]; simp
          show xs.length - xs.idxOf y < _
          have h8 : xs.idxOf y = pre.length + 1 := by
            rw [h9, idx_at (by rw [← h9]; exact hnd)]; simp
          omega
      have e0 : ptrO (hd (x :: rest) none) = .pointer (some ⟨x, 0, none⟩) := rfl
      rw [e0]
      obtain ⟨vn, hvn⟩ : ∃ v, v = ptrO (hd rest none) := ⟨_, rfl⟩
      rw [← hvn] at hc2 hr1
      have HX := Lib.hid hx
      have HVN := Lib.hid hvn
      have HR0 := Lib.hid hr0
      have HR1 := Lib.hid hr1
      clear hx hvn hr0 hr1 e0
      gi_wp2
      refine hR.mono ?_
      rintro e W3 (⟨rfl, hJ3, hk3⟩ | ⟨rfl, hJx3⟩)
      · gi_wp2
        go_roundw
        case rel => exact ⟨pre ++ [x], rest, HVN.out, by rw [HX.out]; simp, hJ3, Nat.lt_of_lt_of_le hlt hk3.size⟩
        case measure => rw [HR0.out]; exact HR1.out
      · gi_wp2
        refine bodyPost_ret (results_none rfl _ _ _) rfl ?_
        exact ⟨⟨_, rfl⟩, .inr ⟨pre ++ [x], by rw [HX.out]; exact ⟨rest, by simp⟩, hJx3⟩⟩
theorem nodes_stops_t (n : Nat) (hn : 1 ≤ n) (T l : Nat) (xs : List Nat) (hnd : xs.Nodup) (tt : TypeId) :
    IterC Fence.wide n Try.prog 70 #[.pointer (some ⟨T, 0, none⟩)] encN (fun ys => ys = xs) (fun pre => pre <+: xs) xs.length T (fun W => Blk W T #[.pointer (some ⟨l, 0, none⟩)] tt) (NextOk l xs) :=
  fun li J Jx W hT hQ hJ hJx hY h0 => nodes1_in_t n hn li T l xs tt J Jx W hnd hT hQ hJ hJx hY h0
theorem nodes_of_t (l : Nat) (w : World) : Calls Try.prog 62 #[.pointer (some ⟨l, 0, none⟩)] w fun e w' => e = .returned (.func (.func 70) #[] #[.pointer (some ⟨w.heap.size, 0, none⟩)]) ∧ Still w w' ∧ Blk w' w.heap.size #[.pointer (some ⟨l, 0, none⟩)] 96 := by
  go_enter Try.func62, Try.ntmps62
  go_wp2
  go_ret
  exact ⟨rfl, by (repeat (first | (with_reducible exact Kept.refl _ _) | (with_reducible refine Kept.drewN ?_ _) | (with_reducible refine Kept.drew ?_) | (with_reducible refine Kept.put ?_ _ _) | (with_reducible refine Kept.alloc ?_ _))), Blk.new _ _ _⟩
theorem LW_t.nextok {s : LS} {w : World} (h : LW_t s w) {l : Nat} (hl : s.kd l = 1) : w.cell? ⟨l, 0, none⟩ = some (ptrO (hd (s.sq l) none)) ∧ ∀ pre x rest, s.sq l = pre ++ x :: rest → w.cell? ⟨x, 2, none⟩ = some (ptrO (hd rest none)) ∧ w.cell? ⟨x, 0, none⟩ = some (s.nd x).val := by
  refine ⟨(h.lists l hl).cell 0, fun pre x rest he => ?_⟩
  have hx := (h.inv.mem l x hl (by rw [he]; simp)).1
  have hn := (h.inv.ends hl he).2
  have c := (h.nodes x hx).cell 2
  rw [hn] at c
  exact ⟨c, (h.nodes x hx).cell 0⟩
/-- the values of nodes -/
def valsOf_t (s : LS) (xs : List Nat) : List Value := xs.map fun x => (s.nd x).val

set_option maxHeartbeats 1000000 in
theorem ldrain_t (s : LS) (w : World) (h : LW_t s w) (l : Nat) (hl : s.kd l = 1) (hbig : (s.sq l).length < 100000) (hone : ∀ x, x ∈ s.sq l → ∃ v, (s.nd x).val = .pointer v) :
    Calls Try.prog 49 #[.pointer (some ⟨l, 0, none⟩)] w fun e w' => (∃ v, e = .returned v ∧ VRow (w.heap.size ≤ ·) w' v (valsOf_t s (s.sq l))) ∧ (∃ s', LW_t s' w' ∧ s'.kd = s.kd ∧ s'.sq = upd s.sq l [] ∧ ∀ y, (s'.nd y).val = (s.nd y).val) ∧ Kept (fun y => s.kd y = 1 ∨ s.kd y = 2 ∨ w.heap.size ≤ y) w w' := by
  obtain ⟨i0, hi, hz0, hz1, hz2⟩ := info_parts infoElem_t
  obtain ⟨xs, hxs⟩ : ∃ xs, xs = s.sq l := ⟨_, rfl⟩
  obtain ⟨hn0, hn1⟩ := h.nextok hl
  have hnd := h.inv.nodup l hl
  have hmem : ∀ x, x ∈ xs → s.kd x = 2 := fun x hx => (h.inv.mem l x hl (by rw [← hxs]; exact hx)).1
  have hltx : ∀ x, x ∈ xs → x < w.heap.size := fun x hx => (h.nodes x (hmem x hx)).lt
  have hll := (h.lists l hl).lt
  rw [← hxs] at hn0 hn1 hnd hbig hone ⊢
  refine (callsIn_wide (n := 4)).1 ?_
  refine callsIn_of_wp_marks Try.func49 rfl trivial ?_ rfl
  simp only [Try.ntmps49, List.size_toArray, List.length_cons, List.length_nil, Nat.reduceAdd, Nat.reduceSub, Array.replicate_succ, Array.replicate_zero, List.push_toArray, List.append_toArray, List.nil_append, List.cons_append]
  gi_wp2_with fail
  refine ⟨trivial, callsIn_wide.2 ((nodes_of_t l _).mono ?_)⟩
  rintro e w1 ⟨rfl, k1, b1⟩
  have bR0 : Blk w1 (w.heap.size + 1) #[.slice none 0 0] 70 := (Blk.newAt (w.alloc _) _ _ (by simp)).still k1
  have kw : Kept (fun y => s.kd y = 1 ∨ s.kd y = 2 ∨ w.heap.size ≤ y) w w1 := ((((Kept.refl _ w).alloc _).alloc _)).step k1 (fun i _ h => h.elim)
  have hW1 : LW_t s w1 := (h.kept (((Kept.refl (fun _ => False) w).alloc (.cells #[.pointer (some ⟨l, 0, none⟩)] 96)).alloc (.cells #[.slice none 0 0] 70)) (fun _ _ f => f)).still k1
  rw [World.size_alloc, World.size_alloc] at *
  have z1 := b1.lt
  have bC0 : Blk w1 w.heap.size #[.pointer (some ⟨l, 0, none⟩)] 96 := ((Blk.new w _ _).alloc _).still k1
  gi_wp2_with fail
  have hown : ∀ (A B : World) (c : Array Value) (X : Nat) (T : TypeId), Looped (w.heap.size + 2) w1.heap.size A B → Blk A X c T → X ≠ w.heap.size + 2 → X < w1.heap.size → Blk B X c T := fun A B c X T h hb hne hlt => hb.kept h (by omega)
  have hk0 : ∀ y, w.heap.size ≤ y → s.kd y = 0 := h.fresh
  have hrow : ∀ (A B : World) (v : Value) (n : Nat) (ys : List Value), Looped (w.heap.size + 2) w1.heap.size A B → A.ownsRow (w1.heap.size + 2) 67 1 v n ys → B.ownsRow (w1.heap.size + 2) 67 1 v n ys := fun A B v n ys h ho => owns_kept ho h (by omega)
  refine wpIn_range_cell (T := w.heap.size + 2) rfl (by omega) (gf := 70) (lb := #[.pointer (some ⟨w.heap.size + 2, 0, none⟩)]) rfl trivial (enters_of Try.func70 (by kernel_rfl) rfl)
    (nodes_stops_t 3 (by omega) (w.heap.size + 2) l xs hnd 96) (by omega) (fun W h => h.trans b1) (fun _ => rfl)
    (fun pre W => ∃ v s', Blk W w.heap.size #[.pointer (some ⟨l, 0, none⟩)] 96 ∧ Blk W (w.heap.size + 1) #[v] 70 ∧ W.ownsRow (w1.heap.size + 2) 67 1 v pre.length (valsOf_t s pre) ∧ LW_t s' W ∧ s'.kd = s.kd ∧ s'.sq = upd s.sq l (xs.drop pre.length) ∧ (∀ y, (s'.nd y).val = (s.nd y).val) ∧ Kept (fun y => s.kd y = 1 ∨ s.kd y = 2 ∨ w.heap.size ≤ y) w W)
    (fun c pre W => False)
    (fun pre W hi => by
      obtain ⟨v, s', _, _, _, h3, h4, h5, _⟩ := hi
      have hl' : s'.kd l = 1 := by rw [h4]; exact hl
      have hq : s'.sq l = xs.drop pre.length := by rw [h5, upd_same]
      obtain ⟨e0, e1⟩ := h3.nextok hl'
      rw [hq] at e0 e1
      refine ⟨fun hp => ?_, fun x rest he => (e1 [] x rest (by rw [he]; simp)).1⟩
      subst hp; exact e0)
    (fun pre A B hi k => by
      obtain ⟨v, s', h0, h1, h2, h3, h4, h5, h6, h7⟩ := hi
      refine ⟨v, s', hown _ _ _ _ _ k h0 (by omega) (by omega), hown _ _ _ _ _ k h1 (by omega) (by omega), hrow _ _ _ _ _ k h2, h3.kept k (fun x hx hS => hx ?_), h4, h5, h6, h7.step k (fun i _ hS => .inr (.inr (by omega)))⟩
      rw [h4]; exact hk0 x (by omega))
    (fun c s A B h k => h.elim)
    ⟨_, s, bC0, bR0, World.ownsRow_nil _ _ _ _, hW1, rfl, by show s.sq = upd s.sq l xs; funext y; by_cases e : y = l; (rw [e, upd_same]; exact hxs.symm); (rw [upd_ne _ _ e]), fun _ => rfl, kw⟩
    (fun x => { tmps := #[.pointer (some ⟨l, 0, none⟩), .pointer (some ⟨w.heap.size, 0, none⟩), .slice none 0 0, .pointer (some ⟨w.heap.size + 1, 0, none⟩), .pointer (some ⟨x, 0, none⟩), .pointer (some ⟨l, 0, none⟩), .func (.func 70) #[] #[.pointer (some ⟨w.heap.size + 2, 0, none⟩)], .pointer (some ⟨x, 0, none⟩), undef, undef, undef, undef, undef, undef, undef, undef, undef, undef, undef], defers := [] }) ?assign ?body ?done ?stop
  case assign =>
    intro l x W K hK
    simp only [encN]
    gi_wp2
    exact hK
  case body =>
    rintro l' pre x W hsz ⟨v, s', hC, hb, ho, hL, hkd, hsq, hval, hw⟩ ⟨rest, he⟩ hpl
    have f0 := hb.free 0
    have c0 := hb.cell 0
    have c0' : W.cell? ⟨w.heap.size + 1, 0, none⟩ = some v := c0
    clear c0
    have hxm : x ∈ xs := by rw [← he]; simp
    have hkx : s'.kd x = 2 := by rw [hkd]; exact hmem x hxm
    have bx := hL.nodes x hkx
    obtain ⟨vx, hvx⟩ := hone x hxm
    have cx := bx.cell 0
    have cx' : W.cell? ⟨x, 0, none⟩ = some (.pointer vx) := by rw [← hvx, ← hval]; exact cx
    clear cx
    gi_wp2_with fail
    refine wpIn_region_end (wide_round _) ([4], [9, 103]) [w.heap.size + 1, x] rfl (by kernel_rfl) (by kernel_rfl) (by kernel_rfl) (by kernel_rfl) (cellsB_cons hb.cells (cellsB_cons bx.cells cellsB_nil)) (by simp [segs, isEff, isLoad, askOps, asks, ptrEq, eqOrNe, isNil]; rfl) ?_
    refine segs_go stay_drew (by simp [isLoad]) ?_
    go_wp2_with fail
    refine segs_load stay_drew (fun _ => (by exact ⟨w.heap.size + 1, _, rfl, by simp⟩)) ?_
    go_wp2_with fail
    refine segs_load stay_drew (fun _ => (by exact ⟨x, _, rfl, by simp⟩)) ?_
    go_wp2_with fail
    have hd : ∀ b, b ∈ [w.heap.size + 1, x] → b < W.heap.size := fun b hb' => by
      simp at hb'
      rcases hb' with rfl | rfl
      · omega
      · exact bx.lt
    have hsa : StayB [w.heap.size + 1, x] W (W.drew.alloc (.cells #[.pointer vx] 67)) := StayB.kept stay_drew (((Kept.refl (fun _ => False) W.drew).alloc _)) (fun b hb => ⟨hd b hb, fun f => f⟩)
    refine segs_go hsa (by simp [isLoad]) ?_
    have hoa : (W.drew.alloc (.cells #[.pointer vx] 67)).ownsRow (w1.heap.size + 2) 67 1 v pre.length (valsOf_t s pre) := owns_kept ho (((Kept.refl (fun _ => False) W).drew.alloc _)) (fun _ _ _ f => f)
    have hod : W.drew.ownsRow (w1.heap.size + 2) 67 1 v pre.length (valsOf_t s pre) := owns_kept ho ((Kept.refl (fun _ => False) W).drew) (fun _ _ _ f => f)
    have hbz' : w1.heap.size + 2 ≤ (W.drew.alloc (.cells #[.pointer vx] 67)).heap.size := by simp; omega
    go_wp2_with (first | (at_builtin; refine wpList_append_own _ rfl _ _ 70 rfl (w1.heap.size + 2) 67 i0 (.pointer none) 1 8 Try.underlying70 hi hz0 hz1 hz2 rfl (by decide) _ _ _ rfl (hoa) ⟨W.heap.size, 0, none⟩ 1 1 [.pointer vx] rfl rfl (by intro j u hj; match j, hj with | 0, hj => simp at hj; subst hj; first | (simp [Addr.add]; done) | exact (Blk.newAt _ _ _ (by simp)).cell 0) (by intro u hu; simp at hu; subst hu; rfl) (by unfold maxLen; omega) (by omega) (by first | omega | (simp; omega) | simp) ?_) | fail)
    intro v' w2 ho2 hg2 _
    have hk2 : Kept (fun k => w1.heap.size + 2 ≤ k) W w2 := kept_append ((Kept.refl _ W).drew) hod hg2 (fun k _ h => h)
    have hst2 : StayB [w.heap.size + 1, x] W w2 := StayB.kept (fun b hb => rfl) hk2 (fun b hb' => ⟨hd b hb', by simp at hb'; rcases hb' with rfl | rfl; omega; have := hltx _ hxm; omega⟩)
    have hb2 := hb.kept hk2 (by omega)
    have f2 := hb2.free 0
    have hC2 := hC.kept hk2 (by omega)
    have c2 := hb2.cell 0
    obtain ⟨a', c', rfl⟩ := owns_slice ho2
    refine segs_go hst2 (by simp [isLoad]) ?_
    go_wp2_with fail
    refine segs_nil ?_
    have hk3 : Kept (fun k => k = w.heap.size + 1) w2 (w2.setCell ⟨w.heap.size + 1, 0, none⟩ (.slice a' (pre.length + 1) c')) := Kept.setCell (S := fun k => k = w.heap.size + 1) (Kept.refl _ _) (fun _ => rfl) _
    have hC3 := hC2.kept hk3 (by omega)
    have cC3 := hC3.cell 0
    have hL3 : LW_t s' (w2.setCell ⟨w.heap.size + 1, 0, none⟩ (.slice a' (pre.length + 1) c')) := (hL.kept hk2 (fun x hx hS => hx (by rw [hkd]; exact hk0 x (by omega)))).kept hk3 (fun x hx hS => hx (by rw [hkd]; exact hk0 x (by omega)))
    have hl' : s'.kd l = 1 := by rw [hkd]; exact hl
    have hrest : xs.drop pre.length = x :: rest := by rw [← he]; simp
    have hqs : s'.sq l = x :: rest := by rw [hsq, upd_same, hrest]
    go_wp2_with fail
    gi_wp2_with fail
    have hlen : (s'.sq l).length < 9223372036854775807 := by
      have h9 : (x :: rest).length ≤ xs.length := by rw [← he]; simp
      rw [hqs]; omega
    refine ⟨trivial, (wide_round _).calls.2 ((lunlink_t s' _ hL3 l x hl' hkx (by rw [hqs]; simp) hlen).mono ?_)⟩
    rintro e w4 ⟨rfl, hL4, hk4⟩
    have hlow : ∀ y, s'.kd y = 1 ∨ s'.kd y = 2 → y < w.heap.size := fun y hy => by
      rcases Nat.lt_or_ge y w.heap.size with h9 | h9
      · exact h9
      · rw [hkd, hk0 y h9] at hy; omega
    gi_wp2
    refine ⟨((hk2.mono (fun k _ h => by omega)).step hk3 (fun i _ h => by omega)).step hk4 (fun i _ h => by have := hlow i h; omega), _, _, (hC3.kept hk4 (fun h9 => by have := hlow _ h9; omega)), ((hb2.set 0 _).kept hk4 (fun h9 => by have := hlow _ h9; omega)), ?_, hL4, hkd, ?_, ?_, ((hw.step hk2 (fun i _ h => .inr (.inr (by omega)))).step hk3 (fun i _ h => .inr (.inr (by omega)))).step hk4 (fun i _ h => by rw [hkd] at h; omega)⟩
    · rw [List.length_append, show valsOf_t s (pre ++ [x]) = valsOf_t s pre ++ [.pointer vx] by simp [valsOf_t, hvx]]
      exact owns_kept (owns_kept ho2 hk3 (by omega)) hk4 (fun b hb _ h9 => by have := hlow _ h9; omega)
    · show upd s'.sq l _ = _
      funext y
      by_cases e : y = l
      · have h9 : xs.drop (pre ++ [x]).length = rest := by rw [← he]; exact List.drop_left
        rw [e, upd_same, upd_same, hqs, List.erase_cons_head, h9]
      · rw [upd_ne _ _ e, upd_ne _ _ e, hsq, upd_ne _ _ e]
    · intro y
      show (outNd s'.nd x y).val = _
      rw [← hval y]
      unfold outNd
      split
      · rename_i e; rw [e]
      · split
        · rfl
        · split <;> rfl
  case done =>
    rintro ys W hys ⟨v, s', hC, hb, ho, hL, hkd, hsq, hval, hw⟩ hK
    have c0 := hb.cell 0
    subst hys
    gi_wp2
    have hk3 := Kept.putObj (S := fun k => k = w1.heap.size) (l := w1.heap.size) (Kept.refl _ W) (.deferred none) rfl
    refine ⟨by simp, .inl ⟨_, _, rfl, run_takeDeferred hK, ?_⟩⟩
    refine ⟨v, ?_, ⟨v, rfl, ?_⟩, ⟨s', hL.kept hk3 (fun x hx hS => hx (by rw [hkd]; exact hk0 x (by omega))), hkd, ?_, hval⟩, hw.step hk3 (fun i hi h => .inr (.inr (by omega)))⟩
    · simp [results, Try.f49, go_sem]
    · exact (VRow.of_owns (owns_kept ho hk3 (by omega))).mono (R := (w.heap.size ≤ ·)) (fun b h => by omega)
    · rw [hsq, List.drop_eq_nil_of_le (Nat.le_refl _)]
  case stop =>
    rintro c pre W hpre h hK
    exact h.elim

end Go.Proofs.Ythamdbfilpegjaa
