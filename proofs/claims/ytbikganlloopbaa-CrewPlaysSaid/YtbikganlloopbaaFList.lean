/-
  What stands here: lists of firings (of 4 cells), and what their functions do. Under no condition but that the world holds them.
-/
import Derived.Test.YtbikganlloopbaaListOps
import Derived.Deep.RegionWith
import Derived.Deep.CutRange
import Derived.Deep.CutBlock
namespace Go.Proofs.Ytbikganlloopbaa
set_option linter.unusedVariables false
set_option linter.unusedSimpArgs false
open Go.RowKit Go.Proofs
/-- a firing -/
structure FiringV where
  id : Int
  gen : Int
  dl : Int
  tick : Int
abbrev FiringV.v (f : FiringV) : Value := .agg #[.int .u64 f.id, .int .u64 f.gen, .int .u64 f.dl, .int .u64 f.tick]
/-- a cell of a value of more cells -/
def FC (v : Value) (i : Nat) : Value := match v with
  | .agg a => a.getD i .nilFunc
  | _ => .nilFunc
theorem FC_v0 (f : FiringV) : FC f.v 0 = .int .u64 f.id := rfl
theorem FC_v1 (f : FiringV) : FC f.v 1 = .int .u64 f.gen := rfl
theorem FC_v2 (f : FiringV) : FC f.v 2 = .int .u64 f.dl := rfl
theorem FC_v3 (f : FiringV) : FC f.v 3 = .int .u64 f.tick := rfl

/-- lists in a world -/
structure LW_f (s : LS) (W : World) : Prop where
  inv : LInv s
  homes : Homes s W
  nodes : ∀ x, s.kd x = 2 → Blk W x #[FC (s.nd x).val 0, FC (s.nd x).val 1, FC (s.nd x).val 2, FC (s.nd x).val 3, ptrO (s.nd x).prev, ptrO (s.nd x).next, ptrO (s.nd x).home] 167
  lists : ∀ x, s.kd x = 1 → Blk W x #[ptrO (hd (s.sq x) none), ptrO (lst none (s.sq x)), .int .i64 (s.sq x).length, .pointer (some ⟨s.hm x, 0, none⟩)] 165
  fresh : ∀ x, W.heap.size ≤ x → s.kd x = 0
theorem LW_f.kept {s : LS} {S : Nat → Prop} {W W' : World} (h : LW_f s W) (k : Kept S W W') (hS : ∀ x, s.kd x ≠ 0 → ¬ S x) : LW_f s W' :=
  ⟨h.inv, fun x hx => (h.homes x hx).kept k (hS x (by omega)), fun x hx => (h.nodes x hx).kept k (hS x (by omega)), fun x hx => (h.lists x hx).kept k (hS x (by omega)), fun x hx => h.fresh x (Nat.le_trans k.size hx)⟩
theorem LW_f.still {s : LS} {W W' : World} (h : LW_f s W) (k : Still W W') : LW_f s W' := h.kept k (fun _ _ f => f)
theorem LW_f.zero (W : World) : LW_f LS.zero W :=
  ⟨LInv.zero, fun x h => absurd h (by simp [LS.zero]), fun x h => absurd h (by simp [LS.zero]), fun x h => absurd h (by simp [LS.zero]), fun _ _ => rfl⟩
theorem lnew_f (s : LS) (w : World) (h : LW_f s w) :
    Calls Try.prog 51 #[] w fun e w' => e = .returned (.pointer (some ⟨w.heap.size + 1, 0, none⟩)) ∧ LW_f (s.new w.heap.size (w.heap.size + 1)) w' ∧ Still w w' := by
  go_enter Try.func51, Try.ntmps51
  go_wp2_with fail
  go_ret
  refine ⟨rfl, ?_, by (repeat (first | (with_reducible exact Kept.refl _ _) | (with_reducible refine Kept.drewN ?_ _) | (with_reducible refine Kept.drew ?_) | (with_reducible refine Kept.put ?_ _ _) | (with_reducible refine Kept.alloc ?_ _)))⟩
  have hst : Still w ((w.alloc (.cells #[.pointer none] 178)).alloc (.cells #[.pointer none, .pointer none, .int .i64 0, .pointer (some ⟨w.heap.size, 0, none⟩)] 165)) := by (repeat (first | (with_reducible exact Kept.refl _ _) | (with_reducible refine Kept.drewN ?_ _) | (with_reducible refine Kept.drew ?_) | (with_reducible refine Kept.put ?_ _ _) | (with_reducible refine Kept.alloc ?_ _)))
  have bH : Blk ((w.alloc (.cells #[.pointer none] 178)).alloc (.cells #[.pointer none, .pointer none, .int .i64 0, .pointer (some ⟨w.heap.size, 0, none⟩)] 165)) w.heap.size #[.pointer none] 178 := (Blk.new w _ _).alloc _
  have bL : Blk ((w.alloc (.cells #[.pointer none] 178)).alloc (.cells #[.pointer none, .pointer none, .int .i64 0, .pointer (some ⟨w.heap.size, 0, none⟩)] 165)) (w.heap.size + 1) #[.pointer none, .pointer none, .int .i64 0, .pointer (some ⟨w.heap.size, 0, none⟩)] 165 := Blk.newAt _ _ _ (by simp)
  have f0 := h.fresh w.heap.size (Nat.le_refl _)
  have f1 := h.fresh (w.heap.size + 1) (by omega)
  have h2 := h.still hst
  have ne : ∀ x, s.kd x ≠ 0 → x ≠ w.heap.size ∧ x ≠ w.heap.size + 1 := fun x hx => ⟨fun e => hx (by rw [e]; exact f0), fun e => hx (by rw [e]; exact f1)⟩
  have kd : ∀ x, (s.new w.heap.size (w.heap.size + 1)).kd x = if x = w.heap.size + 1 then 1 else if x = w.heap.size then 3 else s.kd x := fun x => rfl
  refine ⟨h.inv.new f0 f1 (by omega), fun x hx => ?_, fun x hx => ?_, fun x hx => ?_, fun x hx => ?_⟩
  · rw [kd] at hx
    split at hx
    · cases hx
    · split at hx
      · rename_i e2
        show Blk _ x #[ptrO (upd s.to w.heap.size none x)] _
        rw [e2, upd_same]; exact bH
      · rename_i e1 e2
        show Blk _ x #[ptrO (upd s.to w.heap.size none x)] _
        rw [upd_ne _ _ e2]; exact h2.homes x hx
  · rw [kd] at hx
    split at hx
    · cases hx
    · split at hx
      · cases hx
      · exact h2.nodes x hx
  · rw [kd] at hx
    split at hx
    · rename_i e1
      show Blk _ x #[ptrO (hd (upd s.sq (w.heap.size + 1) [] x) none), ptrO (lst none (upd s.sq (w.heap.size + 1) [] x)), .int .i64 (upd s.sq (w.heap.size + 1) [] x).length, .pointer (some ⟨upd s.hm (w.heap.size + 1) w.heap.size x, 0, none⟩)] _
      rw [e1, upd_same, upd_same]; exact bL
    · rename_i e1
      split at hx
      · cases hx
      · show Blk _ x #[ptrO (hd (upd s.sq (w.heap.size + 1) [] x) none), ptrO (lst none (upd s.sq (w.heap.size + 1) [] x)), .int .i64 (upd s.sq (w.heap.size + 1) [] x).length, .pointer (some ⟨upd s.hm (w.heap.size + 1) w.heap.size x, 0, none⟩)] _
        rw [upd_ne _ _ e1, upd_ne _ _ e1]; exact h2.lists x hx
  · have hx' : w.heap.size + 2 ≤ x := by simpa using hx
    rw [kd, if_neg (by omega), if_neg (by omega)]
    exact h.fresh x (by omega)
theorem llen_f (s : LS) (w : World) (h : LW_f s w) (l : Nat) (hl : s.kd l = 1) :
    Calls Try.prog 37 #[.pointer (some ⟨l, 0, none⟩)] w fun e w' => e = .returned (.int .i64 (s.sq l).length) ∧ w = w' := by
  have c0 := (h.lists l hl).cell 2
  have c0' : w.cell? ⟨l, 2, none⟩ = some (.int .i64 (s.sq l).length) := c0
  generalize (s.sq l).length = p at *
  go_enter Try.func37, Try.ntmps37
  go_wp2
  go_ret
  exact ⟨rfl, rfl⟩
/-- is a node there? -/
theorem lhas_f (s : LS) (w : World) (h : LW_f s w) (l x : Nat) (hl : s.kd l = 1) (hx : s.kd x = 2) :
    Calls Try.prog 81 #[.pointer (some ⟨l, 0, none⟩), .pointer (some ⟨x, 0, none⟩)] w fun e w' => e = .returned (.bool (decide (x ∈ s.sq l))) ∧ Still w w' := by
  have bX := h.nodes x hx
  have bL := h.lists l hl
  have cx := bX.cell 6
  have cl := bL.cell 3
  have cx' : w.cell? ⟨x, 6, none⟩ = some (ptrO (s.nd x).home) := cx
  have cl' : w.cell? ⟨l, 3, none⟩ = some (.pointer (some ⟨s.hm l, 0, none⟩)) := cl
  clear cx cl
  cases hh : (s.nd x).home with
  | none =>
    rw [hh] at cx'
    have cx2 : w.cell? ⟨x, 6, none⟩ = some (.pointer none) := cx'
    have hm : decide (x ∈ s.sq l) = false := by simpa using h.inv.nomem hh hl
    rw [hm]
    clear cx' hh hm
    go_enter Try.func81, Try.ntmps81
    go_wp2_with fail
    go_quiet (fail)
    go_wp2_with fail
    go_ret
    exact ⟨rfl, (still_refl w).drewN _⟩
  | some a =>
    rw [hh] at cx'
    have cx2 : w.cell? ⟨x, 6, none⟩ = some (.pointer (some ⟨a, 0, none⟩)) := cx'
    rcases h.inv.own x hx with h1 | ⟨l', hl', hm'⟩
    · rw [hh] at h1; cases h1
    · obtain ⟨_, a', d, e1, hk, hL⟩ := h.inv.mem l' x hl' hm'
      rw [hh] at e1; cases e1
      have hd : decide (x ∈ s.sq l) = (s.hm l' == s.hm l) := by
        by_cases e : l' = l
        · subst e; simp [hm']
        · have h1 : x ∉ s.sq l := fun hm => e (h.inv.one hl' hl hm' hm)
          have h2 : s.hm l' ≠ s.hm l := fun e2 => e (h.inv.inj l' l hl' hl e2)
          simp [h1, h2]
      have hd2 : decide (x ∈ s.sq l) = decide (s.hm l' = s.hm l) := by rw [hd]; by_cases e : s.hm l' = s.hm l <;> simp [e]
      rw [hd2]
      obtain ⟨kr, _⟩ := h.inv.hmk l' hl'
      obtain ⟨kq, _⟩ := h.inv.hmk l hl
      have hat := fun w hw => at_any s h.inv.tok a d (s.hm l') w hw hk hL
      have HAT := Lib.hid hat
      have HH := Lib.hid h.homes
      have HL := Lib.hid bL
      have HX := Lib.hid bX
      generalize s.hm l' = r at *
      generalize s.hm l = q at *
      clear cx' hh hd hd2 hat hL hm'
      go_enter Try.func81, Try.ntmps81
      go_wp2_with fail
      refine wp_region_text ([4], [106, 163]) [x, l] (by kernel_rfl) (by kernel_rfl) (cellsB_cons HX.out.cells (cellsB_cons HL.out.cells cellsB_nil)) (by simp [segs, isEff, isLoad, askOps, asks, ptrEq, eqOrNe, isNil]; rfl) ?_
      refine segs_go stay_drew (by simp [isLoad]) ?_
      go_wp2_with fail
      refine segs_load stay_drew (fun _ => (by exact ⟨x, _, rfl, by simp⟩)) ?_
      go_wp2_with fail
      refine segs_load stay_drew (fun _ => (by exact ⟨x, _, rfl, by simp⟩)) ?_
      go_wp2_with fail
      refine (HAT.out w.drew (fun y hy => (HH.out y hy).drew)).mono ?_
      rintro e w1 ⟨rfl, k1⟩
      have hst1 : StayB [x, l] w w1 := stay_drew.kept k1 (fun b hb => ⟨by simp only [List.mem_cons, List.not_mem_nil, or_false] at hb; rcases hb with rfl | rfl; exact HX.out.lt; exact HL.out.lt, fun f => f⟩)
      have d1 := (HL.out.drew.still k1).cell 3
      have d1' : w1.cell? ⟨l, 3, none⟩ = some (.pointer (some ⟨q, 0, none⟩)) := d1
      have KW := Lib.hid (((still_refl w).drew).trans k1)
      have heq := eq_ptr Try.underlying163 sizeHome (((HH.out r kr).drew).still k1) (((HH.out q kq).drew).still k1)
      clear d1 k1
      go_wp2_with fail
      refine segs_go hst1 (by simp [isLoad]) ?_
      go_wp2_with fail
      refine segs_load hst1 (fun _ => (by exact ⟨l, _, rfl, by simp⟩)) ?_
      go_wp2_with fail
      refine segs_go hst1 (by simp [isLoad]) ?_
      go_wp2_with fail
      refine segs_nil ?_
      go_wp2_with fail
      go_ret
      exact ⟨rfl, KW.out⟩
/-- some blocks were turned -/
theorem LW_f.turn {s s' : LS} {S : Nat → Prop} {w w' : World} (h : LW_f s w) (inv : LInv s') (hkd : s'.kd = s.kd) (hto : s'.to = s.to) (k : Kept S w w') (h3 : ∀ y, S y → s.kd y ≠ 3)
    (hn : ∀ y, s.kd y = 2 → (¬ S y ∧ s'.nd y = s.nd y) ∨ Blk w' y #[FC (s'.nd y).val 0, FC (s'.nd y).val 1, FC (s'.nd y).val 2, FC (s'.nd y).val 3, ptrO (s'.nd y).prev, ptrO (s'.nd y).next, ptrO (s'.nd y).home] 167)
    (hl : ∀ y, s.kd y = 1 → (¬ S y ∧ s'.sq y = s.sq y ∧ s'.hm y = s.hm y) ∨ Blk w' y #[ptrO (hd (s'.sq y) none), ptrO (lst none (s'.sq y)), .int .i64 (s'.sq y).length, .pointer (some ⟨s'.hm y, 0, none⟩)] 165) : LW_f s' w' := by
  refine ⟨inv, fun x hx => ?_, fun x hx => ?_, fun x hx => ?_, fun x hx => by rw [hkd]; exact h.fresh x (Nat.le_trans k.size hx)⟩
  · rw [hkd] at hx; rw [hto]; exact (h.homes x hx).kept k (fun hs => h3 x hs hx)
  · rw [hkd] at hx
    rcases hn x hx with ⟨h1, h2⟩ | h1
    · rw [h2]; exact (h.nodes x hx).kept k h1
    · exact h1
  · rw [hkd] at hx
    rcases hl x hx with ⟨h1, h2, h4⟩ | h1
    · rw [h2, h4]; exact (h.lists x hx).kept k h1
    · exact h1
/-- a node is put behind all others -/
theorem lput_no_f (s : LS) (w : World) (h : LW_f s w) (l x : Nat) (hl : s.kd l = 1) (hx : s.kd x = 2) (hh : (s.nd x).home ≠ none) :
    Calls Try.prog 64 #[.pointer (some ⟨l, 0, none⟩), .pointer (some ⟨x, 0, none⟩)] w fun e w' => e = .returned (.int .i64 7) ∧ w = w' := by
  have cx := (h.nodes x hx).cell 6
  have cx' : w.cell? ⟨x, 6, none⟩ = some (ptrO (s.nd x).home) := cx
  cases hh' : (s.nd x).home with
  | none => exact absurd hh' hh
  | some a =>
    rw [hh'] at cx'
    have cx2 : w.cell? ⟨x, 6, none⟩ = some (.pointer (some ⟨a, 0, none⟩)) := cx'
    clear cx cx' hh hh'
    go_enter Try.func64, Try.ntmps64
    go_wp2_with fail
    go_ret
    exact ⟨rfl, rfl⟩
set_option maxHeartbeats 1000000 in
theorem lput_f (s : LS) (w : World) (h : LW_f s w) (l x : Nat) (hl : s.kd l = 1) (hx : s.kd x = 2) (hh : (s.nd x).home = none) (hbig : (s.sq l).length < 9223372036854775807) :
    Calls Try.prog 64 #[.pointer (some ⟨l, 0, none⟩), .pointer (some ⟨x, 0, none⟩)] w fun e w' => e = .returned (.int .i64 0) ∧ LW_f (s.put l x) w' ∧ Kept (fun y => s.kd y = 1 ∨ s.kd y = 2) w w' := by
  have bX := h.nodes x hx
  have bL := h.lists l hl
  have cx : w.cell? ⟨x, 6, none⟩ = some (ptrO (s.nd x).home) := bX.cell 6
  rw [hh] at cx
  have cx3 : w.cell? ⟨x, 6, none⟩ = some (.pointer none) := cx
  have cx1 : w.cell? ⟨x, 4, none⟩ = some (ptrO (s.nd x).prev) := bX.cell 4
  have cx2 : w.cell? ⟨x, 5, none⟩ = some (ptrO (s.nd x).next) := bX.cell 5
  have fx1 := bX.free 4
  have fx2 := bX.free 5
  have fx3 := bX.free 6
  have cl0 : w.cell? ⟨l, 0, none⟩ = some (ptrO (hd (s.sq l) none)) := bL.cell 0
  have cl1 : w.cell? ⟨l, 1, none⟩ = some (ptrO (lst none (s.sq l))) := bL.cell 1
  have cl2 : w.cell? ⟨l, 2, none⟩ = some (.int .i64 (s.sq l).length) := bL.cell 2
  have cl3 : w.cell? ⟨l, 3, none⟩ = some (.pointer (some ⟨s.hm l, 0, none⟩)) := bL.cell 3
  have fl0 := bL.free 0
  have fl1 := bL.free 1
  have fl2 := bL.free 2
  have hxl : x ≠ l := by intro e; rw [e, hl] at hx; cases hx
  obtain ⟨n, hn⟩ : ∃ n, n = (s.sq l).length := ⟨_, rfl⟩
  rw [← hn] at cl2 hbig
  have HN := Lib.hid hn
  have H := Lib.hid h
  have HH := Lib.hid hh
  have HL := Lib.hid bL
  have HX := Lib.hid bX
  generalize ptrO (hd (s.sq l) none) = p0 at cl0
  generalize ptrO (s.nd x).prev = p1 at cx1
  generalize ptrO (s.nd x).next = p2 at cx2
  clear hn h hh cx bL bX
  rcases snoc_cases (s.sq l) with h0 | ⟨a, z, h0⟩
  · rw [h0] at cl1
    have cl1' : w.cell? ⟨l, 1, none⟩ = some (.pointer none) := cl1
    have H0 := Lib.hid h0
    clear cl1 h0
    go_enter Try.func64, Try.ntmps64
    go_wp2_with fail
    go_region
    go_wp2_with fail
    go_ret
    refine ⟨rfl, ?_⟩
    have hlx := Ne.symm hxl
    have bx := ((((((HX.out.set 6 (.pointer (some ⟨s.hm l, 0, none⟩))).set 4 (.pointer none)).set 5 (.pointer none)).other (a := ⟨l, 0, none⟩) hxl (.pointer (some ⟨x, 0, none⟩))).other (a := ⟨l, 1, none⟩) hxl (.pointer (some ⟨x, 0, none⟩))).other (a := ⟨l, 2, none⟩) hxl (.int .i64 ((n : Int) + 1))).drew
    have bl := ((((((HL.out.other (a := ⟨x, 6, none⟩) hlx (.pointer (some ⟨s.hm l, 0, none⟩))).other (a := ⟨x, 4, none⟩) hlx (.pointer none)).other (a := ⟨x, 5, none⟩) hlx (.pointer none)).set 0 (.pointer (some ⟨x, 0, none⟩))).set 1 (.pointer (some ⟨x, 0, none⟩))).set 2 (.int .i64 ((n : Int) + 1))).drew
    have kk : Kept (fun y => y = x ∨ y = l) w ((((((w.setCell ⟨x, 6, none⟩ (.pointer (some ⟨s.hm l, 0, none⟩))).setCell ⟨x, 4, none⟩ (.pointer none)).setCell ⟨x, 5, none⟩ (.pointer none)).setCell ⟨l, 0, none⟩ (.pointer (some ⟨x, 0, none⟩))).setCell ⟨l, 1, none⟩ (.pointer (some ⟨x, 0, none⟩))).setCell ⟨l, 2, none⟩ (.int .i64 ((n : Int) + 1))).drew :=
      ((((((((Kept.refl _ w).setCell (p := ⟨x, 6, none⟩) (fun _ => .inl rfl) _).setCell (p := ⟨x, 4, none⟩) (fun _ => .inl rfl) _).setCell (p := ⟨x, 5, none⟩) (fun _ => .inl rfl) _).setCell (p := ⟨l, 0, none⟩) (fun _ => .inr rfl) _).setCell (p := ⟨l, 1, none⟩) (fun _ => .inr rfl) _).setCell (p := ⟨l, 2, none⟩) (fun _ => .inr rfl) _)).drew
    have hnx : ((s.put l x).nd x) = { s.nd x with prev := lst none (s.sq l), next := none, home := some (s.hm l) } := if_pos rfl
    have hsl : (s.put l x).sq l = s.sq l ++ [x] := upd_same _ _ _
    refine ⟨H.out.turn (H.out.inv.put hl hx HH.out) rfl rfl kk (by rintro y (rfl | rfl) <;> omega) (fun y hy => ?_) (fun y hy => ?_), kk.mono (by rintro y _ (rfl | rfl); exact .inr hx; exact .inl hl)⟩
    · by_cases e : y = x
      · subst e; right; rw [hnx, H0.out]; exact bx.cast (by simp [ptrO, lst])
      · left
        refine ⟨(by rintro (h1 | h1); exact e h1; (rw [h1, hl] at hy; cases hy)), ?_⟩
        show putNd _ _ _ _ y = _
        unfold putNd; rw [if_neg e, if_neg (by rw [H0.out]; intro h; cases h)]
    · by_cases e : y = l
      · subst e; right; rw [hsl, H0.out]; exact bl.cast (by have := HN.out; rw [H0.out] at this; simp [ptrO, hd, lst, this]; rfl)
      · left
        exact ⟨(by rintro (h1 | h1); (rw [h1, hx] at hy; cases hy); exact e h1), upd_ne _ _ e, rfl⟩
  · rw [h0, lst_snoc] at cl1
    have cl1' : w.cell? ⟨l, 1, none⟩ = some (.pointer (some ⟨z, 0, none⟩)) := cl1
    have H0 := Lib.hid h0
    clear cl1 h0
    have hzm : z ∈ s.sq l := by rw [H0.out]; simp
    have hz2 := (H.out.inv.mem l z hl hzm).1
    have bZ := H.out.nodes z hz2
    have cz2 : w.cell? ⟨z, 5, none⟩ = some (ptrO (s.nd z).next) := bZ.cell 5
    have fz2 := bZ.free 5
    have hzl : z ≠ l := by intro e; rw [e, hl] at hz2; cases hz2
    have hzx : z ≠ x := by intro e; subst e; exact H.out.inv.nomem HH.out hl hzm
    generalize ptrO (s.nd z).next = p3 at cz2
    clear bZ
    go_enter Try.func64, Try.ntmps64
    go_wp2_with fail
    go_region
    go_wp2_with fail
    go_ret
    refine ⟨rfl, ?_⟩
    have hlx := Ne.symm hxl
    have hlz := Ne.symm hzl
    have hxz := Ne.symm hzx
    have bZ := H.out.nodes z hz2
    have bx := ((((((HX.out.set 6 (.pointer (some ⟨s.hm l, 0, none⟩))).set 4 (.pointer (some ⟨z, 0, none⟩))).set 5 (.pointer none)).other (a := ⟨z, 5, none⟩) hxz (.pointer (some ⟨x, 0, none⟩))).other (a := ⟨l, 1, none⟩) hxl (.pointer (some ⟨x, 0, none⟩))).other (a := ⟨l, 2, none⟩) hxl (.int .i64 ((n : Int) + 1))).drew
    have bl := ((((((HL.out.other (a := ⟨x, 6, none⟩) hlx (.pointer (some ⟨s.hm l, 0, none⟩))).other (a := ⟨x, 4, none⟩) hlx (.pointer (some ⟨z, 0, none⟩))).other (a := ⟨x, 5, none⟩) hlx (.pointer none)).other (a := ⟨z, 5, none⟩) hlz (.pointer (some ⟨x, 0, none⟩))).set 1 (.pointer (some ⟨x, 0, none⟩))).set 2 (.int .i64 ((n : Int) + 1))).drew
    have bz := ((((((bZ.other (a := ⟨x, 6, none⟩) hzx (.pointer (some ⟨s.hm l, 0, none⟩))).other (a := ⟨x, 4, none⟩) hzx (.pointer (some ⟨z, 0, none⟩))).other (a := ⟨x, 5, none⟩) hzx (.pointer none)).set 5 (.pointer (some ⟨x, 0, none⟩))).other (a := ⟨l, 1, none⟩) hzl (.pointer (some ⟨x, 0, none⟩))).other (a := ⟨l, 2, none⟩) hzl (.int .i64 ((n : Int) + 1))).drew
    have kk : Kept (fun y => y = x ∨ y = l ∨ y = z) w ((((((w.setCell ⟨x, 6, none⟩ (.pointer (some ⟨s.hm l, 0, none⟩))).setCell ⟨x, 4, none⟩ (.pointer (some ⟨z, 0, none⟩))).setCell ⟨x, 5, none⟩ (.pointer none)).setCell ⟨z, 5, none⟩ (.pointer (some ⟨x, 0, none⟩))).setCell ⟨l, 1, none⟩ (.pointer (some ⟨x, 0, none⟩))).setCell ⟨l, 2, none⟩ (.int .i64 ((n : Int) + 1))).drew :=
      ((((((((Kept.refl _ w).setCell (p := ⟨x, 6, none⟩) (fun _ => .inl rfl) _).setCell (p := ⟨x, 4, none⟩) (fun _ => .inl rfl) _).setCell (p := ⟨x, 5, none⟩) (fun _ => .inl rfl) _).setCell (p := ⟨z, 5, none⟩) (fun _ => .inr (.inr rfl)) _).setCell (p := ⟨l, 1, none⟩) (fun _ => .inr (.inl rfl)) _).setCell (p := ⟨l, 2, none⟩) (fun _ => .inr (.inl rfl)) _)).drew
    have hnx : ((s.put l x).nd x) = { s.nd x with prev := lst none (s.sq l), next := none, home := some (s.hm l) } := if_pos rfl
    have hsl : (s.put l x).sq l = s.sq l ++ [x] := upd_same _ _ _
    have hnz : ((s.put l x).nd z) = { s.nd z with next := some x } := by
      show putNd _ _ _ _ z = _
      unfold putNd; rw [if_neg hzx, if_pos (by rw [H0.out, lst_snoc])]
    refine ⟨H.out.turn (H.out.inv.put hl hx HH.out) rfl rfl kk (by rintro y (rfl | rfl | rfl) <;> omega) (fun y hy => ?_) (fun y hy => ?_), kk.mono (by rintro y _ (rfl | rfl | rfl); exact .inr hx; exact .inl hl; exact .inr hz2)⟩
    · by_cases e : y = x
      · subst e; right; rw [hnx, H0.out, lst_snoc]; exact bx.cast (by simp [ptrO])
      · by_cases e2 : y = z
        · subst e2; right; rw [hnz]; exact bz.cast (by simp [ptrO])
        · left
          refine ⟨(by rintro (h1 | h1 | h1); exact e h1; (rw [h1, hl] at hy; cases hy); exact e2 h1), ?_⟩
          show putNd _ _ _ _ y = _
          unfold putNd; rw [if_neg e, if_neg (by rw [H0.out, lst_snoc]; intro h; cases h; exact e2 rfl)]
    · by_cases e : y = l
      · subst e; right; rw [hsl, lst_snoc]; exact bl.cast (by have := HN.out; simp [ptrO, hd_append, H0.out] at this ⊢; rw [this]; cases a <;> simp [hd] <;> first | rfl | exact ⟨by omega, rfl⟩)
      · left
        exact ⟨(by rintro (h1 | h1 | h1); (rw [h1, hx] at hy; cases hy); exact e h1; (rw [h1, hz2] at hy; cases hy)), upd_ne _ _ e, rfl⟩
/-- a new node x, in a world -/
theorem LW_f.node {s : LS} {w : World} (h : LW_f s w) (v : Value) {x : Nat} (hx : w.heap.size = x) : LW_f (s.node x v) (w.alloc (.cells #[FC v 0, FC v 1, FC v 2, FC v 3, .pointer none, .pointer none, .pointer none] 167)) := by
  subst hx
  have h2 := h.still ((still_refl w).alloc (.cells #[FC v 0, FC v 1, FC v 2, FC v 3, .pointer none, .pointer none, .pointer none] 167))
  have f0 := h.fresh w.heap.size (Nat.le_refl _)
  have kd : ∀ y, (s.node w.heap.size v).kd y = if y = w.heap.size then 2 else s.kd y := fun y => rfl
  refine ⟨h.inv.node f0 v, fun y hy => ?_, fun y hy => ?_, fun y hy => ?_, fun y hy => ?_⟩
  · rw [kd] at hy
    split at hy
    · cases hy
    · exact h2.homes y hy
  · rw [kd] at hy
    split at hy
    · rename_i e
      subst e
      have e2 : (s.node w.heap.size v).nd w.heap.size = ⟨v, none, none, none⟩ := upd_same _ _ _
      rw [e2]; exact Blk.new w _ _
    · rename_i e
      have e2 : (s.node w.heap.size v).nd y = s.nd y := upd_ne _ _ e
      rw [e2]; exact h2.nodes y hy
  · rw [kd] at hy
    split at hy
    · cases hy
    · exact h2.lists y hy
  · have hy' : w.heap.size + 1 ≤ y := by simpa using hy
    rw [kd, if_neg (by omega)]; exact h.fresh y (by omega)
/-- a node is taken out -/
theorem lunlink_no_f (s : LS) (w : World) (h : LW_f s w) (l x : Nat) (hl : s.kd l = 1) (hx : s.kd x = 2) (hm : x ∉ s.sq l) :
    Calls Try.prog 75 #[.pointer (some ⟨l, 0, none⟩), .pointer (some ⟨x, 0, none⟩)] w fun e w' => e = .returned (.int .i64 6) ∧ Still w w' := by
  have hh := lhas_f s w h l x hl hx
  rw [show decide (x ∈ s.sq l) = false by simpa using hm] at hh
  have HH := Lib.hid hh
  clear hh
  go_enter Try.func75, Try.ntmps75
  go_wp2_with fail
  refine HH.out.mono ?_
  rintro e w1 ⟨rfl, k1⟩
  go_wp2_with fail
  go_ret
  exact ⟨rfl, k1⟩
theorem sizeNode_f : (Try.prog.info? 167).map (fun i => i.size) = some (3 + 4) := by kernel_rfl


theorem lfirst_f (s : LS) (w : World) (h : LW_f s w) (l : Nat) (hl : s.kd l = 1) :
    Calls Try.prog 74 #[.pointer (some ⟨l, 0, none⟩)] w fun e w' => e = .returned (ptrO (hd (s.sq l) none)) ∧ w = w' := by
  have c0 := (h.lists l hl).cell 0
  have c0' : w.cell? ⟨l, 0, none⟩ = some (ptrO (hd (s.sq l) none)) := c0
  generalize ptrO (hd (s.sq l) none) = p at *
  go_enter Try.func74, Try.ntmps74
  go_wp2
  go_ret
  exact ⟨rfl, rfl⟩

set_option maxHeartbeats 1000000 in
set_option maxRecDepth 100000 in
theorem lpush_f (s : LS) (w : World) (h : LW_f s w) (l : Nat) (v : FiringV) (hl : s.kd l = 1) (hbig : (s.sq l).length < 9223372036854775807) :
    Calls Try.prog 39 #[.pointer (some ⟨l, 0, none⟩), v.v] w fun e w' => e = .returned (.pointer (some ⟨w.heap.size + 1, 0, none⟩)) ∧ LW_f ((s.node (w.heap.size + 1) v.v).put l (w.heap.size + 1)) w' ∧ Kept (fun y => s.kd y = 1 ∨ s.kd y = 2) w w' := by
  obtain ⟨w0, hw0⟩ : ∃ w0, w0 = w.alloc (.cells #[.int .u64 v.id, .int .u64 v.gen, .int .u64 v.dl, .int .u64 v.tick] 40) := ⟨_, rfl⟩
  have k0 : Still w w0 := by rw [hw0]; exact (still_refl w).alloc _
  have b0 : Blk w0 w.heap.size #[.int .u64 v.id, .int .u64 v.gen, .int .u64 v.dl, .int .u64 v.tick] 40 := by rw [hw0]; exact Blk.new _ _ _
  have e0 : w0.heap.size = w.heap.size + 1 := by rw [hw0]; simp
  have h0 := h.still k0
  have f0 := h0.fresh w0.heap.size (Nat.le_refl _)
  have hN := h0.node v.v rfl
  have hlk : (s.node w0.heap.size v.v).kd l = 1 := by
    have e : l ≠ w0.heap.size := by intro e; rw [e, f0] at hl; cases hl
    show upd s.kd w0.heap.size 2 l = 1
    rw [upd_ne _ _ e]; exact hl
  have hxk : (s.node w0.heap.size v.v).kd w0.heap.size = 2 := upd_same _ _ _
  have hxh : ((s.node w0.heap.size v.v).nd w0.heap.size).home = none := by
    show (upd s.nd w0.heap.size _ w0.heap.size).home = none
    rw [upd_same]
  have hput := lput_f _ _ hN l w0.heap.size hlk hxk hxh hbig
  rw [FC_v0, FC_v1, FC_v2, FC_v3] at hput
  have HP := Lib.hid hput
  have HE := Lib.hid e0
  have hkk : Hid (∀ y, y < w0.heap.size → (s.node w0.heap.size v.v).kd y = s.kd y) := Lib.hid (fun y hy => upd_ne _ _ (by omega))
  have c0 : w0.cell? ⟨w.heap.size, 0, none⟩ = some (.int .u64 v.id) := b0.cell 0
  have c1 : w0.cell? ⟨w.heap.size, 1, none⟩ = some (.int .u64 v.gen) := b0.cell 1
  have c2 : w0.cell? ⟨w.heap.size, 2, none⟩ = some (.int .u64 v.dl) := b0.cell 2
  have c3 : w0.cell? ⟨w.heap.size, 3, none⟩ = some (.int .u64 v.tick) := b0.cell 3
  have K0 := Lib.hid k0
  have HW := Lib.hid hw0
  clear hput f0 hN h0 b0 e0 k0 h hw0 hxh hxk hlk
  obtain ⟨A, hA⟩ : ∃ A, A = w.heap.size := ⟨_, rfl⟩
  rw [← hA] at c0 c1 c2 c3 HE ⊢
  obtain ⟨vi, vg, vd, vt⟩ := v
  simp only at c0 c1 c2 c3 HP HW ⊢
  have HA := Lib.hid hA
  go_enter Try.func39, Try.ntmps39
  go_upto_region 3 with fail
  rw [← HW.out, ← HA.out]
  clear hA
  go_wp2_with fail
  refine HP.out.mono ?_
  rintro e w1 ⟨rfl, h1, k1⟩
  go_wp2_with fail
  go_ret
  rw [← HE.out]
  refine ⟨rfl, h1, ((K0.out.mono (fun _ _ f => f.elim)).alloc _).step k1 (fun y hy h9 => ?_)⟩
  rw [hkk.out y (by have := K0.out.size; omega)] at h9; exact h9

set_option maxHeartbeats 2000000 in
theorem lunlink_f (s : LS) (w : World) (h : LW_f s w) (l x : Nat) (hl : s.kd l = 1) (hx : s.kd x = 2) (hm : x ∈ s.sq l) (hbig : (s.sq l).length < 9223372036854775807) :
    Calls Try.prog 75 #[.pointer (some ⟨l, 0, none⟩), .pointer (some ⟨x, 0, none⟩)] w fun e w' => e = .returned (.int .i64 0) ∧ LW_f (s.out l x) w' ∧ Kept (fun y => s.kd y = 1 ∨ s.kd y = 2) w w' := by
  have hh := lhas_f s w h l x hl hx
  rw [show decide (x ∈ s.sq l) = true by simpa using hm] at hh
  obtain ⟨a, b, h0, hxa, hxb, hab, her, hna, hnb⟩ := split_at hm (h.inv.nodup l hl)
  obtain ⟨hp, hn⟩ := h.inv.ends hl h0
  have hmem : ∀ y, y ∈ a ∨ y ∈ b → s.kd y = 2 ∧ y ≠ x := fun y hy => by
    refine ⟨(h.inv.mem l y hl (by rw [h0]; simp only [List.mem_append, List.mem_cons]; rcases hy with h | h; exact .inl h; exact .inr (.inr h))).1, ?_⟩
    rintro rfl
    rcases hy with h | h
    · exact hxa h
    · exact hxb h
  have hinv := h.inv.out hl hm
  have hlen : ((s.sq l).length : Int) - 1 = ((a ++ b).length : Int) := by rw [h0]; simp; omega
  have hsq : (s.out l x).sq l = a ++ b := by show upd s.sq l _ l = _; rw [upd_same, her]
  have nd : ∀ y, (s.out l x).nd y = if y = x then { s.nd x with prev := none, next := none, home := none } else if lst none a = some y then { s.nd y with next := hd b none } else if hd b none = some y then { s.nd y with prev := lst none a } else s.nd y := fun y => by
    show outNd s.nd x y = _
    unfold outNd; rw [hp, hn]
  have hxl : x ≠ l := by intro e; rw [e, hl] at hx; cases hx
  obtain ⟨n, hn0⟩ : ∃ n, n = (s.sq l).length := ⟨_, rfl⟩
  rw [← hn0] at hbig hlen
  have HN := Lib.hid hn0
  have HLEN := Lib.hid hlen
  have HSQ := Lib.hid hsq
  have HND := Lib.hid nd
  have HI := Lib.hid hinv
  have HH := Lib.hid hh
  have HW := Lib.hid h
  have HM := Lib.hid hmem
  have HAB := Lib.hid hab
  have H0 := Lib.hid h0
  have HP := Lib.hid hp
  have HNX := Lib.hid hn
  clear hn0 hlen hsq nd hinv hh hmem hab h0 hp hn her h hm hxa hxb hna hnb
  have fin : ∀ (w1 w' : World), Still w w1 → Kept (fun y => y = x ∨ y = l ∨ lst none a = some y ∨ hd b none = some y) w1 w' →
      Blk w' x #[FC (s.nd x).val 0, FC (s.nd x).val 1, FC (s.nd x).val 2, FC (s.nd x).val 3, .pointer none, .pointer none, .pointer none] 167 →
      Blk w' l #[ptrO (hd (a ++ b) none), ptrO (lst none (a ++ b)), .int .i64 ((n : Int) - 1), .pointer (some ⟨s.hm l, 0, none⟩)] 165 →
      (∀ y, lst none a = some y → Blk w' y #[FC (s.nd y).val 0, FC (s.nd y).val 1, FC (s.nd y).val 2, FC (s.nd y).val 3, ptrO (s.nd y).prev, ptrO (hd b none), ptrO (s.nd y).home] 167) →
      (∀ y, hd b none = some y → Blk w' y #[FC (s.nd y).val 0, FC (s.nd y).val 1, FC (s.nd y).val 2, FC (s.nd y).val 3, ptrO (lst none a), ptrO (s.nd y).next, ptrO (s.nd y).home] 167) →
      LW_f (s.out l x) w' ∧ Kept (fun y => s.kd y = 1 ∨ s.kd y = 2) w w' := fun w1 w' k0 k bx bl bp bq => by
    have hS : ∀ y, (y = x ∨ y = l ∨ lst none a = some y ∨ hd b none = some y) → s.kd y = 1 ∨ s.kd y = 2 := by
      rintro y (rfl | rfl | h1 | h1)
      · exact .inr hx
      · exact .inl hl
      · exact .inr (HM.out y (.inl (lst_mem h1))).1
      · exact .inr (HM.out y (.inr (hd_mem h1))).1
    refine ⟨(HW.out.still k0).turn HI.out rfl rfl k (fun y hy => by have := hS y hy; omega) (fun y hy => ?_) (fun y hy => ?_), k0.then (k.mono (fun y _ hy => hS y hy))⟩
    · rw [HND.out]
      by_cases e : y = x
      · subst e; right; rw [if_pos rfl]; exact bx
      · rw [if_neg e]
        by_cases e2 : lst none a = some y
        · right; rw [if_pos e2]; exact bp y e2
        · rw [if_neg e2]
          by_cases e3 : hd b none = some y
          · right; rw [if_pos e3]; exact bq y e3
          · left; rw [if_neg e3]
            exact ⟨(by rintro (h1 | h1 | h1 | h1); exact e h1; (rw [h1, hl] at hy; cases hy); exact e2 h1; exact e3 h1), rfl⟩
    · by_cases e : y = l
      · subst e; right; rw [HSQ.out, ← HLEN.out]; exact bl
      · left
        refine ⟨?_, upd_ne _ _ e, rfl⟩
        rintro (h1 | h1 | h1 | h1)
        · rw [h1, hx] at hy; cases hy
        · exact e h1
        · rw [(HM.out y (.inl (lst_mem h1))).1] at hy; cases hy
        · rw [(HM.out y (.inr (hd_mem h1))).1] at hy; cases hy
  have FIN := Lib.hid fin
  clear fin
  have hcb : b = [] ∨ ∃ q b0, b = q :: b0 := by cases b with | nil => exact .inl rfl | cons q b0 => exact .inr ⟨q, b0, rfl⟩
  rcases snoc_cases a with ha | ⟨a0, p, ha⟩ <;> rcases hcb with hb | ⟨q, b0, hb⟩
  · obtain ⟨vp, hvp⟩ : ∃ v, v = ptrO (s.nd x).home := ⟨_, rfl⟩
    have hpv : (s.nd x).prev = none := HP.out.trans (by rw [ha]; rfl)
    have hnv : (s.nd x).next = none := HNX.out.trans (by rw [hb]; rfl)
    go_enter Try.func75, Try.ntmps75
    go_wp2_with fail
    refine HH.out.mono ?_
    rintro e w1 ⟨rfl, k1⟩
    have h1 := HW.out.still k1
    have bX := h1.nodes x hx
    have bL := h1.lists l hl
    rw [hpv, hnv, ← hvp] at bX
    rw [← HN.out] at bL
    have cx1 : w1.cell? ⟨x, 4, none⟩ = some (.pointer none) := bX.cell 4
    have cx2 : w1.cell? ⟨x, 5, none⟩ = some (.pointer none) := bX.cell 5
    have cx3 : w1.cell? ⟨x, 6, none⟩ = some vp := bX.cell 6
    have fx1 := bX.free 4
    have fx2 := bX.free 5
    have fx3 := bX.free 6
    have fl0 := bL.free 0
    have fl1 := bL.free 1
    have fl2 := bL.free 2
    obtain ⟨v0, hv0⟩ : ∃ v, v = ptrO (hd (s.sq l) none) := ⟨_, rfl⟩
    obtain ⟨v1, hv1⟩ : ∃ v, v = ptrO (lst none (s.sq l)) := ⟨_, rfl⟩
    rw [← hv0, ← hv1] at bL
    have cl0 : w1.cell? ⟨l, 0, none⟩ = some v0 := bL.cell 0
    have cl1 : w1.cell? ⟨l, 1, none⟩ = some v1 := bL.cell 1
    have cl2 : w1.cell? ⟨l, 2, none⟩ = some (.int .i64 n) := bL.cell 2
    have HBX := Lib.hid bX
    have HBL := Lib.hid bL
    have HV0 := Lib.hid hv0
    have HV1 := Lib.hid hv1
    clear bX bL hpv hnv h1 hvp hv0 hv1
    go_wp2_with fail
    go_ret
    refine ⟨rfl, FIN.out w1 _ k1 ?_ ?_ ?_ ?_ ?_⟩
    · repeat (first | (with_reducible exact Kept.refl _ _) | (with_reducible refine Kept.drewN ?_ _) | (with_reducible refine Kept.drew ?_) | (with_reducible refine Kept.setCell ?_ (fun _ => by rw [ha, hb]; simp [lst_snoc, lst, hd]) _))
    · ((repeat' (first | (with_reducible apply Blk.cast HBX.out) | (with_reducible apply Blk.drewN) | (with_reducible apply Blk.drew) | (with_reducible apply Blk.alloc) | (with_reducible apply Blk.set') | (with_reducible apply Blk.other))); (repeat (any_goals rfl)); (all_goals first | omega | (simp; omega)))
    · have e0 : ptrO (hd (a ++ b) none) = .pointer none := by rw [ha, hb]; rfl
      have e1 : ptrO (lst none (a ++ b)) = .pointer none := by rw [hb, List.append_nil, ha]; rfl
      rw [e0, e1]; ((repeat' (first | (with_reducible apply Blk.cast HBL.out) | (with_reducible apply Blk.drewN) | (with_reducible apply Blk.drew) | (with_reducible apply Blk.alloc) | (with_reducible apply Blk.set') | (with_reducible apply Blk.other))); (repeat (any_goals rfl)); (all_goals first | omega | (simp; omega)))
    · intro y hy; rw [ha] at hy; cases hy
    · intro y hy; rw [hb] at hy; cases hy
  · obtain ⟨vp, hvp⟩ : ∃ v, v = ptrO (s.nd x).home := ⟨_, rfl⟩
    have hpv : (s.nd x).prev = none := HP.out.trans (by rw [ha]; rfl)
    have hnv : (s.nd x).next = some q := HNX.out.trans (by rw [hb]; rfl)
    obtain ⟨hq2, hqx⟩ := HM.out q (.inr (by rw [hb]; simp))
    have hql : q ≠ l := by intro e; rw [e, hl] at hq2; cases hq2
    go_enter Try.func75, Try.ntmps75
    go_wp2_with fail
    refine HH.out.mono ?_
    rintro e w1 ⟨rfl, k1⟩
    have h1 := HW.out.still k1
    have bX := h1.nodes x hx
    have bL := h1.lists l hl
    rw [hpv, hnv, ← hvp] at bX
    rw [← HN.out] at bL
    have cx1 : w1.cell? ⟨x, 4, none⟩ = some (.pointer none) := bX.cell 4
    have cx2 : w1.cell? ⟨x, 5, none⟩ = some (.pointer (some ⟨q, 0, none⟩)) := bX.cell 5
    have cx3 : w1.cell? ⟨x, 6, none⟩ = some vp := bX.cell 6
    have fx1 := bX.free 4
    have fx2 := bX.free 5
    have fx3 := bX.free 6
    have fl0 := bL.free 0
    have fl1 := bL.free 1
    have fl2 := bL.free 2
    obtain ⟨v0, hv0⟩ : ∃ v, v = ptrO (hd (s.sq l) none) := ⟨_, rfl⟩
    obtain ⟨v1, hv1⟩ : ∃ v, v = ptrO (lst none (s.sq l)) := ⟨_, rfl⟩
    rw [← hv0, ← hv1] at bL
    have cl0 : w1.cell? ⟨l, 0, none⟩ = some v0 := bL.cell 0
    have cl1 : w1.cell? ⟨l, 1, none⟩ = some v1 := bL.cell 1
    have cl2 : w1.cell? ⟨l, 2, none⟩ = some (.int .i64 n) := bL.cell 2
    have bQ := h1.nodes q hq2
    obtain ⟨vq, hvq⟩ : ∃ v, v = ptrO (s.nd q).prev := ⟨_, rfl⟩
    rw [← hvq] at bQ
    have cq1 : w1.cell? ⟨q, 4, none⟩ = some vq := bQ.cell 4
    have fq1 := bQ.free 4
    have HBQ := Lib.hid bQ
    clear bQ hvq
    have HBX := Lib.hid bX
    have HBL := Lib.hid bL
    have HV0 := Lib.hid hv0
    have HV1 := Lib.hid hv1
    clear bX bL hpv hnv h1 hvp hv0 hv1
    go_wp2_with fail
    go_region
    go_wp2_with fail
    go_ret
    refine ⟨rfl, FIN.out w1 _ k1 ?_ ?_ ?_ ?_ ?_⟩
    · repeat (first | (with_reducible exact Kept.refl _ _) | (with_reducible refine Kept.drewN ?_ _) | (with_reducible refine Kept.drew ?_) | (with_reducible refine Kept.setCell ?_ (fun _ => by rw [ha, hb]; simp [lst_snoc, lst, hd]) _))
    · ((repeat' (first | (with_reducible apply Blk.cast HBX.out) | (with_reducible apply Blk.drewN) | (with_reducible apply Blk.drew) | (with_reducible apply Blk.alloc) | (with_reducible apply Blk.set') | (with_reducible apply Blk.other))); (repeat (any_goals rfl)); (all_goals first | omega | (simp; omega)))
    · have e0 : ptrO (hd (a ++ b) none) = .pointer (some ⟨q, 0, none⟩) := by rw [ha, hb]; rfl
      have e1 : ptrO (lst none (a ++ b)) = v1 := by rw [HV1.out, H0.out, hb]; simp [lst_append, lst]
      rw [e0, e1]; ((repeat' (first | (with_reducible apply Blk.cast HBL.out) | (with_reducible apply Blk.drewN) | (with_reducible apply Blk.drew) | (with_reducible apply Blk.alloc) | (with_reducible apply Blk.set') | (with_reducible apply Blk.other))); (repeat (any_goals rfl)); (all_goals first | omega | (simp; omega)))
    · intro y hy; rw [ha] at hy; cases hy
    · intro y hy; rw [hb] at hy; cases hy; rw [ha]; ((repeat' (first | (with_reducible apply Blk.cast HBQ.out) | (with_reducible apply Blk.drewN) | (with_reducible apply Blk.drew) | (with_reducible apply Blk.alloc) | (with_reducible apply Blk.set') | (with_reducible apply Blk.other))); (repeat (any_goals rfl)); (all_goals first | omega | (simp; omega)))
  · obtain ⟨vp, hvp⟩ : ∃ v, v = ptrO (s.nd x).home := ⟨_, rfl⟩
    have hpv : (s.nd x).prev = some p := HP.out.trans (by rw [ha]; exact lst_snoc _ _ _)
    have hnv : (s.nd x).next = none := HNX.out.trans (by rw [hb]; rfl)
    obtain ⟨hp2, hpx⟩ := HM.out p (.inl (by rw [ha]; simp))
    have hpl : p ≠ l := by intro e; rw [e, hl] at hp2; cases hp2
    go_enter Try.func75, Try.ntmps75
    go_wp2_with fail
    refine HH.out.mono ?_
    rintro e w1 ⟨rfl, k1⟩
    have h1 := HW.out.still k1
    have bX := h1.nodes x hx
    have bL := h1.lists l hl
    rw [hpv, hnv, ← hvp] at bX
    rw [← HN.out] at bL
    have cx1 : w1.cell? ⟨x, 4, none⟩ = some (.pointer (some ⟨p, 0, none⟩)) := bX.cell 4
    have cx2 : w1.cell? ⟨x, 5, none⟩ = some (.pointer none) := bX.cell 5
    have cx3 : w1.cell? ⟨x, 6, none⟩ = some vp := bX.cell 6
    have fx1 := bX.free 4
    have fx2 := bX.free 5
    have fx3 := bX.free 6
    have fl0 := bL.free 0
    have fl1 := bL.free 1
    have fl2 := bL.free 2
    obtain ⟨v0, hv0⟩ : ∃ v, v = ptrO (hd (s.sq l) none) := ⟨_, rfl⟩
    obtain ⟨v1, hv1⟩ : ∃ v, v = ptrO (lst none (s.sq l)) := ⟨_, rfl⟩
    rw [← hv0, ← hv1] at bL
    have cl0 : w1.cell? ⟨l, 0, none⟩ = some v0 := bL.cell 0
    have cl1 : w1.cell? ⟨l, 1, none⟩ = some v1 := bL.cell 1
    have cl2 : w1.cell? ⟨l, 2, none⟩ = some (.int .i64 n) := bL.cell 2
    have bP := h1.nodes p hp2
    obtain ⟨vn, hvn⟩ : ∃ v, v = ptrO (s.nd p).next := ⟨_, rfl⟩
    rw [← hvn] at bP
    have cp2 : w1.cell? ⟨p, 5, none⟩ = some vn := bP.cell 5
    have fp2 := bP.free 5
    have HBP := Lib.hid bP
    clear bP hvn
    have HBX := Lib.hid bX
    have HBL := Lib.hid bL
    have HV0 := Lib.hid hv0
    have HV1 := Lib.hid hv1
    clear bX bL hpv hnv h1 hvp hv0 hv1
    go_wp2_with fail
    go_region
    go_wp2_with fail
    go_ret
    refine ⟨rfl, FIN.out w1 _ k1 ?_ ?_ ?_ ?_ ?_⟩
    · repeat (first | (with_reducible exact Kept.refl _ _) | (with_reducible refine Kept.drewN ?_ _) | (with_reducible refine Kept.drew ?_) | (with_reducible refine Kept.setCell ?_ (fun _ => by rw [ha, hb]; simp [lst_snoc, lst, hd]) _))
    · ((repeat' (first | (with_reducible apply Blk.cast HBX.out) | (with_reducible apply Blk.drewN) | (with_reducible apply Blk.drew) | (with_reducible apply Blk.alloc) | (with_reducible apply Blk.set') | (with_reducible apply Blk.other))); (repeat (any_goals rfl)); (all_goals first | omega | (simp; omega)))
    · have e0 : ptrO (hd (a ++ b) none) = v0 := by rw [HV0.out, H0.out, ha]; cases a0 <;> rfl
      have e1 : ptrO (lst none (a ++ b)) = .pointer (some ⟨p, 0, none⟩) := by rw [hb, List.append_nil, ha, lst_snoc]; rfl
      rw [e0, e1]; ((repeat' (first | (with_reducible apply Blk.cast HBL.out) | (with_reducible apply Blk.drewN) | (with_reducible apply Blk.drew) | (with_reducible apply Blk.alloc) | (with_reducible apply Blk.set') | (with_reducible apply Blk.other))); (repeat (any_goals rfl)); (all_goals first | omega | (simp; omega)))
    · intro y hy; rw [ha, lst_snoc] at hy; cases hy; rw [hb]; ((repeat' (first | (with_reducible apply Blk.cast HBP.out) | (with_reducible apply Blk.drewN) | (with_reducible apply Blk.drew) | (with_reducible apply Blk.alloc) | (with_reducible apply Blk.set') | (with_reducible apply Blk.other))); (repeat (any_goals rfl)); (all_goals first | omega | (simp; omega)))
    · intro y hy; rw [hb] at hy; cases hy
  · obtain ⟨vp, hvp⟩ : ∃ v, v = ptrO (s.nd x).home := ⟨_, rfl⟩
    have hpv : (s.nd x).prev = some p := HP.out.trans (by rw [ha]; exact lst_snoc _ _ _)
    have hnv : (s.nd x).next = some q := HNX.out.trans (by rw [hb]; rfl)
    obtain ⟨hp2, hpx⟩ := HM.out p (.inl (by rw [ha]; simp))
    have hpl : p ≠ l := by intro e; rw [e, hl] at hp2; cases hp2
    obtain ⟨hq2, hqx⟩ := HM.out q (.inr (by rw [hb]; simp))
    have hql : q ≠ l := by intro e; rw [e, hl] at hq2; cases hq2
    have hpq : p ≠ q := by intro e; subst e; exact HAB.out p (by rw [ha]; simp) (by rw [hb]; simp)
    go_enter Try.func75, Try.ntmps75
    go_wp2_with fail
    refine HH.out.mono ?_
    rintro e w1 ⟨rfl, k1⟩
    have h1 := HW.out.still k1
    have bX := h1.nodes x hx
    have bL := h1.lists l hl
    rw [hpv, hnv, ← hvp] at bX
    rw [← HN.out] at bL
    have cx1 : w1.cell? ⟨x, 4, none⟩ = some (.pointer (some ⟨p, 0, none⟩)) := bX.cell 4
    have cx2 : w1.cell? ⟨x, 5, none⟩ = some (.pointer (some ⟨q, 0, none⟩)) := bX.cell 5
    have cx3 : w1.cell? ⟨x, 6, none⟩ = some vp := bX.cell 6
    have fx1 := bX.free 4
    have fx2 := bX.free 5
    have fx3 := bX.free 6
    have fl0 := bL.free 0
    have fl1 := bL.free 1
    have fl2 := bL.free 2
    obtain ⟨v0, hv0⟩ : ∃ v, v = ptrO (hd (s.sq l) none) := ⟨_, rfl⟩
    obtain ⟨v1, hv1⟩ : ∃ v, v = ptrO (lst none (s.sq l)) := ⟨_, rfl⟩
    rw [← hv0, ← hv1] at bL
    have cl0 : w1.cell? ⟨l, 0, none⟩ = some v0 := bL.cell 0
    have cl1 : w1.cell? ⟨l, 1, none⟩ = some v1 := bL.cell 1
    have cl2 : w1.cell? ⟨l, 2, none⟩ = some (.int .i64 n) := bL.cell 2
    have bP := h1.nodes p hp2
    obtain ⟨vn, hvn⟩ : ∃ v, v = ptrO (s.nd p).next := ⟨_, rfl⟩
    rw [← hvn] at bP
    have cp2 : w1.cell? ⟨p, 5, none⟩ = some vn := bP.cell 5
    have fp2 := bP.free 5
    have HBP := Lib.hid bP
    clear bP hvn
    have bQ := h1.nodes q hq2
    obtain ⟨vq, hvq⟩ : ∃ v, v = ptrO (s.nd q).prev := ⟨_, rfl⟩
    rw [← hvq] at bQ
    have cq1 : w1.cell? ⟨q, 4, none⟩ = some vq := bQ.cell 4
    have fq1 := bQ.free 4
    have HBQ := Lib.hid bQ
    clear bQ hvq
    have HBX := Lib.hid bX
    have HBL := Lib.hid bL
    have HV0 := Lib.hid hv0
    have HV1 := Lib.hid hv1
    clear bX bL hpv hnv h1 hvp hv0 hv1
    go_wp2_with fail
    go_region
    go_wp2_with fail
    go_region
    go_wp2_with fail
    go_ret
    refine ⟨rfl, FIN.out w1 _ k1 ?_ ?_ ?_ ?_ ?_⟩
    · repeat (first | (with_reducible exact Kept.refl _ _) | (with_reducible refine Kept.drewN ?_ _) | (with_reducible refine Kept.drew ?_) | (with_reducible refine Kept.setCell ?_ (fun _ => by rw [ha, hb]; simp [lst_snoc, lst, hd]) _))
    · ((repeat' (first | (with_reducible apply Blk.cast HBX.out) | (with_reducible apply Blk.drewN) | (with_reducible apply Blk.drew) | (with_reducible apply Blk.alloc) | (with_reducible apply Blk.set') | (with_reducible apply Blk.other))); (repeat (any_goals rfl)); (all_goals first | omega | (simp; omega)))
    · have e0 : ptrO (hd (a ++ b) none) = v0 := by rw [HV0.out, H0.out, ha]; cases a0 <;> rfl
      have e1 : ptrO (lst none (a ++ b)) = v1 := by rw [HV1.out, H0.out, hb]; simp [lst_append, lst]
      rw [e0, e1]; ((repeat' (first | (with_reducible apply Blk.cast HBL.out) | (with_reducible apply Blk.drewN) | (with_reducible apply Blk.drew) | (with_reducible apply Blk.alloc) | (with_reducible apply Blk.set') | (with_reducible apply Blk.other))); (repeat (any_goals rfl)); (all_goals first | omega | (simp; omega)))
    · intro y hy; rw [ha, lst_snoc] at hy; cases hy; rw [hb]; ((repeat' (first | (with_reducible apply Blk.cast HBP.out) | (with_reducible apply Blk.drewN) | (with_reducible apply Blk.drew) | (with_reducible apply Blk.alloc) | (with_reducible apply Blk.set') | (with_reducible apply Blk.other))); (repeat (any_goals rfl)); (all_goals first | omega | (simp; omega)))
    · intro y hy; rw [hb] at hy; cases hy; rw [ha, lst_snoc]; ((repeat' (first | (with_reducible apply Blk.cast HBQ.out) | (with_reducible apply Blk.drewN) | (with_reducible apply Blk.drew) | (with_reducible apply Blk.alloc) | (with_reducible apply Blk.set') | (with_reducible apply Blk.other))); (repeat (any_goals rfl)); (all_goals first | omega | (simp; omega)))

theorem oNew_f (s : LS) (w : World) (h : LW_f s w) :
    Calls Try.prog 51 #[] w fun e w' => e = .returned (.pointer (some ⟨w.heap.size + 1, 0, none⟩)) ∧ w.heap.size + 1 < w'.heap.size ∧ Still w w' ∧ ∃ s', LW_f s' w' ∧ (∀ y, y < w.heap.size → s'.kd y = s.kd y) ∧ s'.kd (w.heap.size + 1) = 1 ∧ s'.sq = upd s.sq (w.heap.size + 1) [] ∧ LV s' = LV s := by
  refine (lnew_f s w h).mono ?_
  rintro e w1 ⟨rfl, h1, k1⟩
  have hk : (s.new w.heap.size (w.heap.size + 1)).kd (w.heap.size + 1) = 1 := upd_same _ _ _
  exact ⟨rfl, (h1.lists _ hk).lt, k1, _, h1, fun y hy => by show upd (upd s.kd _ _) _ _ y = _; rw [upd_ne _ _ (by omega), upd_ne _ _ (by omega)], hk, rfl, rfl⟩
theorem oPush_f (s : LS) (w : World) (h : LW_f s w) (l : Nat) (v : FiringV) (hl : s.kd l = 1) (hbig : (s.sq l).length < 9223372036854775807) :
    Calls Try.prog 39 #[.pointer (some ⟨l, 0, none⟩), v.v] w fun e w' => e = .returned (.pointer (some ⟨w.heap.size + 1, 0, none⟩)) ∧ w.heap.size + 1 < w'.heap.size ∧ Kept (fun y => s.kd y ≠ 0) w w' ∧ ∃ s', LW_f s' w' ∧ (∀ y, y < w.heap.size → s'.kd y = s.kd y) ∧ s'.kd (w.heap.size + 1) = 2 ∧ s'.sq = upd s.sq l (s.sq l ++ [w.heap.size + 1]) ∧ LV s' = upd (LV s) (w.heap.size + 1) v.v := by
  refine (lpush_f s w h l v hl hbig).mono ?_
  rintro e w1 ⟨rfl, h1, k1⟩
  have hk : ((s.node (w.heap.size + 1) v.v).put l (w.heap.size + 1)).kd (w.heap.size + 1) = 2 := upd_same _ _ _
  exact ⟨rfl, (h1.nodes _ hk).lt, k1.mono (fun y _ hy => by omega), _, h1, fun y hy => upd_ne _ _ (by omega), hk, rfl, by rw [LS.put_val, LS.node_val]⟩
theorem oUnlink_f (s : LS) (w : World) (h : LW_f s w) (l x : Nat) (hl : s.kd l = 1) (hx : s.kd x = 2) (hbig : (s.sq l).length < 9223372036854775807) :
    Calls Try.prog 75 #[.pointer (some ⟨l, 0, none⟩), .pointer (some ⟨x, 0, none⟩)] w fun e w' => e = .returned (.int .i64 (if x ∈ s.sq l then 0 else 6)) ∧ Kept (fun y => s.kd y ≠ 0) w w' ∧ ∃ s', LW_f s' w' ∧ s'.kd = s.kd ∧ s'.sq = upd s.sq l ((s.sq l).erase x) ∧ LV s' = LV s := by
  by_cases hm : x ∈ s.sq l
  · rw [if_pos hm]
    refine (lunlink_f s w h l x hl hx hm hbig).mono ?_
    rintro e w1 ⟨rfl, h1, k1⟩
    exact ⟨rfl, k1.mono (fun y _ hy => by omega), _, h1, rfl, rfl, LS.out_val ..⟩
  · rw [if_neg hm]
    refine (lunlink_no_f s w h l x hl hx hm).mono ?_
    rintro e w1 ⟨rfl, k1⟩
    exact ⟨rfl, k1.mono (fun y _ hy => hy.elim), s, h.still k1, rfl, by rw [List.erase_of_not_mem hm, upd_id], rfl⟩
end Go.Proofs.Ytbikganlloopbaa
