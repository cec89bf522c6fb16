/-
  What stands here: a slice of nodes beside lists; a node's value that is changed. Under no condition but that the world holds them.
-/
import Derived.Test.YtdpcgemmbpbpoaaListAlive
import Derived.Test.YtdpcgemmbpbpoaaAppend
namespace Go.Proofs.Ytdpcgemmbpbpoaa
set_option linter.unusedVariables false
set_option linter.unusedSimpArgs false
open Go.RowKit Go.Proofs

theorem own_lt {w : World} {base : Nat} {e : TypeId} {sz : Nat} {v : Value} {n : Nat} {xs : List Value} (h : w.ownsRow base e sz v n xs) : ∀ g, v.ownBlock = some g → g < w.heap.size := by
  intro g hg
  obtain ⟨_, ⟨rfl, _⟩ | ⟨g', cap, cur, rfl, hb, hgb, _⟩⟩ := h
  · simp [Value.ownBlock] at hg
  · simp only [Value.ownBlock, Option.some.injEq] at hg
    rw [← hg]; exact lt_of_block hgb
def ptrs (xs : List Nat) : List Value := xs.map fun x => .pointer (some ⟨x, 0, none⟩)
theorem ptrs_len (xs : List Nat) : (ptrs xs).length = xs.length := List.length_map ..
/-- a slice of nodes, in a block that is no list's -/
structure NRow (base : Nat) (s : LS) (nv : Value) (xs : List Nat) (W : World) : Prop where
  own : W.ownsRow base 28 1 nv xs.length (ptrs xs)
  free : ∀ b, nv.ownBlock = some b → s.kd b = 0
theorem NRow.nil (base : Nat) (s : LS) (W : World) : NRow base s (.slice none 0 0) [] W := ⟨World.ownsRow_nil _ _ _ _, fun b h => by simp [Value.ownBlock] at h⟩
theorem owns_kept2 {S : Nat → Prop} {w w' : World} {base : Nat} {e : TypeId} {size : Nat} {v : Value} {n : Nat} {xs : List Value} (h : w.ownsRow base e size v n xs) (k : Kept S w w') (hS : ∀ b, v.ownBlock = some b → ¬ S b) : w'.ownsRow base e size v n xs := by
  obtain ⟨hl, h | ⟨g, cap, cur, rfl, hbg, hgb, hnc, hcm, hcs, htake⟩⟩ := h
  · exact ⟨hl, .inl h⟩
  · exact ⟨hl, .inr ⟨g, cap, cur, rfl, hbg, (k.block g (lt_of_block hgb) (hS g rfl)).trans hgb, hnc, hcm, hcs, htake⟩⟩
/-- behind what turns lists alone -/
theorem NRow.kept {base : Nat} {s s' : LS} {nv : Value} {xs : List Nat} {S : Nat → Prop} {W W' : World} (h : NRow base s nv xs W) (k : Kept S W W') (hS : ∀ b, b < W.heap.size → s.kd b = 0 → ¬ S b) (hn : ∀ y, y < W.heap.size → s'.kd y = s.kd y) : NRow base s' nv xs W' :=
  ⟨owns_kept2 h.own k (fun b hb => hS b (own_lt h.own b hb) (h.free b hb)), fun b hb => by rw [hn b (own_lt h.own b hb)]; exact h.free b hb⟩
theorem NRow.turn {base : Nat} {s s' : LS} {nv : Value} {xs : List Nat} {W W' : World} (h : NRow base s nv xs W) (k : Kept (fun y => s.kd y ≠ 0) W W') (hn : ∀ y, y < W.heap.size → s'.kd y = s.kd y) : NRow base s' nv xs W' :=
  h.kept k (fun b _ hb h9 => h9 hb) hn
theorem NRow.still {base : Nat} {s : LS} {nv : Value} {xs : List Nat} {W W' : World} (h : NRow base s nv xs W) (k : Still W W') : NRow base s nv xs W' := h.kept k (fun _ _ _ f => f) (fun _ _ => rfl)
theorem NRow.row {base : Nat} {s : LS} {nv : Value} {xs : List Nat} {W : World} (h : NRow base s nv xs W) : VRow (base ≤ ·) W nv (ptrs xs) := VRow.of_owns h.own
theorem NRow.slice {base : Nat} {s : LS} {nv : Value} {xs : List Nat} {W : World} (h : NRow base s nv xs W) : ∃ a c, nv = .slice a xs.length c := owns_slice h.own
/-- behind an append -/
theorem NRow.more {base : Nat} {s : LS} {nv nv' : Value} {xs : List Nat} {x : Nat} {W W' : World} {o : Obj} (h : NRow base s nv xs W) (hL : LW_i s W) (ha : Appended (W.alloc o) W' base 28 1 nv nv' (xs.length + 1) (ptrs xs ++ [.pointer (some ⟨x, 0, none⟩)])) (hb : base ≤ W.heap.size) :
    NRow base s nv' (xs ++ [x]) W' ∧ LW_i s W' ∧ Kept (fun b => base ≤ b) W W' := by
  have k1 : Kept (fun b => nv.ownBlock = some b) W W' := ha.kept (Kept.refl _ W) (fun b _ hb => hb)
  refine ⟨⟨?_, fun b hb => ?_⟩, hL.kept k1 (fun x hx h9 => hx (h.free x h9)), k1.mono (fun b _ h9 => owns_block h.own b h9)⟩
  · have := ha.owns
    rw [List.length_append, List.length_singleton, show ptrs (xs ++ [x]) = ptrs xs ++ [.pointer (some ⟨x, 0, none⟩)] by simp [ptrs]]
    exact this
  · rcases ha.block b hb with h9 | h9
    · exact h.free b h9
    · exact hL.fresh b (by simp at h9; omega)
theorem NRow.at_ {base : Nat} {s : LS} {xs : List Nat} {W : World} {a : Option Addr} {n c : Nat} (h : NRow base s (.slice a n c) xs W) {k : Nat} (hk : k < xs.length) : ∃ b o, a = some ⟨b, o, none⟩ ∧ b < W.heap.size ∧ s.kd b = 0 ∧ base ≤ b ∧ W.cell? ⟨b, o + k, none⟩ = some (.pointer (some ⟨xs.getD k 0, 0, none⟩)) := by
  obtain ⟨rfl, _, _, h0⟩ := h.row.at_
  obtain ⟨b, o, rfl, hb, hq, hc⟩ := h0 (by rw [ptrs_len]; omega)
  refine ⟨b, o, rfl, hb, ?_, hq, ?_⟩
  · refine h.free b ?_
    obtain ⟨_, ⟨h1, _⟩ | ⟨g, cap, cur, h1, _⟩⟩ := h.own
    · cases h1
    · simp only [Value.slice.injEq, Option.some.injEq, Addr.mk.injEq] at h1
      rw [h1.1.1, h1.1.2.1]
      rfl
  · rw [hc k (by rw [ptrs_len]; exact hk)]
    simp [ptrs, List.getD_eq_getElem?_getD, List.getElem?_eq_getElem hk]

/-- a node's value is changed -/
def LS.setv (s : LS) (x : Nat) (v : Value) : LS := { s with nd := upd s.nd x { s.nd x with val := v } }
theorem LInv.congr_nd {s s' : LS} (i : LInv s) (h1 : s'.kd = s.kd) (h2 : s'.to = s.to) (h3 : s'.sq = s.sq) (h4 : s'.hm = s.hm) (hn : ∀ y, (s'.nd y).prev = (s.nd y).prev ∧ (s'.nd y).next = (s.nd y).next ∧ (s'.nd y).home = (s.nd y).home) : LInv s' := by
  obtain ⟨kd, nd, to, sq, hm⟩ := s
  obtain ⟨kd', nd', to', sq', hm'⟩ := s'
  simp only at h1 h2 h3 h4 hn
  subst h1 h2 h3 h4
  exact ⟨i.hmk, i.inj, i.tok, fun l hl => (i.lnk l hl).congr fun y _ => ⟨(hn y).1, (hn y).2.1⟩, fun l y hl hy => by
    obtain ⟨e1, h, d, e2, e3⟩ := i.mem l y hl hy
    exact ⟨e1, h, d, by rw [(hn y).2.2]; exact e2, e3⟩, i.nodup, fun y hy => by
    rcases i.own y hy with h | h
    · exact .inl (by rw [(hn y).2.2]; exact h)
    · exact .inr h⟩
theorem LInv.setv {s : LS} (i : LInv s) (x : Nat) (v : Value) : LInv (s.setv x v) := by
  refine i.congr_nd rfl rfl rfl rfl fun y => ?_
  show (upd s.nd x _ y).prev = _ ∧ (upd s.nd x _ y).next = _ ∧ (upd s.nd x _ y).home = _
  by_cases e : y = x
  · rw [e, upd_same]; exact ⟨rfl, rfl, rfl⟩
  · rw [upd_ne _ _ e]; exact ⟨rfl, rfl, rfl⟩
theorem LW_i.setv {s : LS} {W : World} (h : LW_i s W) {x : Nat} (hx : s.kd x = 2) (v : Value) : LW_i (s.setv x v) (W.setCell ⟨x, 0, none⟩ v) := by
  have k : Kept (fun k => k = x) W (W.setCell ⟨x, 0, none⟩ v) := Kept.setCell (S := fun k => k = x) (Kept.refl _ _) (fun _ => rfl) _
  refine ⟨h.inv.setv x v, fun y hy => (h.homes y hy).kept k (by intro e; rw [e] at hy; have h9 : s.kd x = 3 := hy; omega), fun y hy => ?_, fun y hy => (h.lists y hy).kept k (by intro e; rw [e] at hy; have h9 : s.kd x = 1 := hy; omega), fun y hy => h.fresh y (by simpa using hy)⟩
  show Blk _ y #[(upd s.nd x _ y).val, ptrO (upd s.nd x _ y).prev, ptrO (upd s.nd x _ y).next, ptrO (upd s.nd x _ y).home] _
  by_cases e : y = x
  · rw [e, upd_same]
    have := (h.nodes x hx).set 0 v
    exact this
  · rw [upd_ne _ _ e]
    exact (h.nodes y hy).kept k e
theorem LS.setv_val (s : LS) (x : Nat) (v : Value) : LV (s.setv x v) = upd (LV s) x v := by
  funext y
  show (upd s.nd x _ y).val = _
  by_cases e : y = x
  · rw [e, upd_same, upd_same]
  · rw [upd_ne _ _ e, upd_ne _ _ e]; rfl
theorem map_upd {f : Nat → Value} {xs : List Nat} (hn : xs.Nodup) {m : Nat} (hm : m < xs.length) (v : Value) : xs.map (upd f (xs.getD m 0) v) = (xs.map f).set m v := by
  have hx : xs.getD m 0 = xs[m] := by rw [List.getD_eq_getElem?_getD, List.getElem?_eq_getElem hm]; rfl
  rw [hx]
  refine List.ext_getElem (by simp) fun i h1 h2 => ?_
  have hi : i < xs.length := by simpa using h1
  rw [List.getElem_map, List.getElem_set]
  by_cases e : m = i
  · subst e; rw [if_pos rfl, upd_same]
  · rw [if_neg e, List.getElem_map]
    refine upd_ne _ _ fun e2 => e ?_
    rcases Nat.lt_trichotomy i m with h9 | h9 | h9
    · exact absurd e2 (List.pairwise_iff_getElem.1 hn i m hi hm h9)
    · exact h9.symm
    · exact absurd e2.symm (List.pairwise_iff_getElem.1 hn m i hm hi h9)
theorem vals_set {s : LS} {xs : List Nat} (hn : xs.Nodup) {m : Nat} (hm : m < xs.length) (v : Value) : valsOf_i (s.setv (xs.getD m 0) v) xs = (valsOf_i s xs).set m v := by
  show xs.map (LV (s.setv (xs.getD m 0) v)) = (xs.map (LV s)).set m v
  rw [LS.setv_val]
  exact map_upd hn hm v
theorem blk_set {cur : Array Value} {n m : Nat} (v : Value) : (cur.setIfInBounds m v).toList.take n = (cur.toList.take n).set m v := by
  rw [Array.toList_setIfInBounds, List.take_set]
end Go.Proofs.Ytdpcgemmbpbpoaa
