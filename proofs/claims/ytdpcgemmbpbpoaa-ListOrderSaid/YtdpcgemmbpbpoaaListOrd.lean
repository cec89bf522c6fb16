/-
  What stands here: a list, its nodes in a slice, and a map of those that were taken out, beside each other. Under no condition.
-/
import Derived.Test.YtdpcgemmbpbpoaaListValuesWalk
import Derived.Test.YtdpcgemmbpbpoaaListCol
import Derived.Test.YtdpcgemmbpbpoaaSel
namespace Go.Proofs.Ytdpcgemmbpbpoaa
set_option linter.unusedVariables false
set_option linter.unusedSimpArgs false
open Go.RowKit Go.Proofs

abbrev MapG (col : Nat → Nat) (W : World) (mb n : Nat) (f : Int → Bool) : Prop := MapC col 3 Try.prog 3 4 W mb n f
theorem MapG.look {col : Nat → Nat} {W : World} {mb n : Nat} {f : Int → Bool} (h : MapG col W mb n f) (k : Int) (hk : (Lit.int .i64 k).wf = true) : (Instr.lookup 55 (.map (some mb)) (.int .i64 k) false).run Try.prog W = .ok (.bool (f k)) W :=
  h.1.look Try.underlying3 Try.underlying4 Try.underlying55 (by kernel_rfl) k hk
theorem MapG.looks {col : Nat → Nat} {W : World} {mb n : Nat} {f : Int → Bool} (h : MapG col W mb n f) (k : Int) (hk : (Lit.int .i64 k).wf = true) (w' : World) (e : w'.heap[mb]? = W.heap[mb]?) : (Instr.lookup 55 (.map (some mb)) (.int .i64 k) false).run Try.prog w' = .ok (.bool (f k)) w' :=
  (h.1.of_block e).look Try.underlying3 Try.underlying4 Try.underlying55 (by kernel_rfl) k hk
theorem wf_nat {q : Nat} (h : q < 9223372036854775807) : (Lit.int .i64 (q : Int)).wf = true := WalkArith.wf_i64 (by omega)
structure OrdI (base L mb : Nat) (zs : List Int) (nv : Value) (xs : List Nat) (col : Nat → Nat) (s : LS) (m : Nat) (f : Int → Bool) (w W : World) : Prop where
  fr : Fr base col w W
  ls : Lst col 1 s W
  row : Owns col 2 W 28 1 nv xs.length (ptrs xs)
  mp : MapG col W mb m f
  kl : s.kd L = 1
  only : ∀ y, y ≠ L → s.sq y = []
  kx : ∀ x, x ∈ xs → s.kd x = 2
  nd : xs.Nodup
  val : valsOf_i s xs = zs.map (.int .i64)
section
variable {base L mb m : Nat} {zs : List Int} {nv : Value} {xs : List Nat} {col : Nat → Nat} {s : LS} {f : Int → Bool} {w W : World}
theorem OrdI.lt (h : OrdI base L mb zs nv xs col s m f w W) {x : Nat} (hx : x ∈ xs) : x < W.heap.size := (h.ls.1.nodes x (h.kx x hx)).lt
theorem OrdI.len (h : OrdI base L mb zs nv xs col s m f w W) : zs.length = xs.length := by
  have := congrArg List.length h.val
  simp [valsOf_i] at this
  omega
theorem OrdI.lists (h : OrdI base L mb zs nv xs col s m f w W) {s' : LS} {W' : World} {ys : List Nat} (h1 : LW_i s' W') (k : Kept (fun y => s.kd y ≠ 0) W W') (hn : ∀ y, y < W.heap.size → s'.kd y = s.kd y) (hq : s'.sq = upd s.sq L ys) (hv : ∀ y, y ∈ xs → LV s' y = LV s y) :
    OrdI base L mb zs nv xs (ext col W.heap.size 1) s' m f w W' := by
  have kk := h.ls.col k
  refine ⟨h.fr.step (by decide) kk, h.ls.turn h1 hn, h.row.go kk (by decide), h.mp.go kk (by decide), (hn L (h.ls.1.lists L h.kl).lt).trans h.kl, fun y hy => by rw [hq, upd_ne _ _ hy]; exact h.only y hy, fun x hx => (hn x (h.lt hx)).trans (h.kx x hx), h.nd, ?_⟩
  rw [← h.val]
  exact List.map_congr_left fun y hy => hv y hy
theorem OrdI.more (h : OrdI base L mb zs nv xs col s m f w W) {W' : World} {nv' : Value} {o : Obj} {x : Nat} {u : Int} (ha : Appended (W.alloc o) W' 0 28 1 nv nv' (xs.length + 1) (ptrs xs ++ [.pointer (some ⟨x, 0, none⟩)])) (hx : s.kd x = 2) (hnx : x ∉ xs) (hv : LV s x = .int .i64 u) :
    OrdI base L mb (zs ++ [u]) nv' (xs ++ [x]) (ext col W.heap.size 2) s m f w W' := by
  obtain ⟨h1, kk⟩ := h.row.app ha
  refine ⟨h.fr.step (by decide) kk, h.ls.go kk (by decide), ?_, h.mp.go kk (by decide), h.kl, h.only, fun y hy => ?_, ?_, ?_⟩
  · rw [List.length_append, List.length_singleton, show ptrs (xs ++ [x]) = ptrs xs ++ [.pointer (some ⟨x, 0, none⟩)] by simp [ptrs]]
    exact h1
  · rcases List.mem_append.1 hy with h9 | h9
    · exact h.kx y h9
    · obtain rfl := List.mem_singleton.1 h9; exact hx
  · exact List.nodup_append.2 ⟨h.nd, by simp, fun y hy z hz e => hnx (by rw [← List.mem_singleton.1 hz, ← e]; exact hy)⟩
  · have e2 : valsOf_i s [x] = [.int .i64 u] := by show [LV s x] = _; rw [hv]
    have e3 : valsOf_i s (xs ++ [x]) = valsOf_i s xs ++ valsOf_i s [x] := List.map_append ..
    rw [e3, e2, h.val, List.map_append]; rfl
theorem OrdI.mapped (h : OrdI base L mb zs nv xs col s m f w W) {W' : World} {f' : Int → Bool} {m' : Nat} (hm : MapB Try.prog 3 4 W' mb m' f') (g : W.grownBy W' (some mb)) : OrdI base L mb zs nv xs (ext col W.heap.size 3) s m' f' w W' := by
  have kk := h.mp.grown g
  exact ⟨h.fr.step (by decide) kk, h.ls.go kk (by decide), h.row.go kk (by decide), ⟨hm, ext_same h.mp.1.lt h.mp.2⟩, h.kl, h.only, h.kx, h.nd, h.val⟩
theorem OrdI.still (h : OrdI base L mb zs nv xs col s m f w W) {W' : World} (k : Still W W') : OrdI base L mb zs nv xs col s m f w W' :=
  ⟨h.fr.still k, h.ls.still k, h.row.still k, h.mp.still k, h.kl, h.only, h.kx, h.nd, h.val⟩
theorem OrdI.other (h : OrdI base L mb zs nv xs col s m f w W) {W' : World} {d : Nat} (hd : 3 < d) (k : Kept (fun x => col x = d) W W') : OrdI base L mb zs nv xs (ext col W.heap.size d) s m f w W' :=
  ⟨h.fr.step (by omega) k, h.ls.go k (by omega), h.row.go k (by omega), h.mp.go k (by omega), h.kl, h.only, h.kx, h.nd, h.val⟩
theorem OrdI.push (h : OrdI base L mb zs nv xs col s m f w W) {s' : LS} {W' : World} {u : Int} (h1 : LW_i s' W') (k : Kept (fun y => s.kd y ≠ 0) W W') (hn : ∀ y, y < W.heap.size → s'.kd y = s.kd y) (hq : s'.sq = upd s.sq L (s.sq L ++ [W.heap.size])) (hv : LV s' = upd (LV s) W.heap.size (.int .i64 u)) :
    OrdI base L mb zs nv xs (ext col W.heap.size 1) s' m f w W' ∧ W.heap.size ∉ xs ∧ LV s' W.heap.size = .int .i64 u ∧ s'.sq L = s.sq L ++ [W.heap.size] :=
  ⟨h.lists h1 k hn hq (fun y hy => by have := h.lt hy; rw [hv, upd_ne _ _ (by omega)]), fun hm => by have := h.lt hm; omega, by rw [hv, upd_same], by rw [hq, upd_same]⟩
theorem OrdI.at_ (h : OrdI base L mb zs nv xs col s m f w W) {a : Option Addr} {n cap k x : Nat} (e : nv = .slice a n cap) (hk : xs[k]? = some x) : ∃ g, a = some ⟨g, 0, none⟩ ∧ g < W.heap.size ∧ col g = 2 ∧ k < xs.length ∧ n = xs.length ∧ W.cell? ⟨g, 0 + k, none⟩ = some (.pointer (some ⟨x, 0, none⟩)) := by
  subst e
  have hr := h.row
  obtain ⟨a', c', e, _, _⟩ := hr.form
  simp only [Value.slice.injEq] at e
  obtain ⟨rfl, rfl, rfl⟩ := e
  obtain ⟨g, e1, e2, e3, e4, e5⟩ := nodes_at hr hk
  exact ⟨g, e1, e2, e3, e4, rfl, e5⟩
theorem OrdI.free (h : OrdI base L mb zs nv xs col s m f w W) {g : Nat} (hg : col g ≠ 1) : s.kd g = 0 := by
  by_cases e : s.kd g = 0
  · exact e
  · exact absurd (h.ls.2 g e) hg
theorem OrdI.has (h : OrdI base L mb zs nv xs col s m f w W) {q x : Nat} (hq : s.sq L = sel (fun q => !f q) 0 xs) (hx : xs[q]? = some x) : (x ∈ s.sq L ∧ f q = false) ∨ (x ∉ s.sq L ∧ f q = true) := by
  have := sel_has (fun q => !f q) 0 xs q x h.nd hx
  rw [hq]
  cases hf : f q
  · exact .inl ⟨this.2 (by simp [hf]), rfl⟩
  · exact .inr ⟨fun h9 => by have := this.1 h9; simp [hf] at this, rfl⟩
theorem OrdI.taken (h : OrdI base L mb zs nv xs col s m f w W) {s' : LS} {q x : Nat} (hq : s.sq L = sel (fun q => !f q) 0 xs) (hx : xs[q]? = some x) (hs : s'.sq = upd s.sq L ((s.sq L).erase x)) : s'.sq L = sel (fun j => !(if ((j : Nat) : Int) = ((q : Nat) : Int) then true else f j)) 0 xs := by
  rw [hs, upd_same, hq, sel_erase _ _ _ q x h.nd hx]
  refine sel_congr _ _ fun j _ _ => ?_
  by_cases e : j = q
  · rw [if_pos (by omega), if_pos (by omega)]; rfl
  · rw [if_neg (by omega), if_neg (by omega)]
theorem OrdI.one (h : OrdI base L mb zs nv xs col s m f w W) : ∀ x, x ∈ xs → ∃ v, (s.nd x).val = .int .i64 v := fun x hx => by
  have : (s.nd x).val ∈ valsOf_i s xs := List.mem_map.2 ⟨x, hx, rfl⟩
  rw [h.val] at this
  obtain ⟨v, _, hv⟩ := List.mem_map.1 this
  exact ⟨v, hv.symm⟩
theorem OrdI.vals (h : OrdI base L mb zs nv xs col s m f w W) (p : Nat → Bool) : valsOf_i s (sel p 0 xs) = (sel p 0 zs).map (.int .i64) := by
  show (sel p 0 xs).map _ = _
  rw [sel_map, sel_map, ← h.val]; rfl
theorem still_of_below {W W' : World} (h : Below W.heap.size W W') : Still W W' := (kept_of_below h).mono fun y h1 h2 => absurd h2 (by omega)
end
end Go.Proofs.Ytdpcgemmbpbpoaa
