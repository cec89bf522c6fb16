/-
  What stands here: all that ListActs holds, as one. Under no condition.
-/
import Derived.Test.YtdpcgemmbpbpoaaListSame
namespace Go.Proofs.Ytdpcgemmbpbpoaa
set_option linter.unusedVariables false
set_option linter.unusedSimpArgs false
open Go.RowKit Go.Proofs

theorem Owns.app1 {col : Nat → Nat} {c : Nat} {w W1 w1 : World} {e : TypeId} {sz n n0 : Nat} {v v' : Value} {xs ys : List Value} (h : Owns col c w e sz v n0 ys) (st : Still w W1) (ha : Appended W1 w1 0 e sz v v' n xs) : Owns (ext col w.heap.size c) c w1 e sz v' n xs ∧ Kept (fun x => col x = c) w w1 := by
  have hs := st.size
  refine ⟨⟨ha.owns, fun g hg => ?_⟩, (st.mono (fun _ _ f => f.elim)).grown ha.grown (fun k hk hlt => h.2 k hk)⟩
  rcases ha.block g hg with h1 | h1
  · rw [recol_ext col _ c g (owns_lt h.1 g h1)]; exact h.2 g h1
  · exact ext_new col (by omega)
/-- three lists and nodes -/
structure N3 (base : Nat) (lb : Nat → Nat) (col : Nat → Nat) (s : LS) (nv : Value) (ns : List Nat) (w W : World) : Prop where
  fr : Fr base col w W
  ls : Lst col 1 s W
  kl : ∀ j, j < 3 → s.kd (lb j) = 1
  inj : ∀ i j, i < 3 → j < 3 → lb i = lb j → i = j
  only : ∀ y, (∀ j, j < 3 → y ≠ lb j) → s.sq y = []
  row : Owns col 2 W 28 1 nv ns.length (ptrs ns)
  kx : ∀ x, x ∈ ns → s.kd x = 2
  nd : ns.Nodup
section
variable {base : Nat} {lb : Nat → Nat} {col : Nat → Nat} {s : LS} {nv : Value} {ns : List Nat} {w W : World}
theorem N3.still (h : N3 base lb col s nv ns w W) {W' : World} (k : Still W W') : N3 base lb col s nv ns w W' :=
  ⟨h.fr.still k, h.ls.still k, h.kl, h.inj, h.only, h.row.still k, h.kx, h.nd⟩
theorem N3.go (h : N3 base lb col s nv ns w W) {W' : World} {d : Nat} (k : Kept (fun x => col x = d) W W') (hd : 2 < d) : N3 base lb (ext col W.heap.size d) s nv ns w W' :=
  ⟨h.fr.step (by omega) k, h.ls.go k (by omega), h.kl, h.inj, h.only, h.row.go k (by omega), h.kx, h.nd⟩
theorem N3.other (h : N3 base lb col s nv ns w W) {W' : World} {S : Nat → Prop} {col' : Nat → Nat} (rc : Recol W.heap.size col col') (k : Kept S W W') (hS : ∀ x, x < W.heap.size → S x → 2 < col x) (hf : Fr base col' w W') : N3 base lb col' s nv ns w W' := by
  refine ⟨hf, ⟨h.ls.1.kept k (fun x hx h9 => ?_), fun y hy => ?_⟩, h.kl, h.inj, h.only, (h.row.recol rc).kept k (fun x hx e h9 => ?_), h.kx, h.nd⟩
  · have h1 := h.ls.2 x hx
    rcases Nat.lt_or_ge x W.heap.size with h8 | h8
    · have := hS x h8 h9; omega
    · exact hx (h.ls.1.fresh x h8)
  · rcases Nat.lt_or_ge y W.heap.size with h8 | h8
    · exact (rc y h8).trans (h.ls.2 y hy)
    · exact absurd (h.ls.1.fresh y h8) hy
  · rw [rc x hx] at e
    have := hS x hx h9; omega
theorem N3.lt (h : N3 base lb col s nv ns w W) {x : Nat} (hx : x ∈ ns) : x < W.heap.size := (h.ls.1.nodes x (h.kx x hx)).lt
theorem N3.lists (h : N3 base lb col s nv ns w W) {s' : LS} {W' : World} (h1 : LW_i s' W') (k : Kept (fun y => s.kd y ≠ 0) W W') (hn : ∀ y, y < W.heap.size → s'.kd y = s.kd y) (ho : ∀ y, (∀ j, j < 3 → y ≠ lb j) → s'.sq y = []) : N3 base lb (ext col W.heap.size 1) s' nv ns w W' := by
  have kk := h.ls.col k
  exact ⟨h.fr.step (by decide) kk, h.ls.turn h1 hn, fun j hj => (hn _ (h.ls.1.lists _ (h.kl j hj)).lt).trans (h.kl j hj), h.inj, ho, h.row.go kk (by decide), fun x hx => (hn x (h.lt hx)).trans (h.kx x hx), h.nd⟩
theorem N3.more (h : N3 base lb col s nv ns w W) {W1 W' : World} {nv' : Value} {x : Nat} (st : Still W W1) (ha : Appended W1 W' 0 28 1 nv nv' (ns.length + 1) (ptrs ns ++ [.pointer (some ⟨x, 0, none⟩)])) (hx : s.kd x = 2) (hnx : x ∉ ns) : N3 base lb (ext col W.heap.size 2) s nv' (ns ++ [x]) w W' ∧ Kept (fun x => col x = 2) W W' := by
  obtain ⟨h1, kk⟩ := h.row.app1 st ha
  refine ⟨⟨h.fr.step (by decide) kk, h.ls.go kk (by decide), h.kl, h.inj, h.only, ?_, fun y hy => ?_, ?_⟩, kk⟩
  · rw [List.length_append, List.length_singleton, show ptrs (ns ++ [x]) = ptrs ns ++ [.pointer (some ⟨x, 0, none⟩)] by simp [ptrs]]
    exact h1
  · rcases List.mem_append.1 hy with h9 | h9
    · exact h.kx y h9
    · obtain rfl := List.mem_singleton.1 h9; exact hx
  · exact List.nodup_append.2 ⟨h.nd, by simp, fun y hy z hz e => hnx (by rw [← List.mem_singleton.1 hz, ← e]; exact hy)⟩
end
abbrev actC (kind li ni vi : Int) : Array Value := #[.int .i64 kind, .int .i64 li, .int .i64 ni, .int .i64 vi]
def sum3 (L : Nat → List Int) : Nat := (L 0).length + (L 1).length + (L 2).length
theorem sum3_le (L : Nat → List Int) {j : Nat} (hj : j < 3) : (L j).length ≤ sum3 L := by
  unfold sum3
  rcases j with _ | _ | _ | j
  · omega
  · simp only [Nat.zero_add]; omega
  · simp only [Nat.zero_add, Nat.reduceAdd]; omega
  · omega
theorem sum3_upd (L : Nat → List Int) {j : Nat} (hj : j < 3) (l : List Int) : sum3 (upd L j l) + (L j).length = sum3 L + l.length := by
  unfold sum3 upd
  rcases j with _ | _ | _ | j
  · simp; omega
  · simp; omega
  · simp; omega
  · omega
theorem sum3_three (L : Nat → List Int) (l : List Int) : sum3 (upd L 3 l) = sum3 L := by simp [sum3, upd]
/-- all at once, beside an act -/
structure LB (base T R A : Nat) (lb : Nat → Nat) (nv : Value) (ns : List Nat) (s : LS) (L : Nat → List Int) (kind li ni vi : Int) (w W : World) : Prop where
  o : ∃ col, N3 base lb col s nv ns w W ∧ RefL col R L W ∧ (col T = 8 ∧ Blk W T (three lb) 39) ∧ (col A = 7 ∧ Blk W A (actC kind li ni vi) 45)
/-- .. behind so many steps -/
structure LA (base T R : Nat) (lb : Nat → Nat) (k : Nat) (nv : Value) (ns : List Nat) (s : LS) (L : Nat → List Int) (w W : World) : Prop where
  o : ∃ col, N3 base lb col s nv ns w W ∧ RefL col R L W ∧ (col T = 8 ∧ Blk W T (three lb) 39)
  t : TieL lb s ns L
  len : ns.length ≤ k
  sum : sum3 L ≤ k
section
variable {base T R A k : Nat} {lb : Nat → Nat} {nv : Value} {ns : List Nat} {s : LS} {L : Nat → List Int} {kind li ni vi : Int} {w W : World}
theorem LA.bel (h : LA base T R lb k nv ns s L w W) : Below base w W := by obtain ⟨col, o, _⟩ := h.o; exact o.fr.bel
theorem LA.size (h : LA base T R lb k nv ns s L w W) : base ≤ W.heap.size := by obtain ⟨col, o, _⟩ := h.o; exact o.fr.size
theorem LA.act (h : LA base T R lb k nv ns s L w W) (hA : W.heap.size = A) : LB base T R A lb nv ns s L kind li ni vi w (W.alloc (.cells (actC kind li ni vi) 45)) := by
  obtain ⟨col, o, r, ct, bt⟩ := h.o
  have st := (still_refl W).alloc (.cells (actC kind li ni vi) 45)
  have k7 : Kept (fun x => col x = 7) W _ := st.mono (fun _ _ f => f.elim)
  exact ⟨⟨_, o.go k7 (by omega), r.go k7 (by omega), ⟨(recol_ext col _ 7 T bt.lt).trans ct, bt.still st⟩, ext_new col (by omega), Blk.newAt _ _ _ hA⟩⟩
theorem LB.still (h : LB base T R A lb nv ns s L kind li ni vi w W) {W' : World} (kk : Still W W') : LB base T R A lb nv ns s L kind li ni vi w W' := by
  obtain ⟨col, o, r, ⟨ct, bt⟩, c, b⟩ := h.o
  exact ⟨⟨col, o.still kk, r.still kk, ⟨ct, bt.still kk⟩, c, b.still kk⟩⟩
theorem LB.list (h : LB base T R A lb nv ns s L kind li ni vi w W) {s' : LS} {W' : World} (h1 : LW_i s' W') (kk : Kept (fun y => s.kd y ≠ 0) W W') (hn : ∀ y, y < W.heap.size → s'.kd y = s.kd y) (ho : ∀ y, (∀ j, j < 3 → y ≠ lb j) → s'.sq y = []) : LB base T R A lb nv ns s' L kind li ni vi w W' ∧ W'.heap[A]? = W.heap[A]? ∧ W'.heap[R]? = W.heap[R]? ∧ W'.heap[T]? = W.heap[T]? ∧ ∀ g, g < W.heap.size → s.kd g = 0 → W'.heap[g]? = W.heap[g]? := by
  obtain ⟨col, o, r, ⟨ct, bt⟩, c, b⟩ := h.o
  have k1 := o.ls.col kk
  have hcR := r.cR
  exact ⟨⟨_, o.lists h1 kk hn ho, r.go k1 (by omega), ⟨(recol_ext col _ 1 T bt.lt).trans ct, bt.kept k1 (by omega)⟩, (recol_ext col _ 1 A b.lt).trans c, b.kept k1 (by omega)⟩, k1.block A b.lt (by omega), k1.block R r.lt (by omega), k1.block T bt.lt (by omega), fun g hg h0 => kk.block g hg (fun h9 => h9 h0)⟩
theorem LB.more (h : LB base T R A lb nv ns s L kind li ni vi w W) {W1 W' : World} {nv' : Value} {x : Nat} (st : Still W W1) (ha : Appended W1 W' 0 28 1 nv nv' (ns.length + 1) (ptrs ns ++ [.pointer (some ⟨x, 0, none⟩)])) (hx : s.kd x = 2) (hnx : x ∉ ns) : LB base T R A lb nv' (ns ++ [x]) s L kind li ni vi w W' := by
  obtain ⟨col, o, r, ⟨ct, bt⟩, c, b⟩ := h.o
  obtain ⟨o2, k2⟩ := o.more st ha hx hnx
  exact ⟨⟨_, o2, r.go k2 (by omega), ⟨(recol_ext col _ 2 T bt.lt).trans ct, bt.kept k2 (by omega)⟩, (recol_ext col _ 2 A b.lt).trans c, b.kept k2 (by omega)⟩⟩
theorem LB.lw (h : LB base T R A lb nv ns s L kind li ni vi w W) : LW_i s W := by obtain ⟨col, o, _⟩ := h.o; exact o.ls.1
theorem LB.kl (h : LB base T R A lb nv ns s L kind li ni vi w W) : ∀ j, j < 3 → s.kd (lb j) = 1 := by obtain ⟨col, o, _⟩ := h.o; exact o.kl
theorem LB.inj (h : LB base T R A lb nv ns s L kind li ni vi w W) : ∀ i j, i < 3 → j < 3 → lb i = lb j → i = j := by obtain ⟨col, o, _⟩ := h.o; exact o.inj
theorem LB.nd (h : LB base T R A lb nv ns s L kind li ni vi w W) : ns.Nodup := by obtain ⟨col, o, _⟩ := h.o; exact o.nd
theorem LB.kx (h : LB base T R A lb nv ns s L kind li ni vi w W) : ∀ x, x ∈ ns → s.kd x = 2 := by obtain ⟨col, o, _⟩ := h.o; exact o.kx
theorem LB.only (h : LB base T R A lb nv ns s L kind li ni vi w W) : ∀ y, (∀ j, j < 3 → y ≠ lb j) → s.sq y = [] := by obtain ⟨col, o, _⟩ := h.o; exact o.only
theorem LB.bel (h : LB base T R A lb nv ns s L kind li ni vi w W) : Below base w W := by obtain ⟨col, o, _⟩ := h.o; exact o.fr.bel
theorem LB.size (h : LB base T R A lb nv ns s L kind li ni vi w W) : base ≤ W.heap.size := by obtain ⟨col, o, _⟩ := h.o; exact o.fr.size
theorem LB.blk (h : LB base T R A lb nv ns s L kind li ni vi w W) : Blk W A (actC kind li ni vi) 45 := by obtain ⟨col, o, r, _, c, b⟩ := h.o; exact b
theorem LB.blkT (h : LB base T R A lb nv ns s L kind li ni vi w W) : Blk W T (three lb) 39 := by obtain ⟨col, o, r, c, b⟩ := h.o; exact c.2
theorem LB.threeAt (h : LB base T R A lb nv ns s L kind li ni vi w W) {j : Nat} (hj : j < 3) : W.cell? ⟨T, j, none⟩ = some (.pointer (some ⟨lb j, 0, none⟩)) := by
  have := h.blkT.cell j
  rw [three_at lb hj] at this; exact this
theorem LB.no (h : LB base T R A lb nv ns s L kind li ni vi w W) {x : Nat} (hx : ∀ j, j < 3 → x ∉ s.sq (lb j)) : ∀ l', s.kd l' = 1 → x ∉ s.sq l' := fun l' _ h2 => by
  by_cases e : ∃ j, j < 3 ∧ l' = lb j
  · obtain ⟨j, hj, rfl⟩ := e
    exact hx j hj h2
  · rw [h.only l' (fun j hj e9 => e ⟨j, hj, e9⟩)] at h2; cases h2
theorem LB.others (h : LB base T R A lb nv ns s L kind li ni vi w W) {j : Nat} (hj : j < 3) {s' : LS} {ys : List Nat} (hq : s'.sq = upd s.sq (lb j) ys) : ∀ y, (∀ j, j < 3 → y ≠ lb j) → s'.sq y = [] := fun y hy => by
  rw [hq, upd_ne _ _ (hy j hj)]; exact h.only y hy
theorem LB.done (h : LB base T R A lb nv ns s L kind li ni vi w W) (t : TieL lb s ns L) (hl : ns.length ≤ k) (hs : sum3 L ≤ k) : LA base T R lb k nv ns s L w W := by
  obtain ⟨col, o, r, t9, c, b⟩ := h.o
  exact ⟨⟨col, o, r, t9⟩, t, hl, hs⟩
/-- the n-th node -/
theorem LB.form (h : LB base T R A lb nv ns s L kind li ni vi w W) : ∃ a c, nv = .slice a ns.length c := by
  obtain ⟨col, o, _⟩ := h.o
  obtain ⟨a, c, e, _⟩ := o.row.form
  exact ⟨a, c, e⟩
theorem LB.at_ {a : Option Addr} {N c : Nat} (h : LB base T R A lb (.slice a N c) ns s L kind li ni vi w W) {n : Nat} (hn : n < ns.length) : ∃ g, a = some ⟨g, 0, none⟩ ∧ W.cell? ⟨g, n, none⟩ = some (.pointer (some ⟨ns.getD n 0, 0, none⟩)) ∧ g < W.heap.size ∧ s.kd g = 0 ∧ s.kd (ns.getD n 0) = 2 ∧ ns.getD n 0 ∈ ns := by
  obtain ⟨col, o, r, _, cA, b⟩ := h.o
  have hx : ns[n]? = some (ns.getD n 0) := by rw [List.getD_eq_getElem?_getD, List.getElem?_eq_getElem hn]; rfl
  have hr := o.row
  obtain ⟨a', c', e, _, _⟩ := hr.form
  simp only [Value.slice.injEq] at e
  obtain ⟨rfl, rfl, rfl⟩ := e
  obtain ⟨g, e1, e2, e3, e4, e5⟩ := nodes_at hr hx
  rw [Nat.zero_add] at e5
  refine ⟨g, e1, e5, e2, ?_, h.kx _ (List.mem_of_getElem? hx), List.mem_of_getElem? hx⟩
  by_cases e9 : s.kd g = 0
  · exact e9
  · have := o.ls.2 g e9; omega
theorem LB.owns (h : LB base T R A lb nv ns s L kind li ni vi w W) {W1 : World} (st : Still W W1) : W1.ownsRow 0 28 1 nv ns.length (ptrs ns) := by
  obtain ⟨col, o, _⟩ := h.o
  exact (o.row.still st).1
theorem LB.putCol (col : Nat → Nat) {col' : Nat → Nat} {W2 : World} {j : Nat} {v' : Value} {l : List Int} (o : N3 base lb col s nv ns w W) (r : RefL col R L W) (t9 : col T = 8 ∧ Blk W T (three lb) 39) (b9 : col A = 7 ∧ Blk W A (actC kind li ni vi) 45) (hj : j < 4) (rc : Recol W.heap.size col col') (hf : Fr base col' w (W2.setCell ⟨R, j, none⟩ v')) (k1 : Kept (fun x => col x = 10 + j) W W2) (hv : Owns col' (10 + j) W2 3 1 v' l.length (irow l)) : LB base T R A lb nv ns s (upd L j l) kind li ni vi w (W2.setCell ⟨R, j, none⟩ v') := by
  obtain ⟨p1, p2⟩ := r.put hj rc k1 hv
  have hcR := r.cR
  obtain ⟨ct, bt⟩ := t9
  obtain ⟨cA, b⟩ := b9
  have q1 : ∀ x, x < W.heap.size → (col x = 10 + j ∨ x = R) → 2 < col x := fun x _ e => by
    rcases e with e | e
    · omega
    · rw [e]; omega
  have q2 : ∀ x, col x = 7 ∨ col x = 8 → ¬ (col x = 10 + j ∨ x = R) := fun x hx e => by
    rcases e with e | e
    · omega
    · rw [e] at hx; omega
  exact ⟨⟨col', o.other rc p2 q1 hf, p1, ⟨(rc T bt.lt).trans ct, bt.kept p2 (q2 T (.inr ct))⟩, (rc A b.lt).trans cA, b.kept p2 (q2 A (.inl cA))⟩⟩
/-- the document's row j -/
theorem LB.slot (h : LB base T R A lb nv ns s L kind li ni vi w W) {j : Nat} (hj : j < 4) : ∃ a cap, W.cell? ⟨R, j, none⟩ = some (.slice a (L j).length cap) ∧ W.frozen? ⟨R, j, none⟩ = false ∧ (∀ W1, Still W W1 → W1.ownsRow 0 3 1 (.slice a (L j).length cap) (L j).length (irow (L j))) ∧ IRow (fun _ => True) W (.slice a (L j).length cap) (L j) ∧
    (∀ W1 W2 v' (ys : List Int), Still W W1 → Appended W1 W2 0 3 1 (.slice a (L j).length cap) v' ((L j).length + ys.length) (irow (L j) ++ irow ys) → W2.frozen? ⟨R, j, none⟩ = false ∧ (∃ cv, W2.cell? ⟨R, j, none⟩ = some cv) ∧ W2.heap[A]? = W.heap[A]? ∧ W2.heap[R]? = W.heap[R]? ∧ LB base T R A lb nv ns s (upd L j (L j ++ ys)) kind li ni vi w (W2.setCell ⟨R, j, none⟩ v')) ∧
    LB base T R A lb nv ns s (upd L j []) kind li ni vi w (W.setCell ⟨R, j, none⟩ (.slice none 0 0)) ∧
    LB base T R A lb nv ns s L kind li ni vi w (W.setCell ⟨R, j, none⟩ (.slice a (L j).length cap)) ∧
    (∀ (q : Nat) (z : Int), (L j)[q]? = some z → ∃ g, a = some ⟨g, 0, none⟩ ∧ W.cell? ⟨g, q, none⟩ = some (.int .i64 z) ∧ g < W.heap.size ∧ s.kd g = 0) := by
  obtain ⟨col, o, r, t9, b9⟩ := h.o
  obtain ⟨a, cap, c1, f1, o1, hq⟩ := r.slot hj
  have hcR := r.cR
  have hR9 : R < W.heap.size := r.lt
  have fr2 : ∀ W2 v', Kept (fun x => col x = 10 + j) W W2 → Fr base (ext col W.heap.size (10 + j)) w (W2.setCell ⟨R, j, none⟩ v') := fun W2 v' k1 => by
    have hf := (o.fr.step (c := 10 + j) (by omega) k1)
    exact ⟨hf.low, below_step hf.bel (Kept.setCell (S := fun x => x = R) (Kept.refl _ _) (fun _ => rfl) _) hf.le (fun i hi e => by have := hf.low i hi; rw [e, recol_ext col _ _ R hR9] at this; omega), hf.le⟩
  have rc := recol_ext col W.heap.size (10 + j)
  refine ⟨a, cap, c1, f1, fun W1 st => (o1.still st).1, o1.row, fun W1 W2 v' ys st ha => ?_, ?_, ?_, fun q z hz => ?_⟩
  · obtain ⟨h1, k1⟩ := o1.app1 st ha
    have hb2 := k1.block A b9.2.lt (by have := b9.1; omega)
    have hr2 := k1.block R hR9 (by omega)
    obtain ⟨cs, vs, bR, _⟩ := r.blk
    have bR2 := bR.kept k1 (by omega)
    have hv : Owns (ext col W.heap.size (10 + j)) (10 + j) W2 3 1 v' (L j ++ ys).length (irow (L j ++ ys)) := by
      rw [show irow (L j ++ ys) = irow (L j) ++ irow ys from List.map_append .., List.length_append]; exact h1
    exact ⟨bR2.free j, ⟨_, (World.cell?_of_block (a := ⟨R, j, none⟩) hr2).trans c1⟩, hb2, hr2, LB.putCol col o r t9 b9 hj rc (fr2 _ _ k1) k1 hv⟩
  · have st : Kept (fun x => col x = 10 + j) W W := Kept.refl _ _
    exact LB.putCol col o r t9 b9 hj rc (fr2 _ _ st) st (Owns.nil _ _ _ _ _)
  · have st : Kept (fun x => col x = 10 + j) W W := Kept.refl _ _
    have := LB.putCol col o r t9 b9 hj rc (fr2 _ _ st) st (o1.recol rc)
    rwa [show upd L j (L j) = L from upd_id L j] at this
  · obtain ⟨g, e1, e2, e3, cur, e4⟩ := hq q z hz
    refine ⟨g, e1, e2, e3, ?_⟩
    have hg : col g = 10 + j := o1.2 g (by rw [e1]; rfl)
    by_cases e9 : s.kd g = 0
    · exact e9
    · have := o.ls.2 g e9; omega
theorem LB.outd (h : LB base T R A lb nv ns s L kind li ni vi w W) {L' : Nat → List Int} {W' : World} {d : Nat} (hw : ∀ col, RefL col R L W → ∃ col', Recol W.heap.size col col' ∧ RefL col' R L' W' ∧ ∀ x, W.heap.size ≤ x → col' x = 10 + d) (k : Kept (fun x => x = R) W W') : LB base T R A lb nv ns s L' kind li ni vi w W' := by
  obtain ⟨col, o, r, ⟨ct, bt⟩, cA, b⟩ := h.o
  obtain ⟨col', rc, r', _⟩ := hw col r
  have hcR := r.cR
  have hf : Fr base col' w W' := ⟨fun x hx => by rw [rc x (Nat.lt_of_lt_of_le hx o.fr.size)]; exact o.fr.low x hx, below_step o.fr.bel k o.fr.le (fun i hi e => by have := o.fr.low i hi; rw [e] at this; omega), o.fr.le⟩
  exact ⟨⟨col', o.other rc k (fun x _ e => by rw [e]; omega) hf, r', ⟨(rc T bt.lt).trans ct, bt.kept k (fun e => by rw [e] at ct; omega)⟩, (rc A b.lt).trans cA, b.kept k (fun e => by rw [e] at cA; omega)⟩⟩
theorem LB.col (h : LB base T R A lb nv ns s L kind li ni vi w W) : ∃ col, RefL col R L W := by obtain ⟨col, o, r, _⟩ := h.o; exact ⟨col, r⟩
end
theorem LB.ofAny {base T R A : Nat} {lb : Nat → Nat} {nv : Value} {ns : List Nat} {s : LS} {L : Nat → List Int} {kind li ni vi : Int} {w W : World} (h : LB base T R A lb nv ns s L kind li ni vi w W) (hs : sum3 L ≤ 1000) (n : Int) :
    Calls Try.prog 18 #[.pointer (some ⟨R, 0, none⟩), .int .i64 n] W fun e w' => ∃ z : Int, e = .returned (.int .i64 z) ∧ W = w' ∧ ((∃ q : Nat, q < 3 ∧ z = q ∧ n ∈ L q ∧ ∀ i, i < q → n ∉ L i) ∨ (z = -1 ∧ ∀ q, q < 3 → n ∉ L q)) := by
  obtain ⟨col, r⟩ := h.col
  exact of_any n W r (fun q hq => Nat.le_trans (sum3_le L hq) hs)
theorem LB.sameAny {base T R A : Nat} {lb : Nat → Nat} {a : Option Addr} {n c : Nat} {ns : List Nat} {s : LS} {L : Nat → List Int} {kind li ni vi : Int} {w W : World} (h : LB base T R A lb (.slice a n c) ns s L kind li ni vi w W) (t : TieL lb s ns L) (hs : sum3 L ≤ 1000) (hn : ns.length ≤ 1000) :
    Calls Try.prog 22 #[.agg (three lb), .slice a n c, .pointer (some ⟨R, 0, none⟩)] W fun e w' => e = .returned (.bool true) ∧ Still W w' := by
  obtain ⟨col, o, r, _⟩ := h.o
  refine same_any W o.ls.1 o.kl o.inj r ?_ o.kx o.nd t (fun k hk => ?_)
  · have hr := o.row
    obtain ⟨a', c', e, _, _⟩ := hr.form
    simp only [Value.slice.injEq] at e
    obtain ⟨rfl, rfl, rfl⟩ := e
    exact hr
  · by_cases e : k = 3
    · rw [e, t.len]; exact hn
    · exact Nat.le_trans (sum3_le L (by omega)) hs
theorem LB.outAny {base T R A : Nat} {lb : Nat → Nat} {nv : Value} {ns : List Nat} {s : LS} {L : Nat → List Int} {kind li ni vi : Int} {w W : World} (h : LB base T R A lb nv ns s L kind li ni vi w W) (hl : ∀ k, k < 4 → (L k).length ≤ 1000) {j : Nat} (hj : j < 3) (n : Int) :
    Calls Try.prog 19 #[.pointer (some ⟨R, 0, none⟩), .int .i64 (j : Int), .int .i64 n] W fun e w' => e = .returned (.tuple #[]) ∧ LB base T R A lb nv ns s (upd L j (wo n (L j))) kind li ni vi w w' := by
  obtain ⟨col0, r0⟩ := h.col
  obtain ⟨col, o, r, ⟨ct, bt⟩, cA, b⟩ := h.o
  refine (out_any n W r hl hj).mono ?_
  rintro e w' ⟨rfl, ⟨col', rc, r', _⟩, k⟩
  have hcR := r.cR
  have hf : Fr base col' w w' := ⟨fun x hx => by rw [rc x (Nat.lt_of_lt_of_le hx o.fr.size)]; exact o.fr.low x hx, below_step o.fr.bel k o.fr.le (fun i hi e => by have := o.fr.low i hi; rw [e] at this; omega), o.fr.le⟩
  exact ⟨rfl, ⟨col', o.other rc k (fun x _ e => by rw [e]; omega) hf, r', ⟨(rc T bt.lt).trans ct, bt.kept k (fun e => by rw [e] at ct; omega)⟩, (rc A b.lt).trans cA, b.kept k (fun e => by rw [e] at cA; omega)⟩⟩
theorem LB.allAny {base T R A : Nat} {lb : Nat → Nat} {nv : Value} {ns : List Nat} {s : LS} {L : Nat → List Int} {kind li ni vi : Int} {w W : World} (h : LB base T R A lb nv ns s L kind li ni vi w W) (hl : ∀ k, k < 4 → (L k).length ≤ 1000) {j : Nat} (hj : j < 3) (hd : ∀ z, z ∈ L j → 0 ≤ z ∧ z < (L 3).length) :
    Calls Try.prog 21 #[.pointer (some ⟨R, 0, none⟩), .int .i64 (j : Int)] W fun e w' => (∃ v, e = .returned v ∧ w'.ownsRow W.heap.size 3 1 v (valsAt (L 3) (L j)).length (irow (valsAt (L 3) (L j)))) ∧ Still W w' := by
  obtain ⟨col, r⟩ := h.col
  exact refall_any W r hl hj hd
def lb3 (a b c : Nat) : Nat → Nat
  | 0 => a
  | 1 => b
  | _ => c
theorem lb3_cases {P : Nat → Prop} {a b c j : Nat} (ha : P a) (hb : P b) (hc : P c) : P (lb3 a b c j) := by
  rcases j with _ | _ | j
  · exact ha
  · exact hb
  · exact hc
theorem LA.start {w w1 w4 : World} {s : LS} {a b c : Nat} (k1 : Below w.heap.size w w1) (st : Still w1 w4) (h : LW_i s w4) (hz : ∀ y, y < w1.heap.size → s.kd y = 0) (ka : s.kd a = 1) (kb : s.kd b = 1) (kc : s.kd c = 1) (hab : a < b) (hbc : b < c) (hq : ∀ y, s.sq y = []) :
    LA w.heap.size w4.heap.size (w4.heap.size + 1) (lb3 a b c) 0 (.slice none 0 0) [] s (fun _ => []) w ((w4.alloc (.cells #[.pointer (some ⟨a, 0, none⟩), .pointer (some ⟨b, 0, none⟩), .pointer (some ⟨c, 0, none⟩)] 39)).alloc (.cells #[.slice none 0 0, .slice none 0 0, .slice none 0 0, .slice none 0 0] 43)) := by
  obtain ⟨Q1, hQ1⟩ : ∃ o, o = Obj.cells #[.pointer (some ⟨a, 0, none⟩), .pointer (some ⟨b, 0, none⟩), .pointer (some ⟨c, 0, none⟩)] 39 := ⟨_, rfl⟩
  obtain ⟨Q2, hQ2⟩ : ∃ o, o = Obj.cells #[.slice none 0 0, .slice none 0 0, .slice none 0 0, .slice none 0 0] 43 := ⟨_, rfl⟩
  have bT : Blk ((w4.alloc Q1).alloc Q2) w4.heap.size (three (lb3 a b c)) 39 := by rw [hQ1]; exact (Blk.new _ _ _).alloc _
  have bR : Blk ((w4.alloc Q1).alloc Q2) (w4.heap.size + 1) #[.slice none 0 0, .slice none 0 0, .slice none 0 0, .slice none 0 0] 43 := by rw [hQ2]; exact Blk.newAt _ _ _ (by simp)
  rw [← hQ1, ← hQ2]
  have st2 : Still w4 ((w4.alloc Q1).alloc Q2) := by (repeat (first | (with_reducible exact Kept.refl _ _) | (with_reducible refine Kept.drewN ?_ _) | (with_reducible refine Kept.drew ?_) | (with_reducible refine Kept.put ?_ _ _) | (with_reducible refine Kept.alloc ?_ _)))
  have h14 := st.size
  have hw1 := k1.size
  let col : Nat → Nat := fun x => if x < w1.heap.size then 0 else if x < w4.heap.size then 1 else if x = w4.heap.size then 8 else 9
  have c0 : ∀ x, x < w1.heap.size → col x = 0 := fun x hx => by show (if _ then _ else _) = _; rw [if_pos hx]
  have c1 : ∀ x, w1.heap.size ≤ x → x < w4.heap.size → col x = 1 := fun x h1 h2 => by show (if _ then _ else _) = _; rw [if_neg (by omega), if_pos h2]
  have c8 : col w4.heap.size = 8 := by show (if _ then _ else _) = _; rw [if_neg (by omega), if_neg (by omega), if_pos rfl]
  have c9 : col (w4.heap.size + 1) = 9 := by show (if _ then _ else _) = _; rw [if_neg (by omega), if_neg (by omega), if_neg (by omega)]
  refine ⟨⟨col, ⟨⟨fun x hx => c0 x (by omega), below_still (below_still k1 st (Nat.le_refl _)) st2 (Nat.le_refl _), Nat.le_refl _⟩, ⟨h.still st2, fun y hy => ?_⟩, fun j _ => lb3_cases (P := fun x => s.kd x = 1) ka kb kc, fun i j hi hj e => ?_, fun y _ => hq y, Owns.nil _ _ _ _ _, fun x hx => absurd hx List.not_mem_nil, List.nodup_nil⟩, ⟨c9, _, fun _ => .slice none 0 0, bR, rfl, fun k hk => ?_, fun k hk => Owns.nil _ _ _ _ _⟩, c8, bT⟩, ⟨fun j _ => hq _, fun j _ z hz => absurd hz List.not_mem_nil, rfl⟩, Nat.le_refl _, Nat.le_refl _⟩
  · rcases Nat.lt_or_ge y w1.heap.size with h8 | h8
    · exact absurd (hz y h8) hy
    · rcases Nat.lt_or_ge y w4.heap.size with h7 | h7
      · exact c1 y h8 h7
      · exact absurd (h.fresh y h7) hy
  · rcases i with _ | _ | _ | i <;> rcases j with _ | _ | _ | j <;> simp only [lb3] at e <;> omega
  · rcases k with _ | _ | _ | _ | k
    · rfl
    · rfl
    · rfl
    · rfl
    · omega
end Go.Proofs.Ytdpcgemmbpbpoaa
