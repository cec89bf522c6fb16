/-
  What stands here: slices that own their blocks; each block has a colour, so that what has another colour is another block. Under no condition.
-/
import Derived.Test.YtlpmfiplcikfpaaAppend
namespace Go.Proofs.Ytlpmfiplcikfpaa
set_option linter.unusedVariables false
set_option linter.unusedSimpArgs false
open Go.RowKit Go.Proofs

/-- the blocks that were keep their colours -/
def Recol (n : Nat) (col col' : Nat → Nat) : Prop := ∀ x, x < n → col' x = col x
def ext (col : Nat → Nat) (n c : Nat) : Nat → Nat := fun x => if x < n then col x else c
theorem recol_ext (col : Nat → Nat) (n c : Nat) : Recol n col (ext col n c) := fun x hx => by unfold ext; rw [if_pos hx]
theorem recol_refl (col : Nat → Nat) (n : Nat) : Recol n col col := fun _ _ => rfl
theorem Recol.trans {n m : Nat} {a b c : Nat → Nat} (h : Recol n a b) (k : Recol m b c) (hm : n ≤ m) : Recol n a c := fun x hx => (k x (Nat.lt_of_lt_of_le hx hm)).trans (h x hx)
theorem ext_new (col : Nat → Nat) {n c x : Nat} (h : n ≤ x) : ext col n c x = c := by unfold ext; rw [if_neg (by omega)]

/-- a slice that owns its block, which has the colour c -/
def Owns (col : Nat → Nat) (c : Nat) (w : World) (e : TypeId) (sz : Nat) (v : Value) (n : Nat) (xs : List Value) : Prop :=
  w.ownsRow 0 e sz v n xs ∧ ∀ g, v.ownBlock = some g → col g = c
theorem Owns.nil (col : Nat → Nat) (c : Nat) (w : World) (e : TypeId) (sz : Nat) : Owns col c w e sz (.slice none 0 0) 0 [] := ⟨World.ownsRow_nil _ _ _ _, by simp [Value.ownBlock]⟩
theorem owns_lt {w : World} {base : Nat} {e : TypeId} {sz : Nat} {v : Value} {n : Nat} {xs : List Value} (h : w.ownsRow base e sz v n xs) : ∀ g, v.ownBlock = some g → g < w.heap.size := by
  intro g hg
  obtain ⟨_, ⟨rfl, _⟩ | ⟨g', cap, cur, rfl, hb, hgb, _⟩⟩ := h
  · simp [Value.ownBlock] at hg
  · simp only [Value.ownBlock, Option.some.injEq] at hg
    rw [← hg]; exact lt_of_block hgb
theorem Owns.recol {col col' : Nat → Nat} {c : Nat} {w : World} {e : TypeId} {sz : Nat} {v : Value} {n : Nat} {xs : List Value} (h : Owns col c w e sz v n xs) (k : Recol w.heap.size col col') : Owns col' c w e sz v n xs :=
  ⟨h.1, fun g hg => (k g (owns_lt h.1 g hg)).trans (h.2 g hg)⟩
theorem Owns.kept {S : Nat → Prop} {col : Nat → Nat} {c : Nat} {w w' : World} {e : TypeId} {sz : Nat} {v : Value} {n : Nat} {xs : List Value} (h : Owns col c w e sz v n xs) (k : Kept S w w') (hS : ∀ x, x < w.heap.size → col x = c → ¬ S x) : Owns col c w' e sz v n xs := by
  refine ⟨?_, h.2⟩
  obtain ⟨⟨hl, hr⟩, h2⟩ := h
  rcases hr with hr | ⟨g, cap, cur, rfl, hb, hgb, hr⟩
  · exact ⟨hl, .inl hr⟩
  · refine ⟨hl, .inr ⟨g, cap, cur, rfl, hb, ?_, hr⟩⟩
    rw [k.block g (lt_of_block hgb) (hS g (lt_of_block hgb) (h2 g rfl))]; exact hgb
theorem Owns.still {col : Nat → Nat} {c : Nat} {w w' : World} {e : TypeId} {sz : Nat} {v : Value} {n : Nat} {xs : List Value} (h : Owns col c w e sz v n xs) (k : Still w w') : Owns col c w' e sz v n xs := h.kept k (fun _ _ _ f => f)
theorem Owns.form {col : Nat → Nat} {c : Nat} {w : World} {e : TypeId} {sz : Nat} {v : Value} {n : Nat} {xs : List Value} (h : Owns col c w e sz v n xs) : ∃ a cap, v = .slice a n cap ∧ n ≤ cap ∧ cap ≤ maxLen := by
  obtain ⟨⟨hl, ⟨rfl, rfl⟩ | ⟨g, cap, cur, rfl, hb, hgb, hn, hm, _⟩⟩, _⟩ := h
  · exact ⟨_, _, rfl, Nat.le_refl _, Nat.zero_le _⟩
  · exact ⟨_, _, rfl, hn, hm⟩
theorem Owns.at_ {col : Nat → Nat} {c : Nat} {w : World} {e : TypeId} {sz : Nat} {a : Option Addr} {n cap : Nat} {xs : List Value} (h : Owns col c w e sz (.slice a n cap) n xs) (h0 : 0 < n) :
    ∃ g cur, a = some ⟨g, 0, none⟩ ∧ col g = c ∧ Blk w g cur e ∧ cur.size = cap * sz ∧ n ≤ cap ∧ cap ≤ maxLen ∧ xs.length = n * sz ∧ ∀ j, j < n * sz → cur[j]? = xs[j]? := by
  obtain ⟨⟨hl, ⟨hv, rfl⟩ | ⟨g, cap', cur, hv, hb, hgb, hn, hm, hc, ht⟩⟩, h2⟩ := h
  · omega
  · simp only [Value.slice.injEq] at hv
    obtain ⟨rfl, -, rfl⟩ := hv
    refine ⟨g, cur, rfl, h2 g rfl, hgb, hc, hn, hm, hl, fun j hj => ?_⟩
    rw [← ht, List.getElem?_take_of_lt hj]; simp
theorem Owns.mk {col : Nat → Nat} {c : Nat} {w : World} {e : TypeId} {sz g n cap : Nat} {cur : Array Value} {xs : List Value} (hc : col g = c) (hb : Blk w g cur e) (hs : cur.size = cap * sz) (hn : n ≤ cap) (hm : cap ≤ maxLen) (hl : xs.length = n * sz) (hx : ∀ j, j < n * sz → cur[j]? = xs[j]?) :
    Owns col c w e sz (.slice (some ⟨g, 0, none⟩) n cap) n xs := by
  refine ⟨⟨hl, .inr ⟨g, cap, cur, rfl, Nat.zero_le _, hb, hn, hm, hs, ?_⟩⟩, fun g' hg' => by simp only [Value.ownBlock, Option.some.injEq] at hg'; rw [← hg']; exact hc⟩
  apply List.ext_getElem?
  intro j
  by_cases hj : j < n * sz
  · rw [List.getElem?_take_of_lt hj]; simpa using hx j hj
  · rw [List.getElem?_eq_none (by rw [List.length_take]; omega), List.getElem?_eq_none (by omega)]
theorem Owns.appended {col : Nat → Nat} {c m : Nat} {w w1 : World} {e : TypeId} {sz n n0 : Nat} {v v' : Value} {xs ys : List Value} (h : Owns col c w e sz v n0 ys) {o : Obj} (ha : Appended (w.alloc o) w1 0 e sz v v' n xs) (hm : m ≤ w.heap.size) (hv : ∀ g, v.ownBlock = some g → g < m) : Owns (ext col m c) c w1 e sz v' n xs := by
  refine ⟨ha.owns, fun g hg => ?_⟩
  rcases ha.block g hg with h1 | h1
  · rw [recol_ext col m c g (hv g h1)]; exact h.2 g h1
  · exact ext_new col (by simp at h1; omega)
theorem cell_set {c : Array Value} {i : Nat} {x y : Value} (h : c[i]? = some y) : (c.setIfInBounds i x)[i]? = some x := by
  have : i < c.size := (Array.getElem?_eq_some_iff.1 h).1
  simp [this]
theorem owns_one {col : Nat → Nat} {c : Nat} {w : World} {e : TypeId} {v : Value} {n : Nat} {xs : List Value} (h : Owns col c w e 1 v n xs) {i : Nat} {x : Value} (hx : xs[i]? = some x) :
    ∃ g cap cur, v = .slice (some ⟨g, 0, none⟩) n cap ∧ col g = c ∧ Blk w g cur e ∧ n ≤ cap ∧ cap ≤ maxLen ∧ i < n ∧ w.cell? ⟨g, i, none⟩ = some x ∧ ∀ y, Owns col c (w.setCell ⟨g, i, none⟩ y) e 1 v n (xs.set i y) := by
  have hi : i < xs.length := (List.getElem?_eq_some_iff.1 hx).1
  have hl := h.1.1
  obtain ⟨a, cap, rfl, hn, hm⟩ := h.form
  obtain ⟨g, cur, rfl, hc, hb, hs, -, -, hlx, hcx⟩ := h.at_ (by omega)
  refine ⟨g, cap, cur, rfl, hc, hb, hn, hm, by omega, (hb.cell i).trans ((hcx i (by omega)).trans hx), fun y => ?_⟩
  refine Owns.mk hc (hb.set i y) (by simpa using hs) hn hm (by simpa using hlx) fun j hj => ?_
  by_cases e : j = i
  · subst e; rw [List.getElem?_set_self hi]; exact cell_set ((hcx j hj).trans hx)
  · rw [List.getElem?_set_ne (Ne.symm e), Array.getElem?_setIfInBounds_ne (Ne.symm e)]; exact hcx j hj
theorem Owns.set_other {col : Nat → Nat} {c : Nat} {w : World} {e : TypeId} {sz : Nat} {v : Value} {n : Nat} {xs : List Value} (h : Owns col c w e sz v n xs) {a : Addr} (ha : col a.block ≠ c) (y : Value) : Owns col c (w.setCell a y) e sz v n xs :=
  h.kept (S := fun x => x = a.block) ((Kept.refl (fun x => x = a.block) w).setCell (p := a) (fun _ => rfl) y) (fun x _ h1 h2 => ha (by rw [← h2]; exact h1))
theorem owns_put {col : Nat → Nat} {c : Nat} {w : World} {e : TypeId} {g n cap : Nat} {xs : List Value} (h : Owns col c w e 1 (.slice (some ⟨g, 0, none⟩) n cap) n xs) {i : Nat} (hi : i < n) (y : Value) : Owns col c (w.setCell ⟨g, i, none⟩ y) e 1 (.slice (some ⟨g, 0, none⟩) n cap) n (xs.set i y) := by
  have hl := h.1.1
  obtain ⟨g', cap', cur, hv, _, _, _, _, _, _, hs⟩ := owns_one h (i := i) (x := xs[i]'(by omega)) (List.getElem?_eq_getElem _)
  simp only [Value.slice.injEq, Option.some.injEq, Addr.mk.injEq, and_true, true_and] at hv
  obtain ⟨rfl, -⟩ := hv
  exact hs y
/-- what an append leaves: only the row's own block and new ones may have turned -/
theorem Owns.app_kept {col : Nat → Nat} {c : Nat} {S : Nat → Prop} {a w w1 : World} {e : TypeId} {sz n n0 base : Nat} {v v' : Value} {xs ys : List Value} (h : Owns col c w e sz v n0 ys) {o : Obj} (ha : Appended (w.alloc o) w1 base e sz v v' n xs) (k : Kept S a w) (hS : ∀ x, x < a.heap.size → col x = c → S x) : Kept S a w1 :=
  ha.kept k (fun b hb he => hS b hb (h.2 b he))
/-- one step on: new blocks have the colour d -/
theorem Owns.grow {S : Nat → Prop} {col : Nat → Nat} {c m : Nat} {w w' : World} {e : TypeId} {sz : Nat} {v : Value} {n : Nat} {xs : List Value} (h : Owns col c w e sz v n xs) (k : Kept S w w') (hm : m = w.heap.size) (d : Nat) (hS : ∀ x, x < w.heap.size → col x = c → ¬ S x) : Owns (ext col m d) c w' e sz v n xs := by
  subst hm
  exact (h.recol (recol_ext col _ d)).kept k (fun x hx hc => hS x hx (by rwa [recol_ext col _ d x hx] at hc))
end Go.Proofs.Ytlpmfiplcikfpaa
