/-
  What stands here: the frame of a walk: each block has a colour, the blocks that were there ahead of the walk have none; what has another colour than a step's is carried over. Under no condition.
-/
import Derived.Test.YtdpcgemmbpbpoaaOwn
namespace Go.Proofs.Ytdpcgemmbpbpoaa
set_option linter.unusedVariables false
set_option linter.unusedSimpArgs false
open Go.RowKit Go.Proofs

structure Fr (base : Nat) (col : Nat → Nat) (w W : World) : Prop where
  low : ∀ x, x < base → col x = 0
  bel : Below base w W
  le : base ≤ w.heap.size
theorem Fr.start {w W : World} (h : Below w.heap.size w W) : Fr w.heap.size (fun _ => 0) w W := ⟨fun _ _ => rfl, h, Nat.le_refl _⟩
theorem Fr.size {base : Nat} {col : Nat → Nat} {w W : World} (h : Fr base col w W) : base ≤ W.heap.size := Nat.le_trans h.le h.bel.size
theorem Fr.step {base c : Nat} {col : Nat → Nat} {w W W' : World} (h : Fr base col w W) (hc : c ≠ 0) (k : Kept (fun x => col x = c) W W') : Fr base (ext col W.heap.size c) w W' :=
  ⟨fun x hx => by rw [recol_ext col _ c x (Nat.lt_of_lt_of_le hx h.size)]; exact h.low x hx, below_step h.bel k h.le (fun i hi e => hc (by rw [← e, h.low i hi])), h.le⟩
theorem Fr.still {base : Nat} {col : Nat → Nat} {w W W' : World} (h : Fr base col w W) (k : Still W W') : Fr base col w W' := ⟨h.low, below_still h.bel k h.le, h.le⟩
theorem Fr.cell {base : Nat} {col : Nat → Nat} {w W : World} (h : Fr base col w W) {p : Addr} (hp : p.block < base) : W.cell? p = w.cell? p := h.bel.cell hp
/-- a block with its colour -/
def BlkC (col : Nat → Nat) (c : Nat) (W : World) (b : Nat) (v : Array Value) (t : TypeId) : Prop := Blk W b v t ∧ col b = c
theorem BlkC.go {col : Nat → Nat} {c d : Nat} {W W' : World} {b : Nat} {v : Array Value} {t : TypeId} (h : BlkC col c W b v t) (k : Kept (fun x => col x = d) W W') (hn : c ≠ d) : BlkC (ext col W.heap.size d) c W' b v t :=
  ⟨h.1.kept k (fun e => hn (h.2.symm.trans e)), (recol_ext col _ d b h.1.lt).trans h.2⟩
theorem BlkC.still {col : Nat → Nat} {c : Nat} {W W' : World} {b : Nat} {v : Array Value} {t : TypeId} (h : BlkC col c W b v t) (k : Still W W') : BlkC col c W' b v t := ⟨h.1.still k, h.2⟩
theorem Owns.go {col : Nat → Nat} {c d : Nat} {w w' : World} {e : TypeId} {sz : Nat} {v : Value} {n : Nat} {xs : List Value} (h : Owns col c w e sz v n xs) (k : Kept (fun x => col x = d) w w') (hn : c ≠ d) : Owns (ext col w.heap.size d) c w' e sz v n xs :=
  h.grow k rfl d (fun x _ h1 h2 => hn (h1.symm.trans h2))
/-- an append to a row of the colour c -/
theorem Owns.app {col : Nat → Nat} {c : Nat} {w w1 : World} {e : TypeId} {sz n n0 : Nat} {v v' : Value} {xs ys : List Value} (h : Owns col c w e sz v n0 ys) {o : Obj} (ha : Appended (w.alloc o) w1 0 e sz v v' n xs) : Owns (ext col w.heap.size c) c w1 e sz v' n xs ∧ Kept (fun x => col x = c) w w1 :=
  ⟨h.appended ha (Nat.le_refl _) (owns_lt h.1), h.app_kept ha (Kept.refl _ w) (fun _ _ e => e)⟩
theorem Owns.alloc {col : Nat → Nat} {c : Nat} {w : World} {e : TypeId} {sz : Nat} {v : Value} {n : Nat} {xs : List Value} (h : Owns col c w e sz v n xs) (o : Obj) : (w.alloc o).ownsRow 0 e sz v n xs :=
  (h.still ((still_refl w).alloc o)).1
theorem Owns.row {col : Nat → Nat} {c : Nat} {w : World} {e : TypeId} {v : Value} {n : Nat} {xs : List Value} (h : Owns col c w e 1 v n xs) : VRow (fun _ => True) w v xs := (VRow.of_owns h.1).mono (fun _ _ => trivial)
theorem owns_set_kept {col : Nat → Nat} {c : Nat} {W : World} {g : Nat} (hg : col g = c) (i : Nat) (y : Value) : Kept (fun x => col x = c) W (W.setCell ⟨g, i, none⟩ y) :=
  (Kept.refl _ W).setCell (fun _ => hg) y
/-- what stands while nothing has got a new block -/
theorem ext_same {col : Nat → Nat} {W : World} {d c b : Nat} (hb : b < W.heap.size) (h : col b = c) : ext col W.heap.size d b = c := (recol_ext col _ d b hb).trans h
end Go.Proofs.Ytdpcgemmbpbpoaa
