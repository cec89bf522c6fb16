/-
  What stands here: lists, slices of nodes and maps beside each other, by their colours. Under no condition.
-/
import Derived.Test.YtdpcgemmbpbpoaaListRow
import Derived.Test.YtdpcgemmbpbpoaaCol
import Derived.Test.YtdpcgemmbpbpoaaMapB
namespace Go.Proofs.Ytdpcgemmbpbpoaa
set_option linter.unusedVariables false
set_option linter.unusedSimpArgs false
open Go.RowKit Go.Proofs

/-- a list's blocks have the colour c -/
def Lst (col : Nat → Nat) (c : Nat) (s : LS) (W : World) : Prop := LW_i s W ∧ ∀ y, s.kd y ≠ 0 → col y = c
theorem Lst.go {col : Nat → Nat} {c d : Nat} {s : LS} {W W' : World} (h : Lst col c s W) (k : Kept (fun x => col x = d) W W') (hn : c ≠ d) : Lst (ext col W.heap.size d) c s W' :=
  ⟨h.1.kept k (fun x hx e => hn ((h.2 x hx).symm.trans e)), fun y hy => by
    rcases Nat.lt_or_ge y W.heap.size with h9 | h9
    · rw [recol_ext col _ d y h9]; exact h.2 y hy
    · exact absurd (h.1.fresh y h9) hy⟩
theorem Lst.still {col : Nat → Nat} {c : Nat} {s : LS} {W W' : World} (h : Lst col c s W) (k : Still W W') : Lst col c s W' := ⟨h.1.still k, h.2⟩
theorem Lst.turn {col : Nat → Nat} {c : Nat} {s s' : LS} {W W' : World} (h : Lst col c s W) (h1 : LW_i s' W') (hn : ∀ y, y < W.heap.size → s'.kd y = s.kd y) : Lst (ext col W.heap.size c) c s' W' :=
  ⟨h1, fun y hy => by
    rcases Nat.lt_or_ge y W.heap.size with h9 | h9
    · rw [recol_ext col _ c y h9]; exact h.2 y (by rw [← hn y h9]; exact hy)
    · exact ext_new col h9⟩
theorem Lst.col {col : Nat → Nat} {c : Nat} {s : LS} {W W' : World} (h : Lst col c s W) (k : Kept (fun y => s.kd y ≠ 0) W W') : Kept (fun x => col x = c) W W' := k.mono fun y _ hy => h.2 y hy
/-- a map's block has the colour c -/
def MapC (col : Nat → Nat) (c : Nat) (P : Program) (K E : TypeId) (W : World) (mb n : Nat) (f : Int → Bool) : Prop := MapB P K E W mb n f ∧ col mb = c
theorem MapC.go {col : Nat → Nat} {c d : Nat} {P : Program} {K E : TypeId} {W W' : World} {mb n : Nat} {f : Int → Bool} (h : MapC col c P K E W mb n f) (k : Kept (fun x => col x = d) W W') (hn : c ≠ d) : MapC (ext col W.heap.size d) c P K E W' mb n f :=
  ⟨h.1.kept k (fun e => hn (h.2.symm.trans e)), (recol_ext col _ d mb h.1.lt).trans h.2⟩
theorem MapC.still {col : Nat → Nat} {c : Nat} {P : Program} {K E : TypeId} {W W' : World} {mb n : Nat} {f : Int → Bool} (h : MapC col c P K E W mb n f) (k : Still W W') : MapC col c P K E W' mb n f := ⟨h.1.kept k (fun f => f), h.2⟩
theorem MapC.grown {col : Nat → Nat} {c : Nat} {P : Program} {K E : TypeId} {W W' : World} {mb n : Nat} {f : Int → Bool} (h : MapC col c P K E W mb n f) (g : W.grownBy W' (some mb)) : Kept (fun x => col x = c) W W' :=
  (Kept.refl _ W).grown g (fun k hk _ => by cases hk; exact h.2)
theorem nodes_at {col : Nat → Nat} {c : Nat} {W : World} {a : Option Addr} {cap : Nat} {e : TypeId} {xs : List Nat} {k x : Nat} (h : Owns col c W e 1 (.slice a xs.length cap) xs.length (ptrs xs)) (hk : xs[k]? = some x) : ∃ g, a = some ⟨g, 0, none⟩ ∧ g < W.heap.size ∧ col g = c ∧ k < xs.length ∧ W.cell? ⟨g, 0 + k, none⟩ = some (.pointer (some ⟨x, 0, none⟩)) := by
  obtain ⟨g, cap', cur, e1, hc, hb, _, _, hi, hcell, _⟩ := owns_one h (i := k) (x := .pointer (some ⟨x, 0, none⟩)) (by unfold ptrs; rw [List.getElem?_map, hk]; rfl)
  simp only [Value.slice.injEq] at e1
  rw [Nat.zero_add]
  exact ⟨g, e1.1, hb.lt, hc, hi, hcell⟩
end Go.Proofs.Ytdpcgemmbpbpoaa
