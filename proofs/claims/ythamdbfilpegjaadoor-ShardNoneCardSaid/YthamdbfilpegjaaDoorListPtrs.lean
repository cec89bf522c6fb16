/-
  What stands here: slices of pointers that are one's own. Under no condition.
-/
import Derived.Test.YthamdbfilpegjaaDoorRow
import Derived.Test.YthamdbfilpegjaaDoorAppend
namespace Go.Proofs.YthamdbfilpegjaaDoor
set_option linter.unusedVariables false
set_option linter.unusedSimpArgs false
open Go.RowKit Go.Proofs
theorem own_lt {w : World} {base : Nat} {e : TypeId} {sz : Nat} {v : Value} {n : Nat} {xs : List Value} (h : w.ownsRow base e sz v n xs) : ∀ g, v.ownBlock = some g → g < w.heap.size := by
  intro g hg
  obtain ⟨_, ⟨rfl, _⟩ | ⟨g', cap, cur, rfl, hb, hgb, _⟩⟩ := h
  · simp [Value.ownBlock] at hg
  · simp only [Value.ownBlock, Option.some.injEq] at hg
    rw [← hg]; exact lt_of_block hgb
def ptrs (xs : List Nat) : List Value := xs.map fun x => .pointer (some ⟨x, 0, none⟩)
theorem ptrs_len (xs : List Nat) : (ptrs xs).length = xs.length := List.length_map ..
theorem owns_kept2 {S : Nat → Prop} {w w' : World} {base : Nat} {e : TypeId} {size : Nat} {v : Value} {n : Nat} {xs : List Value} (h : w.ownsRow base e size v n xs) (k : Kept S w w') (hS : ∀ b, v.ownBlock = some b → ¬ S b) : w'.ownsRow base e size v n xs := by
  obtain ⟨hl, h | ⟨g, cap, cur, rfl, hbg, hgb, hnc, hcm, hcs, htake⟩⟩ := h
  · exact ⟨hl, .inl h⟩
  · exact ⟨hl, .inr ⟨g, cap, cur, rfl, hbg, (k.block g (lt_of_block hgb) (hS g rfl)).trans hgb, hnc, hcm, hcs, htake⟩⟩
end Go.Proofs.YthamdbfilpegjaaDoor
