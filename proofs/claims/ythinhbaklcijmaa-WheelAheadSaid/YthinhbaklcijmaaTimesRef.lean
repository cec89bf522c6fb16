/-
  What stands here: the document's answers on times: the highest level at which two differ, the lowest digits that are 0, a time without its lowest digits; and the last of these by the program. Under the condition that the times are words.
-/
import Derived.Test.YthinhbaklcijmaaTimesDigs
import Derived.Test.YthinhbaklcijmaaTimesHigh
namespace Go.Proofs.Ythinhbaklcijmaa
set_option linter.unusedVariables false
set_option linter.unusedSimpArgs false
open Go.RowKit Go.Proofs
theorem dig_row {Q : Nat → Prop} {w : World} {v : Value} {t : Int} (r : IRow Q w v (dgl t 11)) :
    ∃ b o c, v = .slice (some ⟨b, o, none⟩) 11 c ∧ b < w.heap.size ∧ Q b ∧ ∀ j, j < 11 → w.cell? ⟨b, o + j, none⟩ = some (.int .i64 (dg t j)) := by
  obtain ⟨a, c, rfl⟩ := VRow.len r
  obtain ⟨_, _, h⟩ := r.cells
  obtain ⟨b, o, rfl, hb, hq, hc⟩ := h (by simp [dgl])
  refine ⟨b, o, c, by simp [dgl], hb, hq, fun j hj => ?_⟩
  rw [hc j (by simpa [dgl] using hj), dgl_get t hj]
theorem dg_bd (t : Int) (i : Nat) : 0 ≤ dg t i ∧ dg t i < 64 := by unfold dg; omega
theorem div_step (t : Int) (i : Nat) : t / 64 ^ i = 64 * (t / 64 ^ (i + 1)) + dg t i := by
  rw [z_succ]; unfold dg; omega
theorem div_11 {t : Int} (ht : 0 ≤ t ∧ t < 18446744073709551616) : t / 64 ^ 11 = 0 := by
  exact Int.ediv_eq_zero_of_lt ht.1 (by omega)
theorem div_more (t : Int) (i d : Nat) : t / 64 ^ (i + d) = t / 64 ^ i / 64 ^ d := by
  rw [Int.pow_add, Int.ediv_ediv_of_nonneg (Int.le_of_lt (Int.pow_pos (by omega)))]
theorem div_eq_up {a b : Int} {i j : Nat} (h : a / 64 ^ i = b / 64 ^ i) (hij : i ≤ j) : a / 64 ^ j = b / 64 ^ j := by
  obtain ⟨d, rfl⟩ : ∃ d, j = i + d := ⟨j - i, by omega⟩
  rw [div_more, div_more, h]
theorem apart_found {a b : Int} {k : Nat} (hk : k < 11) (h : a / 64 ^ (k + 1) = b / 64 ^ (k + 1)) (hne : dg a k ≠ dg b k) : ApartIs a b k := by
  refine ⟨by omega, by omega, fun i => ⟨fun e => ?_, fun hi => div_eq_up h (by omega)⟩⟩
  rcases Nat.lt_or_ge k i with hlt | hge
  · omega
  · have e2 := div_eq_up e hge
    unfold dg at hne
    rw [e2] at hne
    exact absurd rfl hne
theorem apart_none {a b : Int} (h : a / 64 ^ 0 = b / 64 ^ 0) : ApartIs a b (-1) := by
  refine ⟨by omega, by omega, fun i => ⟨fun _ => by omega, fun _ => div_eq_up h (by omega)⟩⟩
end Go.Proofs.Ythinhbaklcijmaa
