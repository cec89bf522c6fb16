/-
  What stands here: what of a row is kept, by its places: a plain law. Under no condition.
-/
import Derived.Test.YtdpcgemmbpbpoaaLib
namespace Go.Proofs.Ytdpcgemmbpbpoaa
set_option linter.unusedVariables false
set_option linter.unusedSimpArgs false
open Go.RowKit Go.Proofs

/-- those at whose place p says so; the first place is q -/
def sel {α : Type} (p : Nat → Bool) : Nat → List α → List α
  | _, [] => []
  | q, x :: xs => if p q then x :: sel p (q + 1) xs else sel p (q + 1) xs
theorem sel_map {α β : Type} (f : α → β) (p : Nat → Bool) : ∀ (q : Nat) (xs : List α), (sel p q xs).map f = sel p q (xs.map f)
  | _, [] => rfl
  | q, x :: xs => by
    simp only [sel, List.map_cons]
    split
    · rw [List.map_cons, sel_map f p (q + 1) xs]
    · exact sel_map f p (q + 1) xs
theorem sel_snoc {α : Type} (p : Nat → Bool) (x : α) : ∀ (q : Nat) (xs : List α), sel p q (xs ++ [x]) = sel p q xs ++ (if p (q + xs.length) then [x] else [])
  | q, [] => by simp [sel]
  | q, y :: xs => by
    have ih := sel_snoc p x (q + 1) xs
    have e : q + 1 + xs.length = q + (y :: xs).length := by simp; omega
    rw [e] at ih
    simp only [List.cons_append, sel, ih]
    split <;> simp
theorem sel_congr {α : Type} {p p' : Nat → Bool} : ∀ (q : Nat) (xs : List α), (∀ j, q ≤ j → j < q + xs.length → p j = p' j) → sel p q xs = sel p' q xs
  | _, [], _ => rfl
  | q, x :: xs, h => by
    have e := h q (Nat.le_refl _) (by simp)
    have ih := sel_congr (p := p) (p' := p') (q + 1) xs (fun j h1 h2 => h j (by omega) (by simp; omega))
    simp only [sel, e, ih]
theorem sel_all {α : Type} {p : Nat → Bool} : ∀ (q : Nat) (xs : List α), (∀ j, q ≤ j → j < q + xs.length → p j = true) → sel p q xs = xs
  | _, [], _ => rfl
  | q, x :: xs, h => by
    have e := h q (Nat.le_refl _) (by simp)
    have ih := sel_all (p := p) (q + 1) xs (fun j h1 h2 => h j (by omega) (by simp; omega))
    simp only [sel, e, ih]; rfl
theorem mem_sel {α : Type} {p : Nat → Bool} {x : α} : ∀ {q : Nat} {xs : List α}, x ∈ sel p q xs → x ∈ xs
  | _, [], h => h
  | q, y :: xs, h => by
    simp only [sel] at h
    split at h
    · rcases List.mem_cons.1 h with h | h
      · rw [h]; exact List.mem_cons_self
      · exact List.mem_cons_of_mem _ (mem_sel h)
    · exact List.mem_cons_of_mem _ (mem_sel h)
/-- of a row without doubles: is its k-th one kept? -/
theorem sel_has {α : Type} (p : Nat → Bool) : ∀ (q : Nat) (xs : List α) (k : Nat) (x : α), xs.Nodup → xs[k]? = some x → (x ∈ sel p q xs ↔ p (q + k) = true)
  | _, [], _, _, _, h => by simp at h
  | q, y :: xs, 0, x, hn, h => by
    have e : y = x := by simpa using h
    subst e
    have hy := (List.nodup_cons.1 hn).1
    have hz : y ∉ sel p (q + 1) xs := fun h9 => hy (mem_sel h9)
    simp only [sel, Nat.add_zero]
    split
    · rename_i hp; simp [hp]
    · rename_i hp; simp [hp, hz]
  | q, y :: xs, k + 1, x, hn, h => by
    have hx : xs[k]? = some x := by simpa using h
    have hxm : x ∈ xs := List.mem_of_getElem? hx
    have hne : x ≠ y := fun e => (List.nodup_cons.1 hn).1 (e ▸ hxm)
    have ih := sel_has p (q + 1) xs k x (List.nodup_cons.1 hn).2 hx
    rw [show q + 1 + k = q + (k + 1) by omega] at ih
    rw [← ih]
    simp only [sel]
    split
    · simp [hne]
    · exact Iff.rfl
theorem sel_erase (p : Nat → Bool) : ∀ (q : Nat) (xs : List Nat) (k x : Nat), xs.Nodup → xs[k]? = some x → (sel p q xs).erase x = sel (fun j => if j = q + k then false else p j) q xs
  | _, [], _, _, _, h => by simp at h
  | q, y :: xs, 0, x, hn, h => by
    have e : y = x := by simpa using h
    subst e
    have hy := (List.nodup_cons.1 hn).1
    have hz : y ∉ sel p (q + 1) xs := fun h9 => hy (mem_sel h9)
    have ec : sel (fun j => if j = q then false else p j) (q + 1) xs = sel p (q + 1) xs := sel_congr _ _ fun j h1 h2 => by rw [if_neg (by omega)]
    simp only [sel, Nat.add_zero, if_pos, ec, if_neg (show ¬ (false = true) by simp)]
    split
    · rw [List.erase_cons_head]
    · rw [List.erase_of_not_mem hz]
  | q, y :: xs, k + 1, x, hn, h => by
    have hx : xs[k]? = some x := by simpa using h
    have hxm : x ∈ xs := List.mem_of_getElem? hx
    have hne : y ≠ x := fun e => (List.nodup_cons.1 hn).1 (e ▸ hxm)
    have ih := sel_erase p (q + 1) xs k x (List.nodup_cons.1 hn).2 hx
    rw [show q + 1 + k = q + (k + 1) by omega] at ih
    simp only [sel, if_neg (show ¬ q = q + (k + 1) by omega)]
    rw [← ih]
    split
    · rw [List.erase_cons_tail (by simpa using hne)]
    · rfl
theorem sel_take_succ {α : Type} (p : Nat → Bool) (xs : List α) {k : Nat} (hk : k < xs.length) : sel p 0 (xs.take (k + 1)) = sel p 0 (xs.take k) ++ (if p k then [xs[k]] else []) := by
  rw [List.take_succ_eq_append_getElem hk, sel_snoc, List.length_take, Nat.min_eq_left (by omega), Nat.zero_add]
theorem sel_len {α : Type} (p : Nat → Bool) : ∀ (q : Nat) (xs : List α), (sel p q xs).length ≤ xs.length
  | _, [] => Nat.le_refl _
  | q, x :: xs => by
    have := sel_len p (q + 1) xs
    simp only [sel]
    split <;> simp <;> omega
end Go.Proofs.Ytdpcgemmbpbpoaa
