/-
  What stands here: what a crew keeps, as plain lists. Under no condition.
-/
import Derived.Test.YtbikganlloopbaaCrewPlain
namespace Go.Proofs.Ytbikganlloopbaa
set_option linter.unusedVariables false
set_option linter.unusedSimpArgs false
open Go.RowKit Go.Proofs
def CSt.all (s : CSt) (n : Nat) : List FiringV := s.xs ++ s.logs ++ held n s.hs
def nums (k : Nat) : List Int := (List.range k).map fun (i : Nat) => (i : Int) + 1
theorem all_step {n i : Nat} (s : CSt) (hi : i < n) : ((s.step i).all n).Perm (s.all n) := by
  unfold CSt.all CSt.step
  cases hh : s.hs i with
  | some x =>
    simp only
    have h1 : (s.xs ++ (s.logs ++ [x]) ++ held n (upd s.hs i none)) = (s.xs ++ s.logs) ++ (x :: held n (upd s.hs i none)) := by simp
    rw [h1]
    exact (held_none hi hh).symm.append_left _
  | none =>
    cases hx : s.xs with
    | nil => simp only [hx]; exact List.Perm.refl _
    | cons x rest =>
      simp only
      refine ((held_some x hi hh).append_left _).trans ?_
      show (rest ++ s.logs ++ x :: held n s.hs).Perm (x :: (rest ++ s.logs ++ held n s.hs))
      exact List.perm_middle
theorem all_put {n : Nat} (s : CSt) (x : FiringV) : ((s.put x).all n).Perm (s.all n ++ [x]) := by
  unfold CSt.all CSt.put
  show (s.xs ++ [x] ++ s.logs ++ held n s.hs).Perm (s.xs ++ s.logs ++ held n s.hs ++ [x])
  have h1 : s.xs ++ [x] ++ s.logs ++ held n s.hs = s.xs ++ x :: (s.logs ++ held n s.hs) := by simp
  have h2 : s.xs ++ s.logs ++ held n s.hs ++ [x] = (s.xs ++ (s.logs ++ held n s.hs)) ++ [x] := by simp
  rw [h1, h2]
  exact List.perm_middle.trans (List.perm_append_singleton _ _).symm
/-- each number up to put is the number of just one firing -/
structure Keeps (n put : Nat) (s : CSt) : Prop where
  perm : ((s.all n).map FiringV.id).Perm (nums put)
  fits : Fits n put s
theorem Keeps.step {n put i : Nat} {s : CSt} (h : Keeps n put s) (hi : i < n) : Keeps n put (s.step i) := ⟨((all_step s hi).map _).trans h.perm, h.fits.step hi⟩
theorem nums_succ (k : Nat) : nums (k + 1) = nums k ++ [(k : Int) + 1] := by unfold nums; rw [List.range_succ, List.map_append]; rfl
theorem Keeps.put {n put : Nat} {s : CSt} (h : Keeps n put s) {x : FiringV} (hx : x.id = (put : Int) + 1) : Keeps n (put + 1) (s.put x) := by
  refine ⟨((all_put s x).map _).trans ?_, h.fits.put x⟩
  rw [List.map_append, nums_succ, List.map_singleton, hx]
  exact h.perm.append_right _
/-- the last steps: behind k of them -/
structure Last (n k : Nat) (s : CSt) : Prop where
  more : s.xs ≠ [] → 2 * s.xs.length + (held n s.hs).length + k ≤ 100
  none_ : s.xs = [] → ∃ k0, k0 ≤ 101 ∧ ∀ j, k0 ≤ j → j < k → s.hs (j % n) = none
theorem Last.start {n put : Nat} {s : CSt} (h : Keeps n put s) (hp : put ≤ 50) : Last n 0 s := ⟨fun _ => by have := h.fits.cnt; omega, fun _ => ⟨0, by omega, fun j _ hj => by omega⟩⟩
theorem Last.step {n k : Nat} {s : CSt} (h : Last n k s) (hn : 0 < n) : Last n (k + 1) (s.step (k % n)) := by
  have hi : k % n < n := Nat.mod_lt _ hn
  unfold CSt.step
  cases hh : s.hs (k % n) with
  | some x =>
    simp only
    have hp := (held_none hi hh).length_eq
    simp only [List.length_cons] at hp
    refine ⟨fun hne => ?_, fun he => ?_⟩
    · have := h.more hne
      show 2 * s.xs.length + (held n (upd s.hs (k % n) none)).length + (k + 1) ≤ 100
      omega
    · obtain ⟨k0, h1, h2⟩ := h.none_ he
      refine ⟨k0, h1, fun j hj hjk => ?_⟩
      show upd s.hs (k % n) none (j % n) = none
      by_cases hjn : j % n = k % n
      · rw [hjn, upd_same]
      · rw [upd_ne _ _ hjn]
        exact h2 j hj (by
          rcases Nat.lt_or_ge j k with h9 | h9
          · exact h9
          · exfalso; exact hjn (by rw [show j = k by omega]))
  | none =>
    cases hx : s.xs with
    | nil =>
      simp only
      refine ⟨fun hne => absurd hx hne, fun _ => ?_⟩
      obtain ⟨k0, h1, h2⟩ := h.none_ hx
      refine ⟨k0, h1, fun j hj hjk => ?_⟩
      rcases Nat.lt_or_ge j k with h9 | h9
      · exact h2 j hj h9
      · rw [show j = k by omega]; exact hh
    | cons x rest =>
      simp only
      have hp := (held_some x hi hh).length_eq
      simp only [List.length_cons] at hp
      have hm := h.more (by rw [hx]; simp)
      rw [hx, List.length_cons] at hm
      refine ⟨fun _ => ?_, fun _ => ⟨k + 1, by omega, fun j hj hjk => by omega⟩⟩
      show 2 * rest.length + (held n (upd s.hs (k % n) (some x))).length + (k + 1) ≤ 100
      omega
theorem Last.done {n : Nat} {s : CSt} (h : Last n 200 s) (hn : 0 < n) (hn4 : n ≤ 4) : s.xs = [] ∧ ∀ i, i < n → s.hs i = none := by
  have hx : s.xs = [] := by
    cases hx : s.xs with
    | nil => rfl
    | cons x r => have := h.more (by rw [hx]; simp); omega
  refine ⟨hx, fun i hi => ?_⟩
  obtain ⟨k0, h1, h2⟩ := h.none_ hx
  have h3 := Nat.div_add_mod k0 n
  have h4 := Nat.mod_lt k0 hn
  have h5 := h2 (n * (k0 / n + 1) + i) (by rw [Nat.mul_add, Nat.mul_one]; omega) (by rw [Nat.mul_add, Nat.mul_one]; omega)
  rwa [Nat.mul_add_mod, Nat.mod_eq_of_lt hi] at h5
theorem held_nil {n : Nat} {hs : Nat → Option FiringV} (h : ∀ i, i < n → hs i = none) : held n hs = [] := by
  induction n with
  | zero => rfl
  | succ n ih => rw [held_succ, ih (fun i hi => h i (by omega)), h n (by omega)]; rfl
theorem nums_len (k : Nat) : (nums k).length = k := by unfold nums; simp
theorem Keeps.len {n put : Nat} {s : CSt} (h : Keeps n put s) : (s.all n).length = put := by
  have := h.perm.length_eq
  rw [nums_len, List.length_map] at this
  exact this
theorem mem_nums {k : Nat} {z : Int} : z ∈ nums k ↔ 1 ≤ z ∧ z ≤ k := by
  unfold nums
  simp only [List.mem_map, List.mem_range]
  constructor
  · rintro ⟨i, hi, rfl⟩; omega
  · rintro ⟨h1, h2⟩; exact ⟨(z - 1).toNat, by omega, by omega⟩
theorem nums_nodup (k : Nat) : (nums k).Nodup := by
  unfold nums List.Nodup
  rw [List.pairwise_map]
  exact List.Pairwise.imp (fun h e => h (by omega)) (List.nodup_range (n := k))
/-- how often a number is met -/
theorem Keeps.once {n put : Nat} {s : CSt} (h : Keeps n put s) {z : Int} (h1 : 1 ≤ z) (h2 : z ≤ put) : ((s.all n).map FiringV.id).count z = 1 := by
  rw [h.perm.count_eq]
  rw [(nums_nodup put).count, if_pos (mem_nums.2 ⟨h1, h2⟩)]
end Go.Proofs.Ytbikganlloopbaa
