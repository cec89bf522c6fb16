/-
  What stands here: the slots of a word, rising; the lowest one and the others; plain laws. Under no condition.
-/
import Derived.Test.YthamdbfilpegjaaRow
import Derived.Lib.TrailingZeros
import Derived.Laws.Bits64
import Derived.Laws.Bits64b
namespace Go.Proofs.Ythamdbfilpegjaa
set_option linter.unusedVariables false
set_option linter.unusedSimpArgs false
open Go.RowKit Go.Proofs

def W64 : Nat := 18446744073709551616
/-- the slots of a word -/
def slots (r : Nat) : List Nat := (List.range 64).filter fun i => r.testBit i
theorem mem_slots {r i : Nat} : i ∈ slots r ↔ i < 64 ∧ r.testBit i = true := by simp [slots]
theorem slots_zero : slots 0 = [] := by simp [slots]
theorem slots_sorted (r : Nat) : (slots r).Pairwise (· < ·) := List.Pairwise.filter _ List.pairwise_lt_range
theorem eq_of_sorted {l m : List Nat} (hl : l.Pairwise (· < ·)) (hm : m.Pairwise (· < ·)) (h : ∀ x, x ∈ l ↔ x ∈ m) : l = m := by
  induction l generalizing m with
  | nil =>
    cases m with
    | nil => rfl
    | cons y m => exact absurd ((h y).2 (by simp)) (by simp)
  | cons x l ih =>
    cases m with
    | nil => exact absurd ((h x).1 (by simp)) (by simp)
    | cons y m =>
      rw [List.pairwise_cons] at hl hm
      have hxy : x = y := by
        have h1 := (h x).1 (by simp)
        have h2 := (h y).2 (by simp)
        simp only [List.mem_cons] at h1 h2
        rcases h1 with h1 | h1
        · exact h1
        · rcases h2 with h2 | h2
          · exact h2.symm
          · have := hm.1 x h1; have := hl.1 y h2; omega
      subst hxy
      congr 1
      refine ih hl.2 hm.2 fun z => ?_
      constructor
      · intro hz
        have h1 := (h z).1 (by simp [hz])
        simp only [List.mem_cons] at h1
        rcases h1 with rfl | h1
        · exact absurd (hl.1 z hz) (by omega)
        · exact h1
      · intro hz
        have h1 := (h z).2 (by simp [hz])
        simp only [List.mem_cons] at h1
        rcases h1 with rfl | h1
        · exact absurd (hm.1 z hz) (by omega)
        · exact h1
/-- the lowest bit's place, and the word without it -/
theorem low_bits {r : Nat} (h0 : r ≠ 0) (h : r < 18446744073709551616) : Lib.ctz 64 r < 64 ∧ ∀ i, (r &&& (r - 1)).testBit i = (r.testBit i && decide (i ≠ Lib.ctz 64 r)) ∧ (i < Lib.ctz 64 r → r.testBit i = false) ∧ r.testBit (Lib.ctz 64 r) = true := by
  obtain ⟨m, hm, hk⟩ := Lib.ctzFrom_spec 64 r (by omega) (by simpa using h)
  have e : Lib.ctz 64 r = Lib.ctzFrom 64 r := by simp [Lib.ctz, h0]
  rw [e]
  generalize Lib.ctzFrom 64 r = k at *
  have hb : ∀ i, r.testBit i = (decide (k ≤ i) && (2 * m + 1).testBit (i - k)) := fun i => by rw [hm, Nat.mul_comm, Nat.testBit_mul_two_pow]
  have hp : 0 < 2 ^ k := Nat.two_pow_pos k
  have hb1 : ∀ i, (r - 1).testBit i = if i < k then (2 ^ k - 1).testBit i else (2 * m).testBit (i - k) := fun i => by
    rw [show r - 1 = 2 ^ k * (2 * m) + (2 ^ k - 1) by rw [hm, Nat.mul_add]; omega]
    exact Nat.testBit_two_pow_mul_add _ (by omega) i
  refine ⟨hk, fun i => ⟨?_, fun hi => ?_, ?_⟩⟩
  · rw [Nat.testBit_and, hb1, hb]
    by_cases h1 : i < k
    · rw [if_pos h1]; simp [show ¬ k ≤ i by omega]
    · rw [if_neg h1]
      by_cases h2 : i = k
      · subst h2; simp [Nat.testBit_zero]
      · obtain ⟨j, rfl⟩ : ∃ j, i = k + (j + 1) := ⟨i - k - 1, by omega⟩
        rw [show k + (j + 1) - k = j + 1 by omega, Nat.testBit_succ, Nat.testBit_succ]
        simp [show (2 * m + 1) / 2 = m by omega]
  · rw [hb]; simp [show ¬ k ≤ i by omega]
  · rw [hb]; simp [Nat.testBit_zero]
theorem slots_cons {r : Nat} (h0 : r ≠ 0) (h : r < 18446744073709551616) : slots r = Lib.ctz 64 r :: slots (r &&& (r - 1)) := by
  obtain ⟨hk, hb⟩ := low_bits h0 h
  refine eq_of_sorted (slots_sorted _) ?_ fun x => ?_
  · rw [List.pairwise_cons]
    refine ⟨fun y hy => ?_, slots_sorted _⟩
    obtain ⟨h1, h2⟩ := mem_slots.1 hy
    rw [(hb y).1] at h2
    simp only [Bool.and_eq_true, decide_eq_true_eq] at h2
    rcases Nat.lt_trichotomy (Lib.ctz 64 r) y with h3 | h3 | h3
    · exact h3
    · exact absurd h3.symm h2.2
    · rw [(hb y).2.1 h3] at h2; simp at h2
  · rw [List.mem_cons, mem_slots, mem_slots, (hb x).1]
    simp only [Bool.and_eq_true, decide_eq_true_eq]
    constructor
    · rintro ⟨h1, h2⟩
      by_cases e : x = Lib.ctz 64 r
      · exact .inl e
      · exact .inr ⟨h1, h2, e⟩
    · rintro (rfl | ⟨h1, h2, _⟩)
      · exact ⟨hk, (hb 0).2.2⟩
      · exact ⟨h1, h2⟩
theorem and_pred_lt {r : Nat} (h : r < 18446744073709551616) : r &&& (r - 1) < 18446744073709551616 := Nat.lt_of_le_of_lt Nat.and_le_left h
/-- the first slot from s on; -1: none -/
def fromL (l : List Nat) (s : Int) : Int := match l.find? (fun i : Nat => decide (s ≤ (i : Int))) with
  | some i => i
  | none => -1
end Go.Proofs.Ythamdbfilpegjaa
