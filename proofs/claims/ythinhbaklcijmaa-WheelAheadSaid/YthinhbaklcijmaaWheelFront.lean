/-
  What stands here: what is so of an entry that stands at a level: plain laws. Under no condition.
-/
import Derived.Test.YthinhbaklcijmaaWheelOne
import Derived.Test.YthinhbaklcijmaaTimesCuts
namespace Go.Proofs.Ythinhbaklcijmaa
set_option linter.unusedVariables false
set_option linter.unusedSimpArgs false
open Go.RowKit Go.Proofs
theorem plc_lev0 {d n k : Nat} (h : n < d) (e : plc d n = k) (hk : k < 64) : d / 64 = n / 64 ∧ n % 64 < k ∧ d % 64 = k := by
  unfold plc at e
  split at e
  · omega
  · split at e
    · omega
    · split at e
      · omega
      · split at e
        · omega
        · omega
theorem plc_lev1 {d n k : Nat} (h : n < d) (e : plc d n = 64 + k) (hk : k < 64) : d / 64 / 64 = n / 64 / 64 ∧ n / 64 % 64 < k ∧ d / 64 % 64 = k := by
  unfold plc at e
  split at e
  · omega
  · split at e
    · omega
    · split at e
      · omega
      · split at e
        · omega
        · omega
theorem plc_lev2 {d n k : Nat} (h : n < d) (e : plc d n = 128 + k) (hk : k < 64) : d / 64 / 64 / 64 = n / 64 / 64 / 64 ∧ n / 64 / 64 % 64 < k ∧ d / 64 / 64 % 64 = k := by
  unfold plc at e
  split at e
  · omega
  · split at e
    · omega
    · split at e
      · omega
      · split at e
        · omega
        · omega
theorem plc_lev3 {d n k : Nat} (h : n < d) (e : plc d n = 192 + k) (hk : k < 64) : d / 64 / 64 / 64 / 64 = n / 64 / 64 / 64 / 64 ∧ n / 64 / 64 / 64 % 64 < k ∧ d / 64 / 64 / 64 % 64 = k := by
  unfold plc at e
  split at e
  · omega
  · split at e
    · omega
    · split at e
      · omega
      · split at e
        · omega
        · omega
theorem plc_ahead {d n l k : Nat} (h : n < d) (hl : l < 4) (hk : k < 64) (e : plc d n = l * 64 + k) : dg n l < (k : Int) ∧ dg d l = (k : Int) ∧ cutV d (l + 1) = cutV n (l + 1) := by
  unfold cutV dg
  obtain rfl | rfl | rfl | rfl : l = 0 ∨ l = 1 ∨ l = 2 ∨ l = 3 := by omega
  · obtain ⟨h1, h2, h3⟩ := plc_lev0 h (by omega) hk
    rw [show (0 + 1 : Nat) = 1 from rfl, Int.pow_zero, Int.ediv_one, Int.ediv_one, Int.pow_one]
    refine ⟨by omega, by omega, ?_⟩
    have : (d : Int) / 64 = (n : Int) / 64 := by omega
    rw [this]
  · obtain ⟨h1, h2, h3⟩ := plc_lev1 h (by omega) hk
    rw [show (1 + 1 : Nat) = 2 from rfl, Int.pow_one, div_nest2, div_nest2, h1]
    exact ⟨by omega, by omega, rfl⟩
  · obtain ⟨h1, h2, h3⟩ := plc_lev2 h (by omega) hk
    rw [show (2 + 1 : Nat) = 3 from rfl, div_nest2, div_nest2, div_nest3, div_nest3, h1]
    exact ⟨by omega, by omega, rfl⟩
  · obtain ⟨h1, h2, h3⟩ := plc_lev3 h (by omega) hk
    rw [show (3 + 1 : Nat) = 4 from rfl, div_nest3, div_nest3, div_nest4, div_nest4, h1]
    exact ⟨by omega, by omega, rfl⟩
theorem plc_beyond {d n : Nat} {k : Int} (e : plc d n = 256) (h : ApartIs d n k) : 4 ≤ k := by
  have h1 := plc_apart h
  by_cases hk : 4 ≤ max 0 k
  · omega
  · have h2 := h1.2 (by omega)
    have h3 := dg_bd (d : Int) (max 0 k).toNat
    rw [e] at h2
    omega
/-- so many entries stand at the first m places -/
def psm (f : Nat → List Nat) (m : Nat) : Nat := ((List.range m).map fun q => (f q).length).sum
theorem psm_zero (f : Nat → List Nat) : psm f 0 = 0 := rfl
theorem psm_succ (f : Nat → List Nat) (m : Nat) : psm f (m + 1) = psm f m + (f m).length := by
  unfold psm
  rw [List.range_succ, List.map_append, List.sum_append]
  simp
theorem nAll_psm (f : Nat → List Nat) : nAll f = psm f 256 + (f 256).length := by rw [nAll_eq]; exact psm_succ f 256
theorem psm_le (f : Nat → List Nat) {m : Nat} (h : m ≤ 256) : psm f m + (f 256).length ≤ nAll f := by
  rw [nAll_psm]
  have : ∀ d, psm f m ≤ psm f (m + d) := fun d => by
    induction d with
    | zero => exact Nat.le_refl _
    | succ d ih => rw [← Nat.add_assoc, psm_succ]; omega
  have := this (256 - m)
  rw [show m + (256 - m) = 256 by omega] at this
  omega
end Go.Proofs.Ythinhbaklcijmaa
