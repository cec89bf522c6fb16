/-
  What stands here: a time without its lowest digits, by the program and by the document. Under the condition that the time is a word.
-/
import Derived.Test.YthinhbaklcijmaaTimesRef
namespace Go.Proofs.Ythinhbaklcijmaa
set_option linter.unusedVariables false
set_option linter.unusedSimpArgs false
open Go.RowKit Go.Proofs
/-- a time without its lowest l digits -/
def cutV (t : Int) (l : Nat) : Int := t / 64 ^ l * 64 ^ l
/-- what the document has in hand behind the digits from m on -/
def cutTo (t : Int) (l m : Nat) : Int := if l ≤ m then t / 64 ^ m else t / 64 ^ l * 64 ^ (l - m)
theorem cutV_bd {t : Int} (ht : 0 ≤ t ∧ t < 18446744073709551616) (l : Nat) : 0 ≤ cutV t l ∧ cutV t l < 18446744073709551616 := by
  have hp : (0 : Int) < 64 ^ l := Int.pow_pos (by omega)
  unfold cutV
  exact ⟨Int.mul_nonneg (Int.ediv_nonneg ht.1 (by omega)) (by omega), Int.lt_of_le_of_lt (Int.ediv_mul_le _ (by omega)) ht.2⟩
theorem cut_any (t level : Int) (ht : 0 ≤ t ∧ t < 18446744073709551616) (w : World) :
    Calls Try.prog 22 #[.int .u64 t, .int .i64 level] w fun e w' => e = .returned (.int .u64 (cutV t level.toNat)) ∧ Still w w' := by
  by_cases h1 : level < 1
  · have hv : cutV t level.toNat = t := by rw [show level.toNat = 0 by omega]; unfold cutV; simp
    rw [hv]
    go_enter Try.func22, Try.ntmps22
    go_wp2_with fail
    go_ret
    exact ⟨rfl, by (repeat (first | (with_reducible exact Kept.refl _ _) | (with_reducible refine Kept.drewN ?_ _) | (with_reducible refine Kept.drew ?_) | (with_reducible refine Kept.put ?_ _ _) | (with_reducible refine Kept.alloc ?_ _)))⟩
  · by_cases h2 : 11 ≤ level
    · have hv : cutV t level.toNat = 0 := by
        unfold cutV
        rw [show level.toNat = 11 + (level.toNat - 11) by omega, div_more, div_11 ht]; simp
      rw [hv]
      go_enter Try.func22, Try.ntmps22
      go_wp2_with fail
      go_ret
      exact ⟨rfl, by (repeat (first | (with_reducible exact Kept.refl _ _) | (with_reducible refine Kept.drewN ?_ _) | (with_reducible refine Kept.drew ?_) | (with_reducible refine Kept.put ?_ _ _) | (with_reducible refine Kept.alloc ?_ _)))⟩
    · have hz := z_bd ht level.toNat
      go_enter Try.func22, Try.ntmps22
      go_wp2_with fail
      go_ret
      refine ⟨?_, by (repeat (first | (with_reducible exact Kept.refl _ _) | (with_reducible refine Kept.drewN ?_ _) | (with_reducible refine Kept.drew ?_) | (with_reducible refine Kept.put ?_ _ _) | (with_reducible refine Kept.alloc ?_ _)))⟩
      rw [sh6 _ (by omega), IntWalk.u64_in _ (by have := cutV_bd ht level.toNat; unfold cutV at this; omega)]
      rfl
theorem cutTo_bd {t : Int} (ht : 0 ≤ t) (l m : Nat) : 0 ≤ cutTo t l m ∧ cutTo t l m ≤ t / 64 ^ m := by
  unfold cutTo
  have hp : (0 : Int) < 64 ^ m := Int.pow_pos (by omega)
  split
  · exact ⟨Int.ediv_nonneg ht (by omega), Int.le_refl _⟩
  · rename_i h
    obtain ⟨d, rfl⟩ : ∃ d, l = m + d := ⟨l - m, by omega⟩
    have hd : (0 : Int) < 64 ^ d := Int.pow_pos (by omega)
    rw [div_more, show m + d - m = d by omega]
    exact ⟨Int.mul_nonneg (Int.ediv_nonneg (Int.ediv_nonneg ht (by omega)) (by omega)) (by omega), Int.ediv_mul_le _ (by omega)⟩
theorem cutTo_step (t : Int) (l m : Nat) : cutTo t l m = cutTo t l (m + 1) * 64 + (if l ≤ m then dg t m else 0) := by
  unfold cutTo
  rcases Nat.lt_or_ge m l with h | h
  · rw [if_neg (by omega), if_neg (by omega : ¬ l ≤ m)]
    rcases Nat.lt_or_ge (m + 1) l with h2 | h2
    · rw [if_neg (by omega), show l - m = (l - (m + 1)) + 1 by omega, Int.pow_succ, Int.add_zero, Int.mul_assoc]
    · obtain rfl : l = m + 1 := by omega
      rw [if_pos (by omega), show m + 1 - m = 1 by omega]; simp
  · rw [if_pos h, if_pos (by omega), if_pos h, div_step t m]; omega
theorem cutTo_end (t : Int) (l : Nat) : cutTo t l 0 = cutV t l := by
  unfold cutTo cutV
  rcases Nat.eq_zero_or_pos l with rfl | h
  · simp
  · rw [if_neg (by omega), Nat.sub_zero]
theorem cutTo_start {t : Int} (ht : 0 ≤ t ∧ t < 18446744073709551616) (l : Nat) : cutTo t l 11 = 0 := by
  have h := cutTo_bd ht.1 l 11
  rw [div_11 ht] at h
  omega
end Go.Proofs.Ythinhbaklcijmaa
