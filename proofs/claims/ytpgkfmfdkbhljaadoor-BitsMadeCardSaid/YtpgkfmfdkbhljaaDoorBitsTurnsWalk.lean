/-
  What stands here: the walk of BitsTurns. Under the condition that the library's table is as its initialiser lays it.
-/
import Derived.Test.YtpgkfmfdkbhljaaDoorBitsAlive
namespace Go.Proofs.YtpgkfmfdkbhljaaDoor
set_option linter.unusedVariables false
set_option linter.unusedSimpArgs false
open Go.RowKit Go.Proofs

theorem eq_of_bits {a b : Nat} (ha : a < 18446744073709551616) (hb : b < 18446744073709551616) (h : ∀ i, i < 64 → a.testBit i = b.testBit i) : a = b := by
  apply Nat.eq_of_testBit_eq
  intro i
  by_cases hi : i < 64
  · exact h i hi
  · have hp : 2 ^ 64 ≤ 2 ^ i := Nat.pow_le_pow_right (show 2 > 0 by omega) (by omega)
    rw [Nat.testBit_lt_two_pow (by omega), Nat.testBit_lt_two_pow (by omega)]
theorem turns_out {m : Nat} (hm : m < 18446744073709551616) {s : Int} (hs : s < 0 ∨ 63 < s) : withN m s = m ∧ woN m s = m ∧ hasB m s = false := by
  refine ⟨eq_of_bits (withN_lt s hm) hm fun i hi => ?_, eq_of_bits (woN_lt s hm) hm fun i hi => ?_, ?_⟩
  · rw [withN_test, show decide (0 ≤ s ∧ s < 64 ∧ (i : Int) = s) = false by simp; omega, Bool.or_false]
  · rw [woN_test _ _ _ hi, show decide (0 ≤ s ∧ s < 64 ∧ (i : Int) = s) = false by simp; omega]; simp
  · unfold hasB; rw [show decide (0 ≤ s ∧ s < 64) = false by simp; omega, Bool.false_and]
theorem turns_in {m : Nat} (hm : m < 18446744073709551616) {s : Int} (h0 : 0 ≤ s) (h1 : s < 64) :
    hasB (withN m s) s = true ∧ hasB (woN m s) s = false ∧ woN (withN m s) s = woN m s ∧ withN (woN m s) s = withN m s ∧ ∀ o, o ≠ s → hasB (withN m s) o = hasB m o ∧ hasB (woN m s) o = hasB m o := by
  have hd : decide (0 ≤ s ∧ s < 64) = true := by simp; omega
  refine ⟨?_, ?_, ?_, ?_, fun o ho => ?_⟩
  · unfold hasB; rw [hd, withN_test]; simp; omega
  · unfold hasB; rw [hd, woN_test _ _ _ (by omega)]; simp; omega
  · refine eq_of_bits (woN_lt s (withN_lt s hm)) (woN_lt s hm) fun i hi => ?_
    rw [woN_test _ _ _ hi, woN_test _ _ _ hi, withN_test]
    cases m.testBit i <;> simp
  · refine eq_of_bits (withN_lt s (woN_lt s hm)) (withN_lt s hm) fun i hi => ?_
    rw [withN_test, withN_test, woN_test _ _ _ hi]
    cases m.testBit i <;> simp
    omega
  · unfold hasB
    by_cases hr : 0 ≤ o ∧ o < 64
    · rw [withN_test, woN_test _ _ _ (by omega), show decide (0 ≤ s ∧ s < 64 ∧ ((o.toNat : Nat) : Int) = s) = false by simp; omega]
      simp
    · rw [show decide (0 ≤ o ∧ o < 64) = false by simp; omega]; simp

set_option maxHeartbeats 1000000 in
theorem bitsTurns_walk (a0 : Int) (a1 : Int) (a2 : Int) (w : World) (w0 : (Lit.int .u64 a0).wf = true) (w1 : (Lit.int .i64 a1).wf = true) (w2 : (Lit.int .i64 a2).wf = true) (hT : Tab w) :
    Calls Tryd.prog 4 #[.int .u64 a0, .int .i64 a1, .int .i64 a2] w fun e w' => e = .returned (.bool true) ∧ Below w.heap.size w w' := by
  have hb := bd_u64 w0
  obtain ⟨m, rfl⟩ : ∃ m : Nat, a0 = m := ⟨a0.toNat, by omega⟩
  have hm : m < 18446744073709551616 := by omega
  clear w0 w1 w2 hb
  have h1 := with_any m hm a1
  have h2 := without_any m hm a1
  by_cases hs : a1 < 0 ∨ 63 < a1
  · obtain ⟨e1, e2, e3⟩ := turns_out hm hs
    have h3 := has_any m hm a1
    rw [e1] at h1
    rw [e2] at h2
    rw [e3] at h3
    clear e1 e2 e3
    rcases hs with hs | hs
    · go_enter Tryd.func4, Tryd.ntmps4
      go_wp2_with fail
      refine (alive_any w hT).mono ?_
      rintro e w1 ⟨rfl, k1⟩
      go_wp2_with fail
      refine (h1 w1).mono ?_
      rintro e w1 ⟨rfl, rfl⟩
      go_wp2_with fail
      refine (h2 w1).mono ?_
      rintro e w1 ⟨rfl, rfl⟩
      go_wp2_with fail
      refine (h3 w1).mono ?_
      rintro e w1 ⟨rfl, rfl⟩
      go_wp2_with fail
      go_ret
      exact ⟨rfl, k1⟩
    · have hs' : ¬ a1 < 0 := by omega
      go_enter Tryd.func4, Tryd.ntmps4
      go_wp2_with fail
      refine (alive_any w hT).mono ?_
      rintro e w1 ⟨rfl, k1⟩
      go_wp2_with fail
      refine (h1 w1).mono ?_
      rintro e w1 ⟨rfl, rfl⟩
      go_wp2_with fail
      refine (h2 w1).mono ?_
      rintro e w1 ⟨rfl, rfl⟩
      go_wp2_with fail
      refine (h3 w1).mono ?_
      rintro e w1 ⟨rfl, rfl⟩
      go_wp2_with fail
      go_ret
      exact ⟨rfl, k1⟩
  · obtain ⟨e1, e2, e3, e4, e5⟩ := turns_in hm (s := a1) (by omega) (by omega)
    have h3 := has_any (withN m a1) (withN_lt a1 hm) a1
    have h4 := has_any (woN m a1) (woN_lt a1 hm) a1
    have h5 := without_any (withN m a1) (withN_lt a1 hm) a1
    have h6 := with_any (woN m a1) (woN_lt a1 hm) a1
    have h7 := has_any (withN m a1) (withN_lt a1 hm) a2
    have h8 := has_any (woN m a1) (woN_lt a1 hm) a2
    have h9 := has_any m hm a2
    rw [e1] at h3
    rw [e2] at h4
    rw [e3] at h5
    rw [e4] at h6
    have hs1 : ¬ a1 < 0 := by omega
    have hs2 : ¬ 63 < a1 := by omega
    have HE := Lib.hid e5
    clear e1 e2 e3 e4 e5 hs
    obtain ⟨A, hA⟩ : ∃ A, A = withN m a1 := ⟨_, rfl⟩
    obtain ⟨B, hB⟩ : ∃ B, B = woN m a1 := ⟨_, rfl⟩
    rw [← hA] at h1 h3 h5 h6 h7 HE
    rw [← hB] at h2 h4 h5 h6 h8 HE
    clear hA hB
    by_cases ho : a2 = a1
    · go_enter Tryd.func4, Tryd.ntmps4
      go_wp2_with fail
      refine (alive_any w hT).mono ?_
      rintro e w1 ⟨rfl, k1⟩
      go_wp2_with fail
      refine (h1 w1).mono ?_
      rintro e w1 ⟨rfl, rfl⟩
      go_wp2_with fail
      refine (h2 w1).mono ?_
      rintro e w1 ⟨rfl, rfl⟩
      go_wp2_with fail
      refine (h3 w1).mono ?_
      rintro e w1 ⟨rfl, rfl⟩
      go_wp2_with fail
      refine (h4 w1).mono ?_
      rintro e w1 ⟨rfl, rfl⟩
      go_wp2_with fail
      refine (h5 w1).mono ?_
      rintro e w1 ⟨rfl, rfl⟩
      go_wp2_with fail
      refine (h6 w1).mono ?_
      rintro e w1 ⟨rfl, rfl⟩
      go_wp2_with fail
      go_ret
      exact ⟨rfl, k1⟩
    · obtain ⟨e7, e8⟩ := HE.out a2 ho
      rw [e7] at h7
      rw [e8] at h8
      clear e7 e8 HE
      obtain ⟨x, hx⟩ : ∃ x, x = hasB m a2 := ⟨_, rfl⟩
      rw [← hx] at h7 h8 h9
      clear hx
      go_enter Tryd.func4, Tryd.ntmps4
      go_wp2_with fail
      refine (alive_any w hT).mono ?_
      rintro e w1 ⟨rfl, k1⟩
      go_wp2_with fail
      refine (h1 w1).mono ?_
      rintro e w1 ⟨rfl, rfl⟩
      go_wp2_with fail
      refine (h2 w1).mono ?_
      rintro e w1 ⟨rfl, rfl⟩
      go_wp2_with fail
      refine (h3 w1).mono ?_
      rintro e w1 ⟨rfl, rfl⟩
      go_wp2_with fail
      refine (h4 w1).mono ?_
      rintro e w1 ⟨rfl, rfl⟩
      go_wp2_with fail
      refine (h5 w1).mono ?_
      rintro e w1 ⟨rfl, rfl⟩
      go_wp2_with fail
      refine (h6 w1).mono ?_
      rintro e w1 ⟨rfl, rfl⟩
      go_wp2_with fail
      refine (h7 w1).mono ?_
      rintro e w1 ⟨rfl, rfl⟩
      go_wp2_with fail
      refine (h9 w1).mono ?_
      rintro e w1 ⟨rfl, rfl⟩
      go_wp2_with fail
      refine (h8 w1).mono ?_
      rintro e w1 ⟨rfl, rfl⟩
      go_wp2_with fail
      refine (h9 w1).mono ?_
      rintro e w1 ⟨rfl, rfl⟩
      go_wp2_with fail
      go_ret
      exact ⟨rfl, k1⟩
end Go.Proofs.YtpgkfmfdkbhljaaDoor
