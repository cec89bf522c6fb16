/-
  What stands here: the walk of TimesDigits. Under no condition but that its arguments fit their types.
-/
import Derived.Test.YtjnjjhhkjackoaaTimesAlive
namespace Go.Proofs.Ytjnjjhhkjackoaa
set_option linter.unusedVariables false
set_option linter.unusedSimpArgs false
open Go.RowKit Go.Proofs

set_option maxHeartbeats 1000000 in
theorem timesDigits_walk (a0 : Int) (a1 : Int) (w : World) (w0 : (Lit.int .u64 a0).wf = true) (w1 : (Lit.int .i64 a1).wf = true) :
    Calls Try.prog 6 #[.int .u64 a0, .int .i64 a1] w fun e w' => e = .returned (.bool true) ∧ Below w.heap.size w w' := by
  have h0 := bd_u64 w0
  have h1 := bd_i64 w1
  clear w0 w1
  have hd := digit_any a0 a1 h0
  by_cases h : 0 ≤ a1 ∧ a1 < 11
  · rw [if_pos h] at hd
    obtain ⟨n, rfl⟩ : ∃ n : Nat, a1 = n := Int.eq_ofNat_of_zero_le h.1
    rw [Int.toNat_natCast] at hd
    have hn : n < 11 := by omega
    go_enter Try.func6, Try.ntmps6
    go_wp2_with fail
    refine (alive_any _).mono ?_
    rintro e w1 ⟨rfl, b1⟩
    go_wp2_with fail
    refine (refdigits_any a0 h0 _).mono ?_
    rintro e w2 ⟨⟨v2, rfl, r2⟩, b2⟩
    have R2 := Lib.hid r2
    obtain ⟨bb, o, c, rfl, hb, _, g⟩ := dig_row r2
    have q := g n hn
    clear g r2
    go_wp2_with fail
    refine (digits_any a0 h0 _).mono ?_
    rintro e w3 ⟨⟨v3, rfl, r3⟩, b3⟩
    go_wp2_with fail
    refine (ints_any _ _ (dgl a0 11) (dgl a0 11) _ _ _ r3 (VRow.below R2.out b3)).mono ?_
    rintro e w4 ⟨rfl, k4⟩
    go_wp2_with fail
    refine (hd _).mono ?_
    rintro e w5 ⟨rfl, k5⟩
    go_wp2_with fail
    go_ret
    exact ⟨rfl, below_still ((b1.trans (b2.mono b1.size)).trans (b3.mono (Nat.le_trans b1.size b2.size))) (k4.trans k5) (Nat.le_refl _)⟩
  · rw [if_neg h] at hd
    have hf : 0 ≤ a1 → decide (a1 < 11) = false := fun h2 => by rw [decide_eq_false_iff_not]; omega
    by_cases hg : 0 ≤ a1
    all_goals
      go_enter Try.func6, Try.ntmps6
      go_wp2_with fail
      refine (alive_any _).mono ?_
      rintro e w1 ⟨rfl, b1⟩
      go_wp2_with fail
      refine (refdigits_any a0 h0 _).mono ?_
      rintro e w2 ⟨⟨v2, rfl, r2⟩, b2⟩
      go_wp2_with fail
      refine (digits_any a0 h0 _).mono ?_
      rintro e w3 ⟨⟨v3, rfl, r3⟩, b3⟩
      go_wp2_with fail
      refine (ints_any _ _ (dgl a0 11) (dgl a0 11) _ _ _ r3 (VRow.below r2 b3)).mono ?_
      rintro e w4 ⟨rfl, k4⟩
      go_wp2_with fail
      refine (hd _).mono ?_
      rintro e w5 ⟨rfl, k5⟩
      go_wp2_with fail
      go_ret
      exact ⟨rfl, below_still ((b1.trans (b2.mono b1.size)).trans (b3.mono (Nat.le_trans b1.size b2.size))) (k4.trans k5) (Nat.le_refl _)⟩

end Go.Proofs.Ytjnjjhhkjackoaa
