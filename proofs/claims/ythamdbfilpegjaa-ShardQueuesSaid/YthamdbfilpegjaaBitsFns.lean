/-
  What stands here: a slot's bit; whether a word has it; the word with it and without it, by the program; the document's slots. Under the condition that the word is one.
-/
import Derived.Test.YthamdbfilpegjaaBitsMath
namespace Go.Proofs.Ythamdbfilpegjaa
set_option linter.unusedVariables false
set_option linter.unusedSimpArgs false
open Go.RowKit Go.Proofs

/-- a slot's bit -/
def bitN (s : Int) : Nat := if 0 ≤ s ∧ s < 64 then 2 ^ s.toNat else 0
theorem bitN_lt (s : Int) : bitN s < 18446744073709551616 := by
  unfold bitN
  split
  · rename_i h
    exact Nat.lt_of_lt_of_le (Nat.pow_lt_pow_right (by omega) (show s.toNat < 64 by omega)) (by decide)
  · omega
theorem bitN_test (s : Int) (i : Nat) : (bitN s).testBit i = decide (0 ≤ s ∧ s < 64 ∧ (i : Int) = s) := by
  unfold bitN
  split
  · rename_i h
    rw [Nat.testBit_two_pow]
    by_cases e : (i : Int) = s
    · simp [h, e]; omega
    · simp [h, e]; omega
  · rename_i h
    simp; omega
theorem bit_any (s : Int) (w : World) : Calls Try.prog 74 #[.int .i64 s] w fun e w' => e = .returned (.int .u64 (bitN s)) ∧ w = w' := by
  have hlt := bitN_lt s
  unfold bitN at *
  by_cases h0 : s < 0
  · rw [if_neg (by omega)]
    go_enter Try.func74, Try.ntmps74
    go_wp2
    go_ret
    exact ⟨rfl, rfl⟩
  · by_cases h1 : 64 ≤ s
    · rw [if_neg (by omega)]
      go_enter Try.func74, Try.ntmps74
      go_wp2
      go_ret
      exact ⟨rfl, rfl⟩
    · rw [if_pos (by omega)] at *
      have hw : IntKind.u64.wrap ((2 : Int) ^ s.toNat) = ((2 ^ s.toNat : Nat) : Int) := by
        rw [IntKind.wrap_u64, show ((2 : Int) ^ s.toNat) = ((2 ^ s.toNat : Nat) : Int) by simp]
        generalize 2 ^ s.toNat = p at *
        omega
      have HW := Lib.hid hw
      clear hw hlt
      go_enter Try.func74, Try.ntmps74
      go_wp2
      go_ret
      exact ⟨ret_int HW.out, rfl⟩

/-- has a word a slot? -/
def hasB (m : Nat) (s : Int) : Bool := decide (0 ≤ s ∧ s < 64) && m.testBit s.toNat
def withN (m : Nat) (s : Int) : Nat := m ||| bitN s
def woN (m : Nat) (s : Int) : Nat := m &&& (18446744073709551615 - bitN s)
theorem withN_lt {m : Nat} (s : Int) (h : m < 18446744073709551616) : withN m s < 18446744073709551616 := Nat.or_lt_two_pow (n := 64) h (bitN_lt s)
theorem woN_lt {m : Nat} (s : Int) (h : m < 18446744073709551616) : woN m s < 18446744073709551616 := Nat.lt_of_le_of_lt Nat.and_le_left h
theorem withN_test (m : Nat) (s : Int) (i : Nat) : (withN m s).testBit i = (m.testBit i || decide (0 ≤ s ∧ s < 64 ∧ (i : Int) = s)) := by rw [withN, Nat.testBit_or, bitN_test]
theorem woN_test (m : Nat) (s : Int) (i : Nat) (hi : i < 64) : (woN m s).testBit i = (m.testBit i && !decide (0 ≤ s ∧ s < 64 ∧ (i : Int) = s)) := by
  rw [woN, Nat.testBit_and, show 18446744073709551615 - bitN s = 2 ^ 64 - (bitN s + 1) by have := bitN_lt s; omega, Nat.testBit_two_pow_sub_succ (bitN_lt s), bitN_test]
  simp [hi]
theorem and_bit (m : Nat) (s : Int) : (m &&& bitN s ≠ 0) ↔ hasB m s = true := by
  unfold hasB
  constructor
  · intro h
    obtain ⟨i, hi⟩ := Nat.exists_testBit_of_ne_zero h
    rw [Nat.testBit_and, bitN_test] at hi
    simp only [Bool.and_eq_true, decide_eq_true_eq] at hi ⊢
    obtain ⟨h1, h2, h3, h4⟩ := hi
    exact ⟨⟨h2, h3⟩, by rw [show s.toNat = i by omega]; exact h1⟩
  · intro h e
    simp only [Bool.and_eq_true, decide_eq_true_eq] at h
    have := congrArg (fun x => x.testBit s.toNat) e
    simp only [Nat.testBit_and, bitN_test, h.2, Nat.zero_testBit, Bool.true_and, decide_eq_false_iff_not] at this
    exact this ⟨h.1.1, h.1.2, by omega⟩
theorem bits_andNot_u64_nat (a b : Nat) (ha : a < 18446744073709551616) (hb : b < 18446744073709551616) : bits .andNot .u64 (a : Int) (b : Int) = ((a &&& (18446744073709551615 - b) : Nat) : Int) := by
  have h1 : (BitVec.ofInt 64 (a : Int)).toNat = a := by rw [BitVec.ofInt_natCast, BitVec.toNat_ofNat]; exact Nat.mod_eq_of_lt (by omega)
  have h2 : (BitVec.ofInt 64 (b : Int)).toNat = b := by rw [BitVec.ofInt_natCast, BitVec.toNat_ofNat]; exact Nat.mod_eq_of_lt (by omega)
  have hx : a &&& (18446744073709551615 - b) < 18446744073709551616 := Nat.lt_of_le_of_lt Nat.and_le_left ha
  show IntKind.u64.wrap ((BitVec.ofInt 64 (a : Int) &&& ~~~ BitVec.ofInt 64 (b : Int)).toNat : Int) = _
  rw [BitVec.toNat_and, BitVec.toNat_not, h1, h2, IntKind.wrap_u64]
  simp only [Nat.reducePow, Nat.reduceSub]
  omega
theorem with_any (m : Nat) (hm : m < 18446744073709551616) (s : Int) (w : World) : Calls Try.prog 68 #[.int .u64 m, .int .i64 s] w fun e w' => e = .returned (.int .u64 (withN m s)) ∧ w = w' := by
  have ha := bits_or_u64_nat m (bitN s) hm (bitN_lt s)
  go_enter Try.func68, Try.ntmps68
  go_wp2_with fail
  refine (bit_any s w).mono ?_
  rintro e w1 ⟨rfl, rfl⟩
  go_wp2_with fail
  go_ret
  exact ⟨rfl, rfl⟩
theorem without_any (m : Nat) (hm : m < 18446744073709551616) (s : Int) (w : World) : Calls Try.prog 73 #[.int .u64 m, .int .i64 s] w fun e w' => e = .returned (.int .u64 (woN m s)) ∧ w = w' := by
  have ha := bits_andNot_u64_nat m (bitN s) hm (bitN_lt s)
  go_enter Try.func73, Try.ntmps73
  go_wp2_with fail
  refine (bit_any s w).mono ?_
  rintro e w1 ⟨rfl, rfl⟩
  go_wp2_with fail
  go_ret
  exact ⟨rfl, rfl⟩
end Go.Proofs.Ythamdbfilpegjaa
