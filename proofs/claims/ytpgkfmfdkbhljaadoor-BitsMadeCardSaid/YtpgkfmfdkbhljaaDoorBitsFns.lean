/-
  What stands here: a slot's bit; whether a word has it; the word with it and without it, by the program; the document's slots. Under the condition that the word is one.
-/
import Derived.Test.YtpgkfmfdkbhljaaDoorBitsMath
namespace Go.Proofs.YtpgkfmfdkbhljaaDoor
set_option linter.unusedVariables false
set_option linter.unusedSimpArgs false
open Go.RowKit Go.Proofs

/-- a slot's bit -/
def bitN (s : Int) : Nat := if 0 ≤ s ∧ s < 64 then 2 ^ s.toNat else 0
theorem bitN_lt (s : Int) : bitN s < 18446744073709551616 := by
  unfold bitN
  split
  · rename_i h
    exact Nat.lt_of_lt_of_le (Nat.pow_lt_pow_right (by omega) (show s.toNat < 64 by omega)) (by decide)
  · omega
theorem bitN_test (s : Int) (i : Nat) : (bitN s).testBit i = decide (0 ≤ s ∧ s < 64 ∧ (i : Int) = s) := by
  unfold bitN
  split
  · rename_i h
    rw [Nat.testBit_two_pow]
    by_cases e : (i : Int) = s
    · simp [h, e]; omega
    · simp [h, e]; omega
  · rename_i h
    simp; omega
theorem bit_any (s : Int) (w : World) : Calls Tryd.prog 21 #[.int .i64 s] w fun e w' => e = .returned (.int .u64 (bitN s)) ∧ w = w' := by
  have hlt := bitN_lt s
  unfold bitN at *
  by_cases h0 : s < 0
  · rw [if_neg (by omega)]
    go_enter Tryd.func21, Tryd.ntmps21
    go_wp2
    go_ret
    exact ⟨rfl, rfl⟩
  · by_cases h1 : 64 ≤ s
    · rw [if_neg (by omega)]
      go_enter Tryd.func21, Tryd.ntmps21
      go_wp2
      go_ret
      exact ⟨rfl, rfl⟩
    · rw [if_pos (by omega)] at *
      have hw : IntKind.u64.wrap ((2 : Int) ^ s.toNat) = ((2 ^ s.toNat : Nat) : Int) := by
        rw [IntKind.wrap_u64, show ((2 : Int) ^ s.toNat) = ((2 ^ s.toNat : Nat) : Int) by simp]
        generalize 2 ^ s.toNat = p at *
        omega
      have HW := Lib.hid hw
      clear hw hlt
      go_enter Tryd.func21, Tryd.ntmps21
      go_wp2
      go_ret
      exact ⟨ret_int HW.out, rfl⟩

/-- has a word a slot? -/
def hasB (m : Nat) (s : Int) : Bool := decide (0 ≤ s ∧ s < 64) && m.testBit s.toNat
def withN (m : Nat) (s : Int) : Nat := m ||| bitN s
def woN (m : Nat) (s : Int) : Nat := m &&& (18446744073709551615 - bitN s)
theorem withN_lt {m : Nat} (s : Int) (h : m < 18446744073709551616) : withN m s < 18446744073709551616 := Nat.or_lt_two_pow (n := 64) h (bitN_lt s)
theorem woN_lt {m : Nat} (s : Int) (h : m < 18446744073709551616) : woN m s < 18446744073709551616 := Nat.lt_of_le_of_lt Nat.and_le_left h
theorem withN_test (m : Nat) (s : Int) (i : Nat) : (withN m s).testBit i = (m.testBit i || decide (0 ≤ s ∧ s < 64 ∧ (i : Int) = s)) := by rw [withN, Nat.testBit_or, bitN_test]
theorem woN_test (m : Nat) (s : Int) (i : Nat) (hi : i < 64) : (woN m s).testBit i = (m.testBit i && !decide (0 ≤ s ∧ s < 64 ∧ (i : Int) = s)) := by
  rw [woN, Nat.testBit_and, show 18446744073709551615 - bitN s = 2 ^ 64 - (bitN s + 1) by have := bitN_lt s; omega, Nat.testBit_two_pow_sub_succ (bitN_lt s), bitN_test]
  simp [hi]
theorem and_bit (m : Nat) (s : Int) : (m &&& bitN s ≠ 0) ↔ hasB m s = true := by
  unfold hasB
  constructor
  · intro h
    obtain ⟨i, hi⟩ := Nat.exists_testBit_of_ne_zero h
    rw [Nat.testBit_and, bitN_test] at hi
    simp only [Bool.and_eq_true, decide_eq_true_eq] at hi ⊢
    obtain ⟨h1, h2, h3, h4⟩ := hi
    exact ⟨⟨h2, h3⟩, by rw [show s.toNat = i by omega]; exact h1⟩
  · intro h e
    simp only [Bool.and_eq_true, decide_eq_true_eq] at h
    have := congrArg (fun x => x.testBit s.toNat) e
    simp only [Nat.testBit_and, bitN_test, h.2, Nat.zero_testBit, Bool.true_and, decide_eq_false_iff_not] at this
    exact this ⟨h.1.1, h.1.2, by omega⟩
theorem bits_andNot_u64_nat (a b : Nat) (ha : a < 18446744073709551616) (hb : b < 18446744073709551616) : bits .andNot .u64 (a : Int) (b : Int) = ((a &&& (18446744073709551615 - b) : Nat) : Int) := by
  have h1 : (BitVec.ofInt 64 (a : Int)).toNat = a := by rw [BitVec.ofInt_natCast, BitVec.toNat_ofNat]; exact Nat.mod_eq_of_lt (by omega)
  have h2 : (BitVec.ofInt 64 (b : Int)).toNat = b := by rw [BitVec.ofInt_natCast, BitVec.toNat_ofNat]; exact Nat.mod_eq_of_lt (by omega)
  have hx : a &&& (18446744073709551615 - b) < 18446744073709551616 := Nat.lt_of_le_of_lt Nat.and_le_left ha
  show IntKind.u64.wrap ((BitVec.ofInt 64 (a : Int) &&& ~~~ BitVec.ofInt 64 (b : Int)).toNat : Int) = _
  rw [BitVec.toNat_and, BitVec.toNat_not, h1, h2, IntKind.wrap_u64]
  simp only [Nat.reducePow, Nat.reduceSub]
  omega
theorem has_any (m : Nat) (hm : m < 18446744073709551616) (s : Int) (w : World) : Calls Tryd.prog 14 #[.int .u64 m, .int .i64 s] w fun e w' => e = .returned (.bool (hasB m s)) ∧ w = w' := by
  have ha := bits_and_u64_nat m (bitN s) hm (bitN_lt s)
  have hb := and_bit m s
  obtain ⟨x, hx⟩ : ∃ x, x = m &&& bitN s := ⟨_, rfl⟩
  rw [← hx] at ha hb
  have HB := Lib.hid hb
  clear hx hb
  go_enter Tryd.func14, Tryd.ntmps14
  go_wp2_with fail
  refine (bit_any s w).mono ?_
  rintro e w1 ⟨rfl, rfl⟩
  go_wp2_with fail
  go_ret
  refine ⟨ret_bool ?_, rfl⟩
  rw [Bool.eq_iff_iff, ← HB.out]; simp; try omega
theorem with_any (m : Nat) (hm : m < 18446744073709551616) (s : Int) (w : World) : Calls Tryd.prog 12 #[.int .u64 m, .int .i64 s] w fun e w' => e = .returned (.int .u64 (withN m s)) ∧ w = w' := by
  have ha := bits_or_u64_nat m (bitN s) hm (bitN_lt s)
  go_enter Tryd.func12, Tryd.ntmps12
  go_wp2_with fail
  refine (bit_any s w).mono ?_
  rintro e w1 ⟨rfl, rfl⟩
  go_wp2_with fail
  go_ret
  exact ⟨rfl, rfl⟩
theorem without_any (m : Nat) (hm : m < 18446744073709551616) (s : Int) (w : World) : Calls Tryd.prog 13 #[.int .u64 m, .int .i64 s] w fun e w' => e = .returned (.int .u64 (woN m s)) ∧ w = w' := by
  have ha := bits_andNot_u64_nat m (bitN s) hm (bitN_lt s)
  go_enter Tryd.func13, Tryd.ntmps13
  go_wp2_with fail
  refine (bit_any s w).mono ?_
  rintro e w1 ⟨rfl, rfl⟩
  go_wp2_with fail
  go_ret
  exact ⟨rfl, rfl⟩
theorem refhas_any (m : Nat) (hm : m < 18446744073709551616) (s : Int) (w : World) : Calls Tryd.prog 17 #[.int .u64 m, .int .i64 s] w fun e w' => e = .returned (.bool (hasB m s)) ∧ w = w' := by
  unfold hasB
  by_cases h0 : s < 0
  · rw [show decide (0 ≤ s ∧ s < 64) = false by simp; omega, Bool.false_and]
    go_enter Tryd.func17, Tryd.ntmps17
    go_wp2
    go_ret
    exact ⟨rfl, rfl⟩
  · by_cases h1 : 63 < s
    · rw [show decide (0 ≤ s ∧ s < 64) = false by simp; omega, Bool.false_and]
      go_enter Tryd.func17, Tryd.ntmps17
      go_wp2
      go_ret
      exact ⟨rfl, rfl⟩
    · rw [show decide (0 ≤ s ∧ s < 64) = true by simp; omega, Bool.true_and]
      obtain ⟨n, rfl⟩ : ∃ n : Nat, s = n := ⟨s.toNat, by omega⟩
      rw [Int.toNat_natCast]
      obtain ⟨t, ht⟩ : ∃ t, t = m.testBit n := ⟨_, rfl⟩
      have HT := Lib.hid ht
      rw [← ht]
      clear ht
      go_enter Tryd.func17, Tryd.ntmps17
      go_wp2
      go_loop [0, 5] (fun x i => ∃ k : Nat, k ≤ n ∧ i = .int .i64 k ∧ x = .int .u64 (m / 2 ^ k : Nat)) (fun _ i => n - (intOf i).toNat)
      case atStart => exact ⟨0, by omega, rfl, by simp⟩
      case round =>
        obtain ⟨k, hk, rfl, rfl⟩ := hrel
        by_cases hlt : k < n
        · have h2 : m / 2 ^ k / 2 = m / 2 ^ (k + 1) := by rw [Nat.div_div_eq_div_mul, Nat.pow_succ]
          have H2 := Lib.hid h2
          have hbd : m / 2 ^ k < 18446744073709551616 := Nat.lt_of_le_of_lt (Nat.div_le_self _ _) hm
          obtain ⟨z, hz⟩ : ∃ z, z = m / 2 ^ k := ⟨_, rfl⟩
          rw [← hz] at H2 hbd ⊢
          clear h2 hz
          go_wp2
          go_round
          case rel => exact ⟨k + 1, by omega, by go_num, by rw [← H2.out]; go_num⟩
          case measure => simp [intOf]; omega
        · obtain rfl : k = n := by omega
          have htb : m.testBit k = decide (m / 2 ^ k % 2 = 1) := Nat.testBit_eq_decide_div_mod_eq
          have hbd : m / 2 ^ k < 18446744073709551616 := Nat.lt_of_le_of_lt (Nat.div_le_self _ _) hm
          rw [htb] at HT
          obtain ⟨z, hz⟩ : ∃ z, z = m / 2 ^ k := ⟨_, rfl⟩
          rw [← hz] at HT hbd ⊢
          clear htb hz
          go_wp2
          go_ret
          refine ⟨ret_bool ?_, rfl⟩
          rw [HT.out, Bool.eq_iff_iff]; simp; try omega
end Go.Proofs.YtpgkfmfdkbhljaaDoor
