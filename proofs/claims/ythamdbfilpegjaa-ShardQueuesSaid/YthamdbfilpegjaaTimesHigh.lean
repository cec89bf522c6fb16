/-
  What stands here: the highest level at which two times differ, by the program. Under the condition that both are words.
-/
import Derived.Test.YthamdbfilpegjaaTimesFns
import Derived.Test.YthamdbfilpegjaaLen64
import Derived.Test.YthamdbfilpegjaaRow
import Derived.Lib.ItoaNum
namespace Go.Proofs.Ythamdbfilpegjaa
set_option linter.unusedVariables false
set_option linter.unusedSimpArgs false
open Go.RowKit Go.Proofs

/-- k is the highest level at which a and b differ; -1: none -/
def ApartIs (a b k : Int) : Prop := -1 ≤ k ∧ k ≤ 10 ∧ ∀ i : Nat, a / 64 ^ i = b / 64 ^ i ↔ k < i
theorem ApartIs.uniq {a b k l : Int} (h : ApartIs a b k) (h' : ApartIs a b l) : k = l := by
  have h1 := h.2.2 (k + 1).toNat
  have h2 := h'.2.2 (k + 1).toNat
  have h3 := h.2.2 (l + 1).toNat
  have h4 := h'.2.2 (l + 1).toNat
  have := h.1
  have := h'.1
  rw [h1] at h2
  rw [h4] at h3
  omega
theorem ApartIs.symm {a b k : Int} (h : ApartIs a b k) : ApartIs b a k := ⟨h.1, h.2.1, fun i => eq_comm.trans (h.2.2 i)⟩
theorem apart_same (a : Int) : ApartIs a a (-1) := ⟨by omega, by omega, fun i => ⟨fun _ => by omega, fun _ => rfl⟩⟩

theorem xor_zero (x y : Nat) : x ^^^ y = 0 ↔ x = y := by
  constructor
  · intro h
    have h2 : (x ^^^ y) ^^^ y = 0 ^^^ y := by rw [h]
    rwa [Nat.xor_assoc, Nat.xor_self, Nat.xor_zero, Nat.zero_xor] at h2
  · rintro rfl; exact Nat.xor_self x
theorem xor_div (x y j : Nat) : x / 2 ^ j = y / 2 ^ j ↔ (x ^^^ y) < 2 ^ j := by
  rw [← Nat.shiftRight_eq_div_pow, ← Nat.shiftRight_eq_div_pow]
  have h : (x ^^^ y) >>> j = x >>> j ^^^ y >>> j := Nat.shiftRight_xor_distrib
  have h2 : (x ^^^ y) < 2 ^ j ↔ (x ^^^ y) >>> j = 0 := by
    rw [Nat.shiftRight_eq_div_pow, Nat.div_eq_zero_iff]
    have := Nat.two_pow_pos j
    omega
  rw [h2, h, xor_zero]
theorem apart_nat (x y : Nat) (hx : x < 2 ^ 64) (hy : y < 2 ^ 64) (hne : x ≠ y) :
    1 ≤ Lib.bitLen (x ^^^ y) ∧ Lib.bitLen (x ^^^ y) ≤ 64 ∧ ∀ i : Nat, x / 2 ^ (6 * i) = y / 2 ^ (6 * i) ↔ (Lib.bitLen (x ^^^ y) - 1) / 6 < i := by
  have hlt : x ^^^ y < 2 ^ 64 := Nat.xor_lt_two_pow hx hy
  have h0 : x ^^^ y ≠ 0 := fun h => hne ((xor_zero _ _).1 h)
  obtain ⟨h1, h2, h3⟩ := Lib.bitLenAux_bounds 64 (x ^^^ y) hlt h0
  refine ⟨h1, Lib.bitLen_le _ 64 (Nat.le_refl _) hlt, fun i => ?_⟩
  rw [xor_div]
  have h1' : 1 ≤ Lib.bitLen (x ^^^ y) := h1
  have h2' : 2 ^ (Lib.bitLen (x ^^^ y) - 1) ≤ x ^^^ y := h2
  have h3' : x ^^^ y < 2 ^ Lib.bitLen (x ^^^ y) := h3
  generalize Lib.bitLen (x ^^^ y) = L at *
  constructor
  · intro h
    have : L - 1 < 6 * i := (Nat.pow_lt_pow_iff_right (by omega)).1 (Nat.lt_of_le_of_lt h2' h)
    omega
  · intro h
    exact Nat.lt_of_lt_of_le h3' (Nat.pow_le_pow_right (by omega) (by omega))
theorem cast_div (x : Nat) (i : Nat) : (x : Int) / 64 ^ i = ((x / 2 ^ (6 * i) : Nat) : Int) := by
  rw [Nat.pow_mul, Int.natCast_ediv, Int.natCast_pow]; rfl

theorem apart_any (a b : Int) (ha : 0 ≤ a ∧ a < 18446744073709551616) (hb : 0 ≤ b ∧ b < 18446744073709551616) (w : World) :
    Calls Try.prog 58 #[.int .u64 a, .int .u64 b] w fun e w' => ∃ k, ApartIs a b k ∧ e = .returned (.int .i64 k) ∧ Still w w' := by
  by_cases h : a = b
  · subst h
    go_enter Try.func58, Try.ntmps58
    go_wp2_with fail
    go_ret
    exact ⟨-1, apart_same a, rfl, by (repeat (first | (with_reducible exact Kept.refl _ _) | (with_reducible refine Kept.drewN ?_ _) | (with_reducible refine Kept.drew ?_) | (with_reducible refine Kept.put ?_ _ _) | (with_reducible refine Kept.alloc ?_ _)))⟩
  · have h1 : (a == b) = false := by rw [beq_eq_false_iff_ne]; exact h
    go_enter Try.func58, Try.ntmps58
    go_wp2_with fail
    obtain ⟨x, rfl⟩ : ∃ x : Nat, a = x := Int.eq_ofNat_of_zero_le ha.1
    obtain ⟨y, rfl⟩ : ∃ y : Nat, b = y := Int.eq_ofNat_of_zero_le hb.1
    have hx : x < 2 ^ 64 := by omega
    have hy : y < 2 ^ 64 := by omega
    obtain ⟨l1, l2, l3⟩ := apart_nat x y hx hy (fun e => h (by rw [e]))
    have hxor := bits_xor_u64_nat x y hx hy
    rw [hxor]
    refine (len64_any _ _ (by omega) (by have := Nat.xor_lt_two_pow hx hy; omega)).mono ?_
    rintro e w1 ⟨rfl, rfl⟩
    rw [Int.toNat_natCast]
    generalize Lib.bitLen (x ^^^ y) = L at *
    go_wp2_with fail
    go_ret
    refine ⟨((L - 1) / 6 : Nat), ⟨by omega, by omega, fun i => ?_⟩, ret_int (by omega), still_refl _⟩
    rw [cast_div, cast_div]
    have := l3 i
    omega
end Go.Proofs.Ythamdbfilpegjaa
