/-
  What stands here: the walk of TimesLevels. Under no condition but that its arguments fit their types.
-/
import Derived.Test.YtjnjjhhkjackoaaTimesAlive
namespace Go.Proofs.Ytjnjjhhkjackoaa
set_option linter.unusedVariables false
set_option linter.unusedSimpArgs false
open Go.RowKit Go.Proofs

theorem cut_eq (a b : Int) (k : Nat) : cutV a k = cutV b k ↔ a / 64 ^ k = b / 64 ^ k := by
  unfold cutV
  have hp : (0 : Int) < 64 ^ k := Int.pow_pos (by omega)
  constructor
  · intro h; exact Int.eq_of_mul_eq_mul_right (by omega) h
  · intro h; rw [h]
theorem cut_self (a : Int) (k : Nat) : cutV a k = a ↔ ∀ i, i < k → dg a i = 0 := by
  induction k with
  | zero => simp [cutV]
  | succ k ih =>
    have h1 := div_step a k
    have hp : (0 : Int) < 64 ^ k := Int.pow_pos (by omega)
    have hb := dg_bd a k
    have he : cutV a k = cutV a (k + 1) + dg a k * 64 ^ k := by
      unfold cutV
      have h2 : a / 64 ^ (k + 1) * 64 ^ (k + 1) = 64 * (a / 64 ^ (k + 1)) * 64 ^ k := by
        generalize a / 64 ^ (k + 1) = q
        rw [Int.pow_succ, Int.mul_comm 64 q, Int.mul_assoc, Int.mul_comm 64 (64 ^ k)]
      rw [h2, h1, Int.add_mul]
    have hle : cutV a k ≤ a := Int.ediv_mul_le _ (by omega)
    have hnn : 0 ≤ dg a k * 64 ^ k := Int.mul_nonneg hb.1 (by omega)
    constructor
    · intro h i hi
      have hk : dg a k * 64 ^ k = 0 := by omega
      rcases Nat.lt_or_ge i k with hlt | hge
      · exact ih.1 (by omega) i hlt
      · obtain rfl : i = k := by omega
        rcases Int.mul_eq_zero.1 hk with h0 | h0
        · exact h0
        · omega
    · intro h
      have := ih.2 (fun i hi => h i (by omega))
      rw [h k (by omega)] at he
      omega
theorem cut_zeros {a : Int} {z : Nat} (h : ZerosIs a z) : cutV a z = a ∧ (z < 11 → cutV a (z + 1) ≠ a) :=
  ⟨(cut_self a z).2 h.2.1, fun hz e => h.2.2 hz ((cut_self a (z + 1)).1 e z (by omega))⟩

set_option maxHeartbeats 1000000 in
theorem timesLevels_walk (a0 : Int) (a1 : Int) (a2 : Int) (w : World) (w0 : (Lit.int .u64 a0).wf = true) (w1 : (Lit.int .u64 a1).wf = true) (w2 : (Lit.int .u8 a2).wf = true) :
    Calls Try.prog 8 #[.int .u64 a0, .int .u64 a1, .int .u8 a2] w fun e w' => e = .returned (.bool true) ∧ Below w.heap.size w w' := by
  have h0 := bd_u64 w0
  have h1 := bd_u64 w1
  have h2 := bd_u8 w2
  clear w0 w1 w2
  go_enter Try.func8, Try.ntmps8
  go_wp2_with fail
  refine (alive_any _).mono ?_
  rintro e w1 ⟨rfl, b1⟩
  go_wp2_with fail
  have hkb : 0 ≤ a2 % 12 ∧ a2 % 12 < 12 := by omega
  generalize a2 % 12 = k at *
  have c1 := cut_any a0 k h0
  have c2 := cut_any a1 k h1
  have hce := cut_eq a0 a1 k.toNat
  generalize cutV a0 k.toNat = p at *
  generalize cutV a1 k.toNat = q at *
  refine (c1 _).mono ?_
  rintro e w2 ⟨rfl, k2⟩
  go_wp2_with fail
  refine (c2 _).mono ?_
  rintro e w3 ⟨rfl, k3⟩
  go_wp2_with fail
  refine (zeros_any a0 h0 _).mono ?_
  rintro e w4 ⟨z, hz, rfl, b4⟩
  have hbel := (below_still b1 (k2.trans k3) (Nat.le_refl _)).trans (b4.mono (Nat.le_trans b1.size (k2.trans k3).size))
  have hcz := cut_zeros hz
  have hz11 := hz.1
  clear hz
  go_wp2_with fail
  refine (apart_any a0 a1 h0 h1 _).mono ?_
  rintro e w5 ⟨x, hx, rfl, k5⟩
  rw [hx.2.2 k.toNat] at hce
  have hxb := hx.1
  have hce' : p = q ↔ x < k := by rw [hce]; omega
  clear hx hce
  have c3 := cut_any a0 z h0
  have c4 := cut_any a0 (z + 1) h0
  rw [show ((z : Int)).toNat = z by omega, hcz.1] at c3
  rw [show ((z : Int) + 1).toNat = z + 1 by omega] at c4
  have hc4 := hcz.2
  clear hcz
  generalize cutV a0 (z + 1) = r at *
  have hce1 : (p == q) = decide (x < k) := by rw [Bool.eq_iff_iff, beq_iff_eq, decide_eq_true_eq]; exact hce'
  clear hce'
  have hself : (a0 == a0) = true := by simp
  by_cases h11 : z = 11
  · subst h11
    clear hc4
    by_cases hlt : x < k
    all_goals
      go_wp2_with fail
      refine (c3 _).mono ?_
      rintro e w6 ⟨rfl, k6⟩
      go_wp2_with fail
      go_ret
      exact ⟨by first | rfl | (simp; omega), below_still hbel (k5.trans k6) (Nat.le_refl _)⟩
  · have hne := hc4 (by omega)
    have hne1 : (r != a0) = true := by rw [bne_iff_ne]; exact hne
    have hz1 : ((z : Int) == 11) = false := by rw [beq_eq_false_iff_ne]; omega
    clear hc4 hne
    by_cases hlt : x < k
    all_goals
      go_wp2_with fail
      refine (c3 _).mono ?_
      rintro e w6 ⟨rfl, k6⟩
      go_wp2_with fail
      refine (c4 _).mono ?_
      rintro e w7 ⟨rfl, k7⟩
      go_wp2_with fail
      go_ret
      exact ⟨by first | rfl | (simp; omega), below_still hbel ((k5.trans k6).trans k7) (Nat.le_refl _)⟩
end Go.Proofs.Ytjnjjhhkjackoaa
