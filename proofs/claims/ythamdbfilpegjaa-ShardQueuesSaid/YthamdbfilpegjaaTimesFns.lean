/-
  What stands here: what the plain functions over times do. Under the condition that their arguments are words.
-/
import Derived.Test.YthamdbfilpegjaaTimesZeros
import Derived.Laws.Externs
namespace Go.Proofs.Ythamdbfilpegjaa
set_option linter.unusedVariables false
set_option linter.unusedSimpArgs false
open Go.RowKit Go.Proofs
/-- what Add hands back -/
def addV (a b : Int) : Int := if a + b < 18446744073709551616 then a + b else 0
def addE (a b : Int) : Int := if a + b < 18446744073709551616 then 0 else 9
theorem add64_run (x y : Int) (hx : 0 ≤ x) (hy : 0 ≤ y) (w : World) :
    (callFunc 57 #[.int .u64 x, .int .u64 y, .int .u64 0]).run Try.prog w =
      .ok (.value (.tuple #[.int .u64 ((x + y) % 18446744073709551616), .int .u64 ((x + y) / 18446744073709551616)])) w := by
  rw [run_callFunc_extern Try.func57 (by kernel_rfl) (by kernel_rfl) (by kernel_rfl) (e := add64Entry) (by kernel_rfl), run_add64 x y 0 hx hy (by omega) (by omega)]
  simp only [Result.andThen, Int.add_zero]
theorem add_any (x y : Int) (hx : 0 ≤ x ∧ x < 18446744073709551616) (hy : 0 ≤ y ∧ y < 18446744073709551616) (w : World) :
    Calls Try.prog 46 #[.int .u64 x, .int .u64 y] w fun e w' => e = .returned (.tuple #[.int .u64 (addV x y), .int .i64 (addE x y)]) ∧ Still w w' := by
  have hr := add64_run x y hx.1 hy.1
  unfold addV addE
  by_cases h : x + y < 18446744073709551616
  · rw [if_pos h, if_pos h]
    rw [Int.emod_eq_of_lt (by omega) h, Int.ediv_eq_zero_of_lt (by omega) h] at hr
    go_enter Try.func46, Try.ntmps46
    go_wp2_with fail
    go_ret2
    exact ⟨rfl, by (repeat (first | (with_reducible exact Kept.refl _ _) | (with_reducible refine Kept.drewN ?_ _) | (with_reducible refine Kept.drew ?_) | (with_reducible refine Kept.put ?_ _ _) | (with_reducible refine Kept.alloc ?_ _)))⟩
  · rw [if_neg h, if_neg h]
    have h1 : (x + y) / 18446744073709551616 = 1 := by omega
    rw [h1] at hr
    go_enter Try.func46, Try.ntmps46
    go_wp2_with fail
    go_ret2
    exact ⟨rfl, by (repeat (first | (with_reducible exact Kept.refl _ _) | (with_reducible refine Kept.drewN ?_ _) | (with_reducible refine Kept.drew ?_) | (with_reducible refine Kept.put ?_ _ _) | (with_reducible refine Kept.alloc ?_ _)))⟩
theorem later_any (d now : Int) (hx : 0 ≤ d ∧ d < 18446744073709551616) (hy : 0 ≤ now ∧ now < 18446744073709551616) (w : World) :
    Calls Try.prog 25 #[.int .u64 d, .int .u64 now] w fun e w' => e = .returned (if now = 18446744073709551615 then .tuple #[.int .u64 0, .int .i64 9] else .tuple #[.int .u64 (if d ≤ now + 1 then now + 1 else d), .int .i64 0]) ∧ Still w w' := by
  by_cases h : now = 18446744073709551615
  · subst h
    rw [if_pos rfl]
    have hV : addV 18446744073709551615 1 = 0 := by unfold addV; rw [if_neg (by omega)]
    have hE : addE 18446744073709551615 1 = 9 := by unfold addE; rw [if_neg (by omega)]
    have hc := add_any 18446744073709551615 1 hy (by omega)
    rw [hV, hE] at hc
    go_enter Try.func25, Try.ntmps25
    go_wp2_with fail
    refine (hc _).mono ?_
    rintro e w1 ⟨rfl, k1⟩
    go_wp2_with fail
    all_goals go_ret2
    all_goals first | exact ⟨rfl, k1⟩ | ((obtain rfl : d = now + 1 := (by omega)); exact ⟨rfl, k1⟩)
  · rw [if_neg h]
    have hV : addV now 1 = now + 1 := by unfold addV; rw [if_pos (by omega)]
    have hE : addE now 1 = 0 := by unfold addE; rw [if_pos (by omega)]
    have hc := add_any now 1 hy (by omega)
    rw [hV, hE] at hc
    go_enter Try.func25, Try.ntmps25
    go_wp2_with fail
    refine (hc _).mono ?_
    rintro e w1 ⟨rfl, k1⟩
    go_wp2_with fail
    all_goals go_ret2
    all_goals first | exact ⟨rfl, k1⟩ | ((obtain rfl : d = now + 1 := (by omega)); exact ⟨rfl, k1⟩)
theorem sh6 (n : Int) (h : 0 ≤ n) : (2 : Int) ^ (6 * n).toNat = 64 ^ n.toNat := by
  rw [show (6 * n).toNat = 6 * n.toNat by omega, Int.pow_mul]; rfl
theorem digit_any (t level : Int) (ht : 0 ≤ t ∧ t < 18446744073709551616) (w : World) :
    Calls Try.prog 52 #[.int .u64 t, .int .i64 level] w fun e w' => e = .returned (.int .i64 (if 0 ≤ level ∧ level < 11 then dg t level.toNat else 0)) ∧ Still w w' := by
  by_cases h : 0 ≤ level ∧ level < 11
  · rw [if_pos h]
    have hz := z_bd ht level.toNat
    have hd : bits BinOp.and IntKind.u64 (t / 2 ^ (6 * level).toNat) 63 = dg t level.toNat := by rw [sh6 _ h.1]; exact and63 hz.1 (by omega)
    have hw : wrap64 (dg t level.toNat) = dg t level.toNat := wrap64_in _ (by unfold dg; omega) (by unfold dg; omega)
    go_enter Try.func52, Try.ntmps52
    go_wp2_with fail
    go_ret
    exact ⟨by simp [hw], by (repeat (first | (with_reducible exact Kept.refl _ _) | (with_reducible refine Kept.drewN ?_ _) | (with_reducible refine Kept.drew ?_) | (with_reducible refine Kept.put ?_ _ _) | (with_reducible refine Kept.alloc ?_ _)))⟩
  · rw [if_neg h]
    go_enter Try.func52, Try.ntmps52
    go_wp2_with fail
    all_goals (go_ret; exact ⟨rfl, by (repeat (first | (with_reducible exact Kept.refl _ _) | (with_reducible refine Kept.drewN ?_ _) | (with_reducible refine Kept.drew ?_) | (with_reducible refine Kept.put ?_ _ _) | (with_reducible refine Kept.alloc ?_ _)))⟩)
end Go.Proofs.Ythamdbfilpegjaa
