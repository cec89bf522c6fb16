/-
  What stands here: the document's lock. Under no condition.
-/
import Derived.Test.YtonapndcmjnbcaaLockFns
namespace Go.Proofs.Ytonapndcmjnbcaa
set_option linter.unusedVariables false
set_option linter.unusedSimpArgs false
open Go.RowKit Go.Proofs

def RefAt (w : World) (b : Nat) (o : Option Int) (n : Int) : Prop := Blk w b #[.bool o.isSome, .int .i64 (o.getD 0), .int .i64 n] 37

set_option maxHeartbeats 400000 in
theorem rtry_any (b : Nat) (who n : Int) (o : Option Int) (w : World) (hr : RefAt w b o n) (hn : 0 ≤ n ∧ n < 1000000) :
    Calls Try.prog 14 #[.pointer (some ⟨b, 0, none⟩), .int .i64 who] w fun e w' => e = .returned (.bool (tryB o who)) ∧ Only b w w' ∧ RefAt w' b (tryO o who) (tryN o who n) := by
  unfold RefAt at *
  cases o with
  | none =>
    simp only [Option.isSome, Option.getD] at hr
    have c0 := hr.cell 0
    have c1 := hr.cell 1
    have c2 := hr.cell 2
    have f0 := hr.free 0
    have f1 := hr.free 1
    have f2 := hr.free 2
    by_cases h0 : who < 0
    · have hB : tryB none who = false := by unfold tryB; rw [decide_eq_false (by omega)]; rfl
      unfold tryO tryN
      rw [hB]
      clear hB
      go_enter Try.func14, Try.ntmps14
      go_wp2_with fail
      go_ret
      exact ⟨rfl, by (repeat (first | (with_reducible exact Kept.refl _ _) | (with_reducible refine Kept.drewN ?_ _) | (with_reducible refine Kept.drew ?_) | (with_reducible refine Kept.put ?_ _ _) | (with_reducible refine Kept.alloc ?_ _))), hr⟩
    · have hB : tryB none who = true := by unfold tryB; rw [decide_eq_true (by omega)]; rfl
      unfold tryO tryN
      rw [hB]
      clear hB
      go_enter Try.func14, Try.ntmps14
      go_wp2_with fail
      go_ret
      exact ⟨rfl, by (repeat (first | (with_reducible exact Kept.refl _ _) | (with_reducible refine Kept.drewN ?_ _) | (with_reducible refine Kept.drew ?_) | (with_reducible refine Kept.put ?_ _ _) | (with_reducible refine Kept.alloc ?_ _))), by ((repeat' (first | (with_reducible apply Blk.cast hr) | (with_reducible apply Blk.drewN) | (with_reducible apply Blk.drew) | (with_reducible apply Blk.alloc) | (with_reducible apply Blk.set') | (with_reducible apply Blk.other))); (repeat (any_goals rfl)); (all_goals first | omega | (simp; omega)))⟩
  | some x =>
    simp only [Option.isSome, Option.getD] at hr
    have c0 := hr.cell 0
    go_enter Try.func14, Try.ntmps14
    go_wp2_with fail
    go_ret
    exact ⟨rfl, by (repeat (first | (with_reducible exact Kept.refl _ _) | (with_reducible refine Kept.drewN ?_ _) | (with_reducible refine Kept.drew ?_) | (with_reducible refine Kept.put ?_ _ _) | (with_reducible refine Kept.alloc ?_ _))), hr⟩

set_option maxHeartbeats 400000 in
theorem rleave_any (b : Nat) (who n : Int) (o : Option Int) (w : World) (hr : RefAt w b o n) :
    Calls Try.prog 13 #[.pointer (some ⟨b, 0, none⟩), .int .i64 who] w fun e w' => e = .returned (.int .i64 (leaveV o who)) ∧ Only b w w' ∧ RefAt w' b (leaveO o who) n := by
  unfold RefAt leaveV leaveO at *
  by_cases h0 : who < 0
  · rw [if_pos h0, if_pos h0]
    go_enter Try.func13, Try.ntmps13
    go_wp2_with fail
    go_ret
    exact ⟨rfl, by (repeat (first | (with_reducible exact Kept.refl _ _) | (with_reducible refine Kept.drewN ?_ _) | (with_reducible refine Kept.drew ?_) | (with_reducible refine Kept.put ?_ _ _) | (with_reducible refine Kept.alloc ?_ _))), hr⟩
  rw [if_neg h0, if_neg h0]
  cases o with
  | none =>
    simp only [Option.isSome, Option.getD] at hr
    have c0 := hr.cell 0
    go_enter Try.func13, Try.ntmps13
    go_wp2_with fail
    go_ret
    exact ⟨rfl, by (repeat (first | (with_reducible exact Kept.refl _ _) | (with_reducible refine Kept.drewN ?_ _) | (with_reducible refine Kept.drew ?_) | (with_reducible refine Kept.put ?_ _ _) | (with_reducible refine Kept.alloc ?_ _))), hr⟩
  | some x =>
    simp only [Option.isSome, Option.getD] at hr
    have c0 := hr.cell 0
    have c1 := hr.cell 1
    have f0 := hr.free 0
    have f1 := hr.free 1
    by_cases h1 : x = who
    · subst h1
      rw [if_pos rfl, if_pos rfl]
      go_enter Try.func13, Try.ntmps13
      go_wp2_with fail
      go_ret
      exact ⟨rfl, by (repeat (first | (with_reducible exact Kept.refl _ _) | (with_reducible refine Kept.drewN ?_ _) | (with_reducible refine Kept.drew ?_) | (with_reducible refine Kept.put ?_ _ _) | (with_reducible refine Kept.alloc ?_ _))), by ((repeat' (first | (with_reducible apply Blk.cast hr) | (with_reducible apply Blk.drewN) | (with_reducible apply Blk.drew) | (with_reducible apply Blk.alloc) | (with_reducible apply Blk.set') | (with_reducible apply Blk.other))); (repeat (any_goals rfl)); (all_goals first | omega | (simp; omega)))⟩
    · rw [if_neg (fun e => h1 (by cases e; rfl)), if_neg (fun e => h1 (by cases e; rfl))]
      have h2 : (x == who) = false := by rw [beq_eq_false_iff_ne]; exact h1
      go_enter Try.func13, Try.ntmps13
      go_wp2_with fail
      go_ret
      exact ⟨rfl, by (repeat (first | (with_reducible exact Kept.refl _ _) | (with_reducible refine Kept.drewN ?_ _) | (with_reducible refine Kept.drew ?_) | (with_reducible refine Kept.put ?_ _ _) | (with_reducible refine Kept.alloc ?_ _))), hr⟩
end Go.Proofs.Ytonapndcmjnbcaa
