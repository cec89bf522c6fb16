/-
  What stands here: the rest of what a lock does, the document's lock, and the example. Under bounds on who and on the count.
-/
import Derived.Test.YthamdbfilpegjaaLock
namespace Go.Proofs.Ythamdbfilpegjaa
set_option linter.unusedVariables false
set_option linter.unusedSimpArgs false
open Go.RowKit Go.Proofs

def OwnOk (o : Option Int) : Prop := ∀ x, o = some x → 0 ≤ x ∧ x ≤ 1099511627776
theorem ownOk_none : OwnOk none := fun x h => by cases h
theorem ownOk_some {x : Int} (h : 0 ≤ x ∧ x ≤ 1099511627776) : OwnOk (some x) := fun y e => by cases e; exact h
def tryB (o : Option Int) (who : Int) : Bool := o.isNone && decide (0 ≤ who)
def tryO (o : Option Int) (who : Int) : Option Int := if tryB o who then some who else o
def tryN (o : Option Int) (who n : Int) : Int := if tryB o who then n + 1 else n
def leaveV (o : Option Int) (who : Int) : Int := if who < 0 then 1 else if o = some who then 0 else 7
def leaveO (o : Option Int) (who : Int) : Option Int := if who < 0 then o else if o = some who then none else o
theorem tryO_ok {o : Option Int} {who : Int} (h : OwnOk o) (hw : who ≤ 1099511627776) : OwnOk (tryO o who) := by
  unfold tryO tryB
  split
  · rename_i g; simp at g; exact ownOk_some ⟨g.2, hw⟩
  · exact h
theorem leaveO_ok {o : Option Int} {who : Int} (h : OwnOk o) : OwnOk (leaveO o who) := by
  unfold leaveO
  repeat' split
  · exact h
  · exact ownOk_none
  · exact h

theorem try_any (b : Nat) (who n : Int) (o : Option Int) (w : World) (h : LockAt w b o n) (ho : OwnOk o) (hw : who ≤ 1099511627776) (hn : 0 ≤ n ∧ n < 1000000) :
    Calls Try.prog 18 #[.pointer (some ⟨b, 0, none⟩), .int .i64 who] w fun e w' => e = .returned (.bool (tryB o who)) ∧ Only b w w' ∧ LockAt w' b (tryO o who) (tryN o who n) := by
  by_cases h0 : who < 0
  · refine (try_neg b who w h0).mono ?_
    rintro e w1 ⟨rfl, k1⟩
    have hB : tryB o who = false := by unfold tryB; rw [decide_eq_false (by omega), Bool.and_false]
    unfold tryO tryN
    rw [hB]
    exact ⟨rfl, (only_refl b w).of_still k1, h.still k1⟩
  · cases o with
    | none =>
      refine (try_yes b who n w h ⟨by omega, hw⟩ hn).mono ?_
      rintro e w1 ⟨rfl, k1, h1⟩
      have hB : tryB none who = true := by unfold tryB; rw [decide_eq_true (by omega)]; rfl
      unfold tryO tryN
      rw [hB]
      exact ⟨rfl, k1, h1⟩
    | some x =>
      refine (try_no b who x n w h (ho x rfl).1 ⟨by omega, hw⟩).mono ?_
      rintro e w1 ⟨rfl, k1, h1⟩
      exact ⟨rfl, k1, h1⟩
theorem leave_any (b : Nat) (who n : Int) (o : Option Int) (w : World) (h : LockAt w b o n) (ho : OwnOk o) (hw : who ≤ 1099511627776) :
    Calls Try.prog 19 #[.pointer (some ⟨b, 0, none⟩), .int .i64 who] w fun e w' => e = .returned (.int .i64 (leaveV o who)) ∧ Only b w w' ∧ LockAt w' b (leaveO o who) n := by
  unfold leaveV leaveO
  by_cases h0 : who < 0
  · refine (leave_neg b who w h0).mono ?_
    rintro e w1 ⟨rfl, k1⟩
    rw [if_pos h0, if_pos h0]
    exact ⟨rfl, (only_refl b w).of_still k1, h.still k1⟩
  · rw [if_neg h0, if_neg h0]
    by_cases h1 : o = some who
    · subst h1
      refine (leave_yes b who n w h ⟨by omega, hw⟩).mono ?_
      rintro e w1 ⟨rfl, k1, h1⟩
      rw [if_pos rfl, if_pos rfl]
      exact ⟨rfl, k1, h1⟩
    · refine (leave_no b who n o w h (fun x e => (ho x e).1) h1 ⟨by omega, hw⟩).mono ?_
      rintro e w1 ⟨rfl, k1, h2⟩
      rw [if_neg h1, if_neg h1]
      exact ⟨rfl, k1, h2⟩

theorem try_nil (who : Int) (w : World) : Calls Try.prog 18 #[.pointer none, .int .i64 who] w fun e w' => e = .returned (.bool false) ∧ Still w w' := by
  go_enter Try.func18, Try.ntmps18
  go_wp2_with fail
  go_ret
  exact ⟨rfl, by (repeat (first | (with_reducible exact Kept.refl _ _) | (with_reducible refine Kept.drewN ?_ _) | (with_reducible refine Kept.drew ?_) | (with_reducible refine Kept.put ?_ _ _) | (with_reducible refine Kept.alloc ?_ _)))⟩
theorem leave_nil (who : Int) (w : World) : Calls Try.prog 19 #[.pointer none, .int .i64 who] w fun e w' => e = .returned (.int .i64 7) ∧ Still w w' := by
  go_enter Try.func19, Try.ntmps19
  go_wp2_with fail
  go_ret
  exact ⟨rfl, by (repeat (first | (with_reducible exact Kept.refl _ _) | (with_reducible refine Kept.drewN ?_ _) | (with_reducible refine Kept.drew ?_) | (with_reducible refine Kept.put ?_ _ _) | (with_reducible refine Kept.alloc ?_ _)))⟩

end Go.Proofs.Ythamdbfilpegjaa
