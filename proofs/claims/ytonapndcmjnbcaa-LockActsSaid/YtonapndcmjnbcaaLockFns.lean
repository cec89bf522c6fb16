/-
  What stands here: the rest of what a lock does, the document's lock, and the example. Under bounds on who and on the count.
-/
import Derived.Test.YtonapndcmjnbcaaLock
namespace Go.Proofs.Ytonapndcmjnbcaa
set_option linter.unusedVariables false
set_option linter.unusedSimpArgs false
open Go.RowKit Go.Proofs

def OwnOk (o : Option Int) : Prop := ∀ x, o = some x → 0 ≤ x ∧ x ≤ 1099511627776
theorem ownOk_none : OwnOk none := fun x h => by cases h
theorem ownOk_some {x : Int} (h : 0 ≤ x ∧ x ≤ 1099511627776) : OwnOk (some x) := fun y e => by cases e; exact h
def tryB (o : Option Int) (who : Int) : Bool := o.isNone && decide (0 ≤ who)
def tryO (o : Option Int) (who : Int) : Option Int := if tryB o who then some who else o
def tryN (o : Option Int) (who n : Int) : Int := if tryB o who then n + 1 else n
def leaveV (o : Option Int) (who : Int) : Int := if who < 0 then 1 else if o = some who then 0 else 7
def leaveO (o : Option Int) (who : Int) : Option Int := if who < 0 then o else if o = some who then none else o
theorem tryO_ok {o : Option Int} {who : Int} (h : OwnOk o) (hw : who ≤ 1099511627776) : OwnOk (tryO o who) := by
  unfold tryO tryB
  split
  · rename_i g; simp at g; exact ownOk_some ⟨g.2, hw⟩
  · exact h
theorem leaveO_ok {o : Option Int} {who : Int} (h : OwnOk o) : OwnOk (leaveO o who) := by
  unfold leaveO
  repeat' split
  · exact h
  · exact ownOk_none
  · exact h

theorem try_any (b : Nat) (who n : Int) (o : Option Int) (w : World) (h : LockAt w b o n) (ho : OwnOk o) (hw : who ≤ 1099511627776) (hn : 0 ≤ n ∧ n < 1000000) :
    Calls Try.prog 10 #[.pointer (some ⟨b, 0, none⟩), .int .i64 who] w fun e w' => e = .returned (.bool (tryB o who)) ∧ Only b w w' ∧ LockAt w' b (tryO o who) (tryN o who n) := by
  by_cases h0 : who < 0
  · refine (try_neg b who w h0).mono ?_
    rintro e w1 ⟨rfl, k1⟩
    have hB : tryB o who = false := by unfold tryB; rw [decide_eq_false (by omega), Bool.and_false]
    unfold tryO tryN
    rw [hB]
    exact ⟨rfl, (only_refl b w).of_still k1, h.still k1⟩
  · cases o with
    | none =>
      refine (try_yes b who n w h ⟨by omega, hw⟩ hn).mono ?_
      rintro e w1 ⟨rfl, k1, h1⟩
      have hB : tryB none who = true := by unfold tryB; rw [decide_eq_true (by omega)]; rfl
      unfold tryO tryN
      rw [hB]
      exact ⟨rfl, k1, h1⟩
    | some x =>
      refine (try_no b who x n w h (ho x rfl).1 ⟨by omega, hw⟩).mono ?_
      rintro e w1 ⟨rfl, k1, h1⟩
      exact ⟨rfl, k1, h1⟩
theorem leave_any (b : Nat) (who n : Int) (o : Option Int) (w : World) (h : LockAt w b o n) (ho : OwnOk o) (hw : who ≤ 1099511627776) :
    Calls Try.prog 9 #[.pointer (some ⟨b, 0, none⟩), .int .i64 who] w fun e w' => e = .returned (.int .i64 (leaveV o who)) ∧ Only b w w' ∧ LockAt w' b (leaveO o who) n := by
  unfold leaveV leaveO
  by_cases h0 : who < 0
  · refine (leave_neg b who w h0).mono ?_
    rintro e w1 ⟨rfl, k1⟩
    rw [if_pos h0, if_pos h0]
    exact ⟨rfl, (only_refl b w).of_still k1, h.still k1⟩
  · rw [if_neg h0, if_neg h0]
    by_cases h1 : o = some who
    · subst h1
      refine (leave_yes b who n w h ⟨by omega, hw⟩).mono ?_
      rintro e w1 ⟨rfl, k1, h1⟩
      rw [if_pos rfl, if_pos rfl]
      exact ⟨rfl, k1, h1⟩
    · refine (leave_no b who n o w h (fun x e => (ho x e).1) h1 ⟨by omega, hw⟩).mono ?_
      rintro e w1 ⟨rfl, k1, h2⟩
      rw [if_neg h1, if_neg h1]
      exact ⟨rfl, k1, h2⟩

theorem owner_any (b : Nat) (n : Int) (o : Option Int) (w : World) (h : LockAt w b o n) (ho : OwnOk o) :
    Calls Try.prog 11 #[.pointer (some ⟨b, 0, none⟩)] w fun e w' => e = .returned (.tuple #[.int .i64 (o.getD 0), .bool o.isSome]) ∧ Only b w w' ∧ LockAt w' b o n := by
  obtain ⟨l, t, u, hb⟩ := h
  cases o with
  | none =>
    simp only [ownV] at hb
    go_enter Try.func11, Try.ntmps11
    go_wp2_with fail
    refine (load_any b 0 _ 0 l rfl _ _ hb rfl rfl).mono ?_
    rintro e w1 ⟨rfl, k1, b1⟩
    go_wp2_with fail
    go_ret2
    exact ⟨rfl, k1, _, _, _, b1⟩
  | some x =>
    have hx := ho x rfl
    simp only [ownV] at hb
    have h0 : (x + 1 == 0) = false := by rw [beq_eq_false_iff_ne]; omega
    go_enter Try.func11, Try.ntmps11
    go_wp2_with fail
    refine (load_any b 0 _ (x + 1) l rfl _ _ hb rfl rfl).mono ?_
    rintro e w1 ⟨rfl, k1, b1⟩
    go_wp2_with fail
    refine (load_any b 0 _ (x + 1) _ rfl _ _ b1 rfl rfl).mono ?_
    rintro e w2 ⟨rfl, k2, b2⟩
    go_wp2_with fail
    go_ret2
    exact ⟨rfl, k1.trans k2, _, _, _, b2⟩
theorem owner_isnt (b : Nat) (n : Int) (w : World) (h : LockAt w b none n) :
    Calls Try.prog 11 #[.pointer (some ⟨b, 0, none⟩)] w fun e w' => e = .returned (.tuple #[.int .i64 0, .bool false]) ∧ Only b w w' ∧ LockAt w' b none n := owner_any b n none w h ownOk_none
theorem owner_is (b : Nat) (n x : Int) (w : World) (h : LockAt w b (some x) n) (hx : 0 ≤ x ∧ x ≤ 1099511627776) :
    Calls Try.prog 11 #[.pointer (some ⟨b, 0, none⟩)] w fun e w' => e = .returned (.tuple #[.int .i64 x, .bool true]) ∧ Only b w w' ∧ LockAt w' b (some x) n := owner_any b n (some x) w h (ownOk_some hx)
theorem owner_nil (w : World) : Calls Try.prog 11 #[.pointer none] w fun e w' => e = .returned (.tuple #[.int .i64 0, .bool false]) ∧ Still w w' := by
  go_enter Try.func11, Try.ntmps11
  go_wp2_with fail
  go_ret2
  exact ⟨rfl, by (repeat (first | (with_reducible exact Kept.refl _ _) | (with_reducible refine Kept.drewN ?_ _) | (with_reducible refine Kept.drew ?_) | (with_reducible refine Kept.put ?_ _ _) | (with_reducible refine Kept.alloc ?_ _)))⟩
theorem may_any (b : Nat) (who n : Int) (o : Option Int) (w : World) (h : LockAt w b o n) (ho : OwnOk o) :
    Calls Try.prog 15 #[.pointer (some ⟨b, 0, none⟩), .int .i64 who] w fun e w' => e = .returned (.bool (tryB o who)) ∧ Only b w w' ∧ LockAt w' b o n := by
  obtain ⟨l, t, u, hb⟩ := h
  by_cases h0 : who < 0
  · have hB : tryB o who = false := by unfold tryB; rw [decide_eq_false (by omega), Bool.and_false]
    go_enter Try.func15, Try.ntmps15
    go_wp2_with fail
    go_ret
    exact ⟨rfl, by (repeat (first | (with_reducible exact Kept.refl _ _) | (with_reducible refine Kept.drewN ?_ _) | (with_reducible refine Kept.drew ?_) | (with_reducible refine Kept.put ?_ _ _) | (with_reducible refine Kept.alloc ?_ _))), _, _, _, hb⟩
  · cases o with
    | none =>
      have hB : tryB none who = true := by unfold tryB; rw [decide_eq_true (by omega)]; rfl
      simp only [ownV] at hb
      go_enter Try.func15, Try.ntmps15
      go_wp2_with fail
      refine (load_any b 0 _ 0 l rfl _ _ hb rfl rfl).mono ?_
      rintro e w1 ⟨rfl, k1, b1⟩
      go_wp2_with fail
      go_ret
      exact ⟨by rw [hB]; rfl, k1, _, _, _, b1⟩
    | some x =>
      have hx := ho x rfl
      simp only [ownV] at hb
      have h1 : (x + 1 == 0) = false := by rw [beq_eq_false_iff_ne]; omega
      go_enter Try.func15, Try.ntmps15
      go_wp2_with fail
      refine (load_any b 0 _ (x + 1) l rfl _ _ hb rfl rfl).mono ?_
      rintro e w1 ⟨rfl, k1, b1⟩
      go_wp2_with fail
      go_ret
      exact ⟨by simp [h1, tryB], k1, _, _, _, b1⟩
theorem may_nil (who : Int) (w : World) : Calls Try.prog 15 #[.pointer none, .int .i64 who] w fun e w' => e = .returned (.bool false) ∧ Still w w' := by
  go_enter Try.func15, Try.ntmps15
  go_wp2_with fail
  go_ret
  exact ⟨rfl, by (repeat (first | (with_reducible exact Kept.refl _ _) | (with_reducible refine Kept.drewN ?_ _) | (with_reducible refine Kept.drew ?_) | (with_reducible refine Kept.put ?_ _ _) | (with_reducible refine Kept.alloc ?_ _)))⟩
theorem turns_any (b : Nat) (n : Int) (o : Option Int) (w : World) (h : LockAt w b o n) :
    Calls Try.prog 12 #[.pointer (some ⟨b, 0, none⟩)] w fun e w' => e = .returned (.int .i64 n) ∧ Still w w' := by
  obtain ⟨l, t, u, hb⟩ := h
  have c4 := hb.cell 4
  go_enter Try.func12, Try.ntmps12
  go_wp2_with fail
  go_ret
  exact ⟨rfl, by (repeat (first | (with_reducible exact Kept.refl _ _) | (with_reducible refine Kept.drewN ?_ _) | (with_reducible refine Kept.drew ?_) | (with_reducible refine Kept.put ?_ _ _) | (with_reducible refine Kept.alloc ?_ _)))⟩
theorem turns_nil (w : World) : Calls Try.prog 12 #[.pointer none] w fun e w' => e = .returned (.int .i64 0) ∧ Still w w' := by
  go_enter Try.func12, Try.ntmps12
  go_wp2_with fail
  go_ret
  exact ⟨rfl, by (repeat (first | (with_reducible exact Kept.refl _ _) | (with_reducible refine Kept.drewN ?_ _) | (with_reducible refine Kept.drew ?_) | (with_reducible refine Kept.put ?_ _ _) | (with_reducible refine Kept.alloc ?_ _)))⟩
theorem try_nil (who : Int) (w : World) : Calls Try.prog 10 #[.pointer none, .int .i64 who] w fun e w' => e = .returned (.bool false) ∧ Still w w' := by
  go_enter Try.func10, Try.ntmps10
  go_wp2_with fail
  go_ret
  exact ⟨rfl, by (repeat (first | (with_reducible exact Kept.refl _ _) | (with_reducible refine Kept.drewN ?_ _) | (with_reducible refine Kept.drew ?_) | (with_reducible refine Kept.put ?_ _ _) | (with_reducible refine Kept.alloc ?_ _)))⟩
theorem leave_nil (who : Int) (w : World) : Calls Try.prog 9 #[.pointer none, .int .i64 who] w fun e w' => e = .returned (.int .i64 7) ∧ Still w w' := by
  go_enter Try.func9, Try.ntmps9
  go_wp2_with fail
  go_ret
  exact ⟨rfl, by (repeat (first | (with_reducible exact Kept.refl _ _) | (with_reducible refine Kept.drewN ?_ _) | (with_reducible refine Kept.drew ?_) | (with_reducible refine Kept.put ?_ _ _) | (with_reducible refine Kept.alloc ?_ _)))⟩

set_option maxHeartbeats 400000 in
theorem lockAlive (w : World) : Calls Try.prog 7 #[] w fun e w' => e = .returned (.bool true) ∧ Below w.heap.size w w' := by
  go_enter Try.func7, Try.ntmps7
  go_wp2_with fail
  refine (lockNew w).mono ?_
  rintro e w1 ⟨rfl, k1, b1⟩
  have kw1 := below_still (Below.refl _ w) k1 (Nat.le_refl _)
  obtain ⟨L, hL⟩ : ∃ L, w.heap.size = L := ⟨_, rfl⟩
  rw [hL] at b1 ⊢
  go_wp2_with fail
  refine (try_yes L 3 0 w1 b1 (by omega) (by omega)).mono ?_
  rintro e w2 ⟨rfl, k2, b2⟩
  have kw2 := below_only kw1 k2 (Nat.le_refl _) (by omega)
  go_wp2_with fail
  refine (try_no L 4 3 (0+1) w2 b2 (by omega) (by omega)).mono ?_
  rintro e w3 ⟨rfl, k3, b3⟩
  have kw3 := below_only kw2 k3 (Nat.le_refl _) (by omega)
  go_wp2_with fail
  refine (leave_no L 4 (0+1) (some 3) w3 b3 (fun x e => by cases e; omega) (by simp) (by omega)).mono ?_
  rintro e w4 ⟨rfl, k4, b4⟩
  have kw4 := below_only kw3 k4 (Nat.le_refl _) (by omega)
  go_wp2_with fail
  refine (leave_yes L 3 (0+1) w4 b4 (by omega)).mono ?_
  rintro e w5 ⟨rfl, k5, b5⟩
  have kw5 := below_only kw4 k5 (Nat.le_refl _) (by omega)
  go_wp2_with fail
  refine (try_yes L 4 (0+1) w5 b5 (by omega) (by omega)).mono ?_
  rintro e w6 ⟨rfl, k6, b6⟩
  have kw6 := below_only kw5 k6 (Nat.le_refl _) (by omega)
  go_wp2_with fail
  go_ret
  exact ⟨rfl, kw6⟩
end Go.Proofs.Ytonapndcmjnbcaa
