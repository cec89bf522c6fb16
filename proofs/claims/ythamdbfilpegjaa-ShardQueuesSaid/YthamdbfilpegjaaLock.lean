/-
  What stands here: what the methods of a lock do, told by whose it is and how often it became somebody's. Under bounds on who and on the count.
-/
import Derived.Test.YthamdbfilpegjaaTurn
import Derived.Test.YthamdbfilpegjaaText
namespace Go.Proofs.Ythamdbfilpegjaa
set_option linter.unusedVariables false
set_option linter.unusedSimpArgs false
open Go.RowKit Go.Proofs

/-- what the cell holds: 0, or one more than who -/
def ownV : Option Int → Int
  | none => 0
  | some x => x + 1
/-- block b is a lock that is o's, and became somebody's n times -/
def LockAt (w : World) (b : Nat) (o : Option Int) (n : Int) : Prop := ∃ l t u : Int, Blk w b #[.int .i64 (ownV o), .int .i64 l, .int .i64 t, .int .i64 u, .int .i64 n] 90
theorem LockAt.only {w w' : World} {b d : Nat} {o : Option Int} {n : Int} (h : LockAt w b o n) (k : Only d w w') (hn : b ≠ d) : LockAt w' b o n := by
  obtain ⟨l, t, u, h⟩ := h; exact ⟨l, t, u, h.only k hn⟩
theorem LockAt.still {w w' : World} {b : Nat} {o : Option Int} {n : Int} (h : LockAt w b o n) (k : Still w w') : LockAt w' b o n := by
  obtain ⟨l, t, u, h⟩ := h; exact ⟨l, t, u, h.still k⟩
theorem LockAt.lt {w : World} {b : Nat} {o : Option Int} {n : Int} (h : LockAt w b o n) : b < w.heap.size := by
  obtain ⟨l, t, u, h⟩ := h; exact h.lt

theorem lockNew (w : World) : Calls Try.prog 22 #[] w fun e w' => e = .returned (.pointer (some ⟨w.heap.size, 0, none⟩)) ∧ Still w w' ∧ LockAt w' w.heap.size none 0 := by
  go_enter Try.func22, Try.ntmps22
  go_wp2
  go_ret
  exact ⟨rfl, by (repeat (first | (with_reducible exact Kept.refl _ _) | (with_reducible refine Kept.drewN ?_ _) | (with_reducible refine Kept.drew ?_) | (with_reducible refine Kept.put ?_ _ _) | (with_reducible refine Kept.alloc ?_ _))), 0, 0, 0, Blk.new _ _ _⟩

theorem try_fun (A : Nat) (who v : Int) (T : TypeId) (w : World) (hA : Blk w A #[.int .i64 who] T) (hw : 0 ≤ who ∧ who ≤ 1099511627776) :
    Calls Try.prog 42 #[.int .i64 v, .pointer (some ⟨A, 0, none⟩)] w fun e w' => e = .returned (.tuple #[.int .i64 (who + 1), .bool (v == 0)]) ∧ Still w w' := by
  have c0 := hA.cell 0
  go_enter Try.func42, Try.ntmps42
  go_wp2
  go_ret2
  exact ⟨rfl, by (repeat (first | (with_reducible exact Kept.refl _ _) | (with_reducible refine Kept.drewN ?_ _) | (with_reducible refine Kept.drew ?_) | (with_reducible refine Kept.put ?_ _ _) | (with_reducible refine Kept.alloc ?_ _)))⟩
theorem leave_fun (A : Nat) (who v : Int) (T : TypeId) (w : World) (hA : Blk w A #[.int .i64 who] T) (hw : 0 ≤ who ∧ who ≤ 1099511627776) :
    Calls Try.prog 43 #[.int .i64 v, .pointer (some ⟨A, 0, none⟩)] w fun e w' => e = .returned (.tuple #[.int .i64 0, .bool (v == who + 1)]) ∧ Still w w' := by
  have c0 := hA.cell 0
  go_enter Try.func43, Try.ntmps43
  go_wp2
  go_quiet (fail)
  go_wp2
  go_ret2
  exact ⟨rfl, by (repeat (first | (with_reducible exact Kept.refl _ _) | (with_reducible refine Kept.drewN ?_ _) | (with_reducible refine Kept.drew ?_) | (with_reducible refine Kept.put ?_ _ _) | (with_reducible refine Kept.alloc ?_ _)))⟩

theorem try_neg (b : Nat) (who : Int) (w : World) (hw : who < 0) :
    Calls Try.prog 18 #[.pointer (some ⟨b, 0, none⟩), .int .i64 who] w fun e w' => e = .returned (.bool false) ∧ Still w w' := by
  go_enter Try.func18, Try.ntmps18
  go_wp2
  go_ret
  exact ⟨rfl, by (repeat (first | (with_reducible exact Kept.refl _ _) | (with_reducible refine Kept.drewN ?_ _) | (with_reducible refine Kept.drew ?_) | (with_reducible refine Kept.put ?_ _ _) | (with_reducible refine Kept.alloc ?_ _)))⟩

set_option maxHeartbeats 400000 in
theorem try_yes (b : Nat) (who n : Int) (w : World) (h : LockAt w b none n) (hw : 0 ≤ who ∧ who ≤ 1099511627776) (hn : 0 ≤ n ∧ n < 1000000) :
    Calls Try.prog 18 #[.pointer (some ⟨b, 0, none⟩), .int .i64 who] w fun e w' => e = .returned (.bool true) ∧ Only b w w' ∧ LockAt w' b (some who) (n + 1) := by
  obtain ⟨l, t, u, hb⟩ := h
  have hlt := hb.lt
  have bA : Blk (w.alloc (.cells #[.int .i64 who] 3)) w.heap.size #[.int .i64 who] 3 := Blk.new _ _ _
  have bL := hb.alloc (.cells #[.int .i64 who] 3)
  have hk := (only_refl b w).alloc (.cells #[.int .i64 who] 3)
  go_enter Try.func18, Try.ntmps18
  go_wp2_with fail
  refine (turn_yes 42 #[.pointer (some ⟨w.heap.size, 0, none⟩)] ⟨_, Try.func42, by kernel_rfl, by kernel_rfl⟩ b 0 _ 0 l t u (who + 1) rfl rfl rfl _ _ bL rfl rfl rfl rfl
    (fun w1 w2 => Still w1 w2) (fun w1 k1 b1 => (try_fun w.heap.size who 0 _ w1 (bA.only k1 (by omega)) hw).mono (fun e w2 h => ⟨h.1, b1.still h.2, h.2⟩))).mono ?_
  rintro e w1 ⟨rfl, w2, w3, k2, k3, k4, b1⟩
  simp only [List.setIfInBounds_toArray, List.set_cons_succ, List.set_cons_zero, Nat.reduceAdd] at b1
  have c4 := b1.cell 4
  have f4 := b1.free 4
  go_wp2
  go_ret
  exact ⟨rfl, (((hk.trans k2).of_still k3).trans k4).put _ _, _, _, _, by ((repeat' (first | (with_reducible apply Blk.cast b1) | (with_reducible apply Blk.drewN) | (with_reducible apply Blk.drew) | (with_reducible apply Blk.alloc) | (with_reducible apply Blk.set') | (with_reducible apply Blk.other))); (repeat (any_goals rfl)); (all_goals first | omega | (simp; omega)))⟩

set_option maxHeartbeats 400000 in
theorem try_no (b : Nat) (who x n : Int) (w : World) (h : LockAt w b (some x) n) (hx : 0 ≤ x) (hw : 0 ≤ who ∧ who ≤ 1099511627776) :
    Calls Try.prog 18 #[.pointer (some ⟨b, 0, none⟩), .int .i64 who] w fun e w' => e = .returned (.bool false) ∧ Only b w w' ∧ LockAt w' b (some x) n := by
  obtain ⟨l, t, u, hb⟩ := h
  have hlt := hb.lt
  have bA : Blk (w.alloc (.cells #[.int .i64 who] 3)) w.heap.size #[.int .i64 who] 3 := Blk.new _ _ _
  have bL := hb.alloc (.cells #[.int .i64 who] 3)
  have hk := (only_refl b w).alloc (.cells #[.int .i64 who] 3)
  have hne : (ownV (some x) == 0) = false := by simp only [ownV]; rw [beq_eq_false_iff_ne]; omega
  go_enter Try.func18, Try.ntmps18
  go_wp2_with fail
  refine (turn_no 42 #[.pointer (some ⟨w.heap.size, 0, none⟩)] ⟨_, Try.func42, by kernel_rfl, by kernel_rfl⟩ b 0 _ (ownV (some x)) l (who + 1) rfl _ _ bL rfl rfl
    (fun w1 w2 => Still w1 w2) (fun w1 k1 b1 => (try_fun w.heap.size who (ownV (some x)) _ w1 (bA.only k1 (by omega)) hw).mono (fun e w2 h => ⟨h.1.trans (by rw [hne]), b1.still h.2, h.2⟩))).mono ?_
  rintro e w1 ⟨rfl, w2, k2, k3, b1⟩
  go_wp2
  go_ret
  exact ⟨rfl, (hk.trans k2).of_still k3, _, _, _, b1⟩

theorem leave_neg (b : Nat) (who : Int) (w : World) (hw : who < 0) :
    Calls Try.prog 19 #[.pointer (some ⟨b, 0, none⟩), .int .i64 who] w fun e w' => e = .returned (.int .i64 1) ∧ Still w w' := by
  go_enter Try.func19, Try.ntmps19
  go_wp2
  go_ret
  exact ⟨rfl, by (repeat (first | (with_reducible exact Kept.refl _ _) | (with_reducible refine Kept.drewN ?_ _) | (with_reducible refine Kept.drew ?_) | (with_reducible refine Kept.put ?_ _ _) | (with_reducible refine Kept.alloc ?_ _)))⟩

set_option maxHeartbeats 400000 in
theorem leave_yes (b : Nat) (who n : Int) (w : World) (h : LockAt w b (some who) n) (hw : 0 ≤ who ∧ who ≤ 1099511627776) :
    Calls Try.prog 19 #[.pointer (some ⟨b, 0, none⟩), .int .i64 who] w fun e w' => e = .returned (.int .i64 0) ∧ Only b w w' ∧ LockAt w' b none n := by
  obtain ⟨l, t, u, hb⟩ := h
  have hlt := hb.lt
  have bA : Blk (w.alloc (.cells #[.int .i64 who] 3)) w.heap.size #[.int .i64 who] 3 := Blk.new _ _ _
  have bL := hb.alloc (.cells #[.int .i64 who] 3)
  have hk := (only_refl b w).alloc (.cells #[.int .i64 who] 3)
  have he : (ownV (some who) == who + 1) = true := by simp [ownV]
  go_enter Try.func19, Try.ntmps19
  go_wp2_with fail
  refine (turn_yes 43 #[.pointer (some ⟨w.heap.size, 0, none⟩)] ⟨_, Try.func43, by kernel_rfl, by kernel_rfl⟩ b 0 _ (ownV (some who)) l t u 0 rfl rfl rfl _ _ bL rfl rfl rfl rfl
    (fun w1 w2 => Still w1 w2) (fun w1 k1 b1 => (leave_fun w.heap.size who (ownV (some who)) _ w1 (bA.only k1 (by omega)) hw).mono (fun e w2 h => ⟨h.1.trans (by rw [he]), b1.still h.2, h.2⟩))).mono ?_
  rintro e w1 ⟨rfl, w2, w3, k2, k3, k4, b1⟩
  go_wp2
  go_ret
  exact ⟨rfl, ((hk.trans k2).of_still k3).trans k4, _, _, _, b1⟩

set_option maxHeartbeats 400000 in
theorem leave_no (b : Nat) (who n : Int) (o : Option Int) (w : World) (h : LockAt w b o n) (ho : ∀ x, o = some x → 0 ≤ x) (hne : o ≠ some who) (hw : 0 ≤ who ∧ who ≤ 1099511627776) :
    Calls Try.prog 19 #[.pointer (some ⟨b, 0, none⟩), .int .i64 who] w fun e w' => e = .returned (.int .i64 7) ∧ Only b w w' ∧ LockAt w' b o n := by
  obtain ⟨l, t, u, hb⟩ := h
  have hlt := hb.lt
  have bA : Blk (w.alloc (.cells #[.int .i64 who] 3)) w.heap.size #[.int .i64 who] 3 := Blk.new _ _ _
  have bL := hb.alloc (.cells #[.int .i64 who] 3)
  have hk := (only_refl b w).alloc (.cells #[.int .i64 who] 3)
  have he : (ownV o == who + 1) = false := by
    rw [beq_eq_false_iff_ne]
    cases o with
    | none => simp only [ownV]; omega
    | some x => simp only [ownV]; intro e; exact hne (by rw [show x = who by omega])
  go_enter Try.func19, Try.ntmps19
  go_wp2_with fail
  refine (turn_no 43 #[.pointer (some ⟨w.heap.size, 0, none⟩)] ⟨_, Try.func43, by kernel_rfl, by kernel_rfl⟩ b 0 _ (ownV o) l 0 rfl _ _ bL rfl rfl
    (fun w1 w2 => Still w1 w2) (fun w1 k1 b1 => (leave_fun w.heap.size who (ownV o) _ w1 (bA.only k1 (by omega)) hw).mono (fun e w2 h => ⟨h.1.trans (by rw [he]), b1.still h.2, h.2⟩))).mono ?_
  rintro e w1 ⟨rfl, w2, k2, k3, b1⟩
  go_wp2
  go_ret
  exact ⟨rfl, (hk.trans k2).of_still k3, _, _, _, b1⟩
end Go.Proofs.Ythamdbfilpegjaa
