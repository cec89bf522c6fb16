/-
  What stands here: what one act does with a cell, and with the document's cell: the same. Under bounds on the counts.
-/
import Derived.Test.YtojjelafkieflaaCellAlive
import Derived.Test.YtojjelafkieflaaTurn
import Derived.Test.YtojjelafkieflaaText
namespace Go.Proofs.Ytojjelafkieflaa
set_option linter.unusedVariables false
set_option linter.unusedSimpArgs false
open Go.RowKit Go.Proofs

/-- one act: what it answers, and the value and the counts behind it -/
def stp (k x n v l t u : Int) : (Int × Bool) × (Int × Int × Int × Int) :=
  if k = 0 then ((v, false), (v, l + 1, t, u))
  else if k = 1 then ((0, false), (n, l, t, u))
  else if k = 2 then (if v = x then ((0, true), (n, l, t + 1, u + 1)) else ((0, false), (v, l, t + 1, u)))
  else if k = 3 then (if x < v then ((v, true), (n, l + 1, t + 1, u + 1)) else ((v, false), (v, l + 1, t, u)))
  else ((0, false), (v, l, t, u))

def stpAns (r : (Int × Bool) × (Int × Int × Int × Int)) : Ending := .returned (.tuple #[.int .i64 r.1.1, .bool r.1.2])
def stpCells (r : (Int × Bool) × (Int × Int × Int × Int)) : Array Value := #[.int .i64 r.2.1, .int .i64 r.2.2.1, .int .i64 r.2.2.2.1, .int .i64 r.2.2.2.2]

/-- the function that act hands to Turn -/
theorem act_fun (A : Nat) (k x n v : Int) (T : TypeId) (w : World) (hA : Blk w A #[.int .i64 k, .int .i64 x, .int .i64 n] T) :
    Calls Try.prog 56 #[.int .i64 v, .pointer (some ⟨A, 0, none⟩)] w fun e w' => e = .returned (.tuple #[.int .i64 n, .bool (decide (x < v))]) ∧ Still w w' := by
  have c1 := hA.cell 1
  have c2 := hA.cell 2
  go_enter Try.func56, Try.ntmps56
  go_wp2
  go_quiet (fail)
  go_wp2
  go_ret2
  exact ⟨rfl, (still_refl w).drewN _⟩

set_option maxHeartbeats 2000000 in
theorem act_any (b : Nat) (k x n v l t u : Int) (T : TypeId) (w : World) (hb : Blk w b #[.int .i64 v, .int .i64 l, .int .i64 t, .int .i64 u] T)
    (hl : 0 ≤ l ∧ l < 1000000) (ht : 0 ≤ t ∧ t < 1000000) (hu : 0 ≤ u ∧ u < 1000000) :
    Calls Try.prog 38 #[.pointer (some ⟨b, 0, none⟩), .agg #[.int .i64 k, .int .i64 x, .int .i64 n]] w fun e w' => e = stpAns (stp k x n v l t u) ∧ Only b w w' ∧ Blk w' b (stpCells (stp k x n v l t u)) T := by
  have hx := (only_refl b w).alloc (.cells #[.int .i64 k, .int .i64 x, .int .i64 n] 61)
  have bx := hb.alloc (.cells #[.int .i64 k, .int .i64 x, .int .i64 n] 61)
  have ba : Blk (w.alloc (.cells #[.int .i64 k, .int .i64 x, .int .i64 n] 61)) w.heap.size #[.int .i64 k, .int .i64 x, .int .i64 n] 61 := Blk.new _ _ _
  have hlt := hb.lt
  by_cases h0 : k = 0
  · have e : stp k x n v l t u = ((v, false), (v, l + 1, t, u)) := by simp [stp, h0]
    rw [e]
    subst h0
    go_enter Try.func38, Try.ntmps38
    go_wp2_with fail
    refine (load_any b 0 _ v l (wrap64_in _ (by omega) (by omega)) T _ bx rfl rfl).mono ?_
    rintro e w1 ⟨rfl, k1, b1⟩
    go_wp2
    go_ret2
    exact ⟨rfl, hx.trans k1, b1⟩
  by_cases h1 : k = 1
  · have e : stp k x n v l t u = ((0, false), (n, l, t, u)) := by simp [stp, h1]
    rw [e]
    subst h1
    go_enter Try.func38, Try.ntmps38
    go_wp2_with fail
    refine (store_any b 0 _ v n T _ bx rfl).mono ?_
    rintro e w1 ⟨rfl, k1, b1⟩
    go_wp2
    go_ret2
    exact ⟨rfl, hx.trans k1, b1⟩
  by_cases h2 : k = 2
  · subst h2
    by_cases hv : v = x
    · have e : stp 2 x n v l t u = ((0, true), (n, l, t + 1, u + 1)) := by simp [stp, hv]
      rw [e]
      subst hv
      go_enter Try.func38, Try.ntmps38
      go_wp2_with fail
      refine (swap_yes b 0 _ v n t u (wrap64_in _ (by omega) (by omega)) (wrap64_in _ (by omega) (by omega)) T _ bx rfl rfl rfl).mono ?_
      rintro e w1 ⟨rfl, k1, b1⟩
      go_wp2
      go_ret2
      exact ⟨rfl, hx.trans k1, b1⟩
    · have e : stp 2 x n v l t u = ((0, false), (v, l, t + 1, u)) := by simp [stp, hv]
      rw [e]
      go_enter Try.func38, Try.ntmps38
      go_wp2_with fail
      refine (swap_no b 0 _ v x n t (wrap64_in _ (by omega) (by omega)) T _ (by simpa using hv) bx rfl rfl).mono ?_
      rintro e w1 ⟨rfl, k1, b1⟩
      go_wp2
      go_ret2
      exact ⟨rfl, hx.trans k1, b1⟩
  by_cases h3 : k = 3
  · subst h3
    by_cases hv : x < v
    · have e : stp 3 x n v l t u = ((v, true), (n, l + 1, t + 1, u + 1)) := by simp [stp, hv]
      rw [e]
      have hd : decide (x < v) = true := by simpa using hv
      go_enter Try.func38, Try.ntmps38
      go_wp2_with fail
      refine (turn_yes 56 #[.pointer (some ⟨w.heap.size, 0, none⟩)] ⟨_, Try.func56, by kernel_rfl, by kernel_rfl⟩ b 0 _ v l t u n (wrap64_in _ (by omega) (by omega)) (wrap64_in _ (by omega) (by omega)) (wrap64_in _ (by omega) (by omega)) T _ bx rfl rfl rfl rfl
        (fun w1 w2 => Still w1 w2) (fun w1 k1 b1 => (act_fun w.heap.size 3 x n v _ w1 (ba.only k1 (by omega))).mono (fun e w2 h => ⟨h.1.trans (by rw [hd]), b1.still h.2, h.2⟩))).mono ?_
      rintro e w1 ⟨rfl, w2, w3, k2, k3, k4, b1⟩
      go_wp2
      go_ret2
      exact ⟨rfl, ((hx.trans k2).of_still k3).trans k4, b1⟩
    · have e : stp 3 x n v l t u = ((v, false), (v, l + 1, t, u)) := by simp [stp, hv]
      rw [e]
      have hd : decide (x < v) = false := by simpa using hv
      go_enter Try.func38, Try.ntmps38
      go_wp2_with fail
      refine (turn_no 56 #[.pointer (some ⟨w.heap.size, 0, none⟩)] ⟨_, Try.func56, by kernel_rfl, by kernel_rfl⟩ b 0 _ v l n (wrap64_in _ (by omega) (by omega)) T _ bx rfl rfl
        (fun w1 w2 => Still w1 w2) (fun w1 k1 b1 => (act_fun w.heap.size 3 x n v _ w1 (ba.only k1 (by omega))).mono (fun e w2 h => ⟨h.1.trans (by rw [hd]), b1.still h.2, h.2⟩))).mono ?_
      rintro e w1 ⟨rfl, w2, k2, k3, b1⟩
      go_wp2
      go_ret2
      exact ⟨rfl, (hx.trans k2).of_still k3, b1⟩
  · have e : stp k x n v l t u = ((0, false), (v, l, t, u)) := by simp [stp, h0, h1, h2, h3]
    rw [e]
    have g0 : (k == 0) = false := by simpa using h0
    have g1 : (k == 1) = false := by simpa using h1
    have g2 : (k == 2) = false := by simpa using h2
    have g3 : (k == 3) = false := by simpa using h3
    go_enter Try.func38, Try.ntmps38
    go_wp2
    go_ret2
    exact ⟨rfl, hx, bx⟩

set_option maxHeartbeats 2000000 in
theorem do_any (b : Nat) (k x n v l t u : Int) (T : TypeId) (w : World) (hb : Blk w b #[.int .i64 v, .int .i64 l, .int .i64 t, .int .i64 u] T)
    (hl : 0 ≤ l ∧ l < 1000000) (ht : 0 ≤ t ∧ t < 1000000) (hu : 0 ≤ u ∧ u < 1000000) :
    Calls Try.prog 39 #[.pointer (some ⟨b, 0, none⟩), .agg #[.int .i64 k, .int .i64 x, .int .i64 n]] w fun e w' => e = stpAns (stp k x n v l t u) ∧ Only b w w' ∧ Blk w' b (stpCells (stp k x n v l t u)) T := by
  have hlt := hb.lt
  have c0 := hb.cell 0
  have c1 := hb.cell 1
  have c2 := hb.cell 2
  have c3 := hb.cell 3
  have f0 := hb.free 0
  have f1 := hb.free 1
  have f2 := hb.free 2
  have f3 := hb.free 3
  by_cases h0 : k = 0
  · have e : stp k x n v l t u = ((v, false), (v, l + 1, t, u)) := by simp [stp, h0]
    rw [e]
    subst h0
    clear e
    go_enter Try.func39, Try.ntmps39
    go_wp2
    go_ret2
    exact ⟨rfl, by (repeat (first | (with_reducible exact Kept.refl _ _) | (with_reducible refine Kept.drewN ?_ _) | (with_reducible refine Kept.drew ?_) | (with_reducible refine Kept.put ?_ _ _) | (with_reducible refine Kept.alloc ?_ _))), by ((repeat' (first | (with_reducible apply Blk.cast hb) | (with_reducible apply Blk.drewN) | (with_reducible apply Blk.drew) | (with_reducible apply Blk.alloc) | (with_reducible apply Blk.set') | (with_reducible apply Blk.other))); (repeat (any_goals rfl)); (all_goals first | omega | (simp; omega)))⟩
  by_cases h1 : k = 1
  · have e : stp k x n v l t u = ((0, false), (n, l, t, u)) := by simp [stp, h1]
    rw [e]
    subst h1
    clear e h0
    go_enter Try.func39, Try.ntmps39
    go_wp2
    go_ret2
    exact ⟨rfl, by (repeat (first | (with_reducible exact Kept.refl _ _) | (with_reducible refine Kept.drewN ?_ _) | (with_reducible refine Kept.drew ?_) | (with_reducible refine Kept.put ?_ _ _) | (with_reducible refine Kept.alloc ?_ _))), by ((repeat' (first | (with_reducible apply Blk.cast hb) | (with_reducible apply Blk.drewN) | (with_reducible apply Blk.drew) | (with_reducible apply Blk.alloc) | (with_reducible apply Blk.set') | (with_reducible apply Blk.other))); (repeat (any_goals rfl)); (all_goals first | omega | (simp; omega)))⟩
  by_cases h2 : k = 2
  · subst h2
    clear h0 h1
    by_cases hv : v = x
    · have e : stp 2 x n v l t u = ((0, true), (n, l, t + 1, u + 1)) := by simp [stp, hv]
      rw [e]
      subst hv
      clear e
      go_enter Try.func39, Try.ntmps39
      go_wp2
      go_quiet (fail)
      go_wp2
      go_ret2
      exact ⟨rfl, by (repeat (first | (with_reducible exact Kept.refl _ _) | (with_reducible refine Kept.drewN ?_ _) | (with_reducible refine Kept.drew ?_) | (with_reducible refine Kept.put ?_ _ _) | (with_reducible refine Kept.alloc ?_ _))), by ((repeat' (first | (with_reducible apply Blk.cast hb) | (with_reducible apply Blk.drewN) | (with_reducible apply Blk.drew) | (with_reducible apply Blk.alloc) | (with_reducible apply Blk.set') | (with_reducible apply Blk.other))); (repeat (any_goals rfl)); (all_goals first | omega | (simp; omega)))⟩
    · have e : stp 2 x n v l t u = ((0, false), (v, l, t + 1, u)) := by simp [stp, hv]
      rw [e]
      have hv' : (v == x) = false := by simpa using hv
      clear e hv
      go_enter Try.func39, Try.ntmps39
      go_wp2
      go_quiet (fail)
      go_wp2
      go_ret2
      exact ⟨rfl, by (repeat (first | (with_reducible exact Kept.refl _ _) | (with_reducible refine Kept.drewN ?_ _) | (with_reducible refine Kept.drew ?_) | (with_reducible refine Kept.put ?_ _ _) | (with_reducible refine Kept.alloc ?_ _))), by ((repeat' (first | (with_reducible apply Blk.cast hb) | (with_reducible apply Blk.drewN) | (with_reducible apply Blk.drew) | (with_reducible apply Blk.alloc) | (with_reducible apply Blk.set') | (with_reducible apply Blk.other))); (repeat (any_goals rfl)); (all_goals first | omega | (simp; omega)))⟩
  by_cases h3 : k = 3
  · subst h3
    clear h0 h1 h2
    by_cases hv : x < v
    · have e : stp 3 x n v l t u = ((v, true), (n, l + 1, t + 1, u + 1)) := by simp [stp, hv]
      rw [e]
      clear e
      go_enter Try.func39, Try.ntmps39
      go_wp2
      go_ret2
      exact ⟨rfl, by (repeat (first | (with_reducible exact Kept.refl _ _) | (with_reducible refine Kept.drewN ?_ _) | (with_reducible refine Kept.drew ?_) | (with_reducible refine Kept.put ?_ _ _) | (with_reducible refine Kept.alloc ?_ _))), by ((repeat' (first | (with_reducible apply Blk.cast hb) | (with_reducible apply Blk.drewN) | (with_reducible apply Blk.drew) | (with_reducible apply Blk.alloc) | (with_reducible apply Blk.set') | (with_reducible apply Blk.other))); (repeat (any_goals rfl)); (all_goals first | omega | (simp; omega)))⟩
    · have e : stp 3 x n v l t u = ((v, false), (v, l + 1, t, u)) := by simp [stp, hv]
      rw [e]
      clear e
      go_enter Try.func39, Try.ntmps39
      go_wp2
      go_ret2
      exact ⟨rfl, by (repeat (first | (with_reducible exact Kept.refl _ _) | (with_reducible refine Kept.drewN ?_ _) | (with_reducible refine Kept.drew ?_) | (with_reducible refine Kept.put ?_ _ _) | (with_reducible refine Kept.alloc ?_ _))), by ((repeat' (first | (with_reducible apply Blk.cast hb) | (with_reducible apply Blk.drewN) | (with_reducible apply Blk.drew) | (with_reducible apply Blk.alloc) | (with_reducible apply Blk.set') | (with_reducible apply Blk.other))); (repeat (any_goals rfl)); (all_goals first | omega | (simp; omega)))⟩
  · have e : stp k x n v l t u = ((0, false), (v, l, t, u)) := by simp [stp, h0, h1, h2, h3]
    rw [e]
    have g0 : (k == 0) = false := by simpa using h0
    have g1 : (k == 1) = false := by simpa using h1
    have g2 : (k == 2) = false := by simpa using h2
    have g3 : (k == 3) = false := by simpa using h3
    clear e h0 h1 h2 h3
    go_enter Try.func39, Try.ntmps39
    go_wp2
    go_ret2
    exact ⟨rfl, by (repeat (first | (with_reducible exact Kept.refl _ _) | (with_reducible refine Kept.drewN ?_ _) | (with_reducible refine Kept.drew ?_) | (with_reducible refine Kept.put ?_ _ _) | (with_reducible refine Kept.alloc ?_ _))), by ((repeat' (first | (with_reducible apply Blk.cast hb) | (with_reducible apply Blk.drewN) | (with_reducible apply Blk.drew) | (with_reducible apply Blk.alloc) | (with_reducible apply Blk.set') | (with_reducible apply Blk.other))); (repeat (any_goals rfl)); (all_goals first | omega | (simp; omega)))⟩
end Go.Proofs.Ytojjelafkieflaa
