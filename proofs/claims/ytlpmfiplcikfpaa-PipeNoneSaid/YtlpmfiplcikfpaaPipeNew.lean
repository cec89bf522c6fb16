/-
  What stands here: a pipe is made. Under no condition but that the world holds it.
-/
import Derived.Test.YtlpmfiplcikfpaaPipe
import Derived.Deep.RegionWith
import Derived.Deep.CutRange
import Derived.Deep.CutBlock
namespace Go.Proofs.Ytlpmfiplcikfpaa
set_option linter.unusedVariables false
set_option linter.unusedSimpArgs false
open Go.RowKit Go.Proofs
open Go.Conc

set_option maxRecDepth 100000 in
theorem pnew_no_i (w : World) (n : Int) (hn : n < 1 ∨ 16 < n) :
    Calls Try.prog 8 #[.int .i64 n] w fun e w' => e = .returned (.tuple #[.pointer none, .int .i64 4]) ∧ w = w' := by
  by_cases h1 : n < 1
  · go_enter Try.func8, Try.ntmps8
    go_wp2_with fail
    go_ret2
    exact ⟨rfl, rfl⟩
  · have h2 : 16 < n := by omega
    go_enter Try.func8, Try.ntmps8
    go_wp2_with fail
    go_ret2
    exact ⟨rfl, rfl⟩
set_option maxRecDepth 100000 in
set_option maxHeartbeats 1000000 in
theorem pnew_i (s : LS) (w : World) (h : LW_i s w) (n : Nat) (hn1 : 1 ≤ n) (hn2 : n ≤ 16) :
    Calls Try.prog 8 #[.int .i64 n] w fun e w' => ∃ p c l s', e = .returned (.tuple #[.pointer (some ⟨p, 0, none⟩), .int .i64 0]) ∧ PW_i s' w' p c l n [] 0 false ∧ Still w w' ∧ (∀ y, y < w.heap.size → s'.kd y = s.kd y) ∧ w.heap.size ≤ p ∧ w.heap.size ≤ c ∧ w.heap.size ≤ l ∧ s'.sq = upd s.sq l [] := by
  have hmc := fun w => run_makeChan (P := Try.prog) (w := w) Try.underlying56 (i := (Try.prog.info? 3).getD default) (by kernel_rfl) .i64 n (by omega) (by rw [show ((Try.prog.info? 3).getD default).bytes = 8 by kernel_rfl]; omega)
  go_enter Try.func8, Try.ntmps8
  go_upto_region 3 with fail
  go_region_with (refine (oNew_i s _ (h.still (by (repeat (first | (with_reducible exact Kept.refl _ _) | (with_reducible refine Kept.drewN ?_ _) | (with_reducible refine Kept.drew ?_) | (with_reducible refine Kept.put ?_ _ _) | (with_reducible refine Kept.alloc ?_ _)))))).mono ?_; rintro e w1 ⟨rfl, z1, k1, s1, h1, n1, l1, q1, v1⟩)
  · go_wp2_with fail
    go_ret2
    have kA : Still w w1 := Still.then (((still_refl w).drewN 1).alloc (.chan n #[] false 0 0 false)) k1
    have hcA : w1.heap[w.heap.size]? = some (.chan n #[] false 0 0 false) := (k1.block w.heap.size (by simp [World.drew]) (fun f => f)).trans (heap_alloc_new w.drew _)
    have hcl := lt_of_block hcA
    have k2 : Still w1 (w1.alloc (.cells #[.chan (some w.heap.size), .pointer (some ⟨w.heap.size + 1 + 1, 0, none⟩), .int .i64 0, .bool false] 60)) := by (repeat (first | (with_reducible exact Kept.refl _ _) | (with_reducible refine Kept.drewN ?_ _) | (with_reducible refine Kept.drew ?_) | (with_reducible refine Kept.put ?_ _ _) | (with_reducible refine Kept.alloc ?_ _)))
    have hk0 : ∀ y, y < w.heap.size + 1 → s1.kd y = s.kd y := fun y hy => n1 y (by simpa using hy)
    have q1' : s1.sq = upd s.sq (w.heap.size + 1 + 1) [] := by rw [q1]; simp
    have l1' : s1.kd (w.heap.size + 1 + 1) = 1 := by simpa using l1
    refine ⟨_, _, _, s1, rfl, ⟨Blk.new _ _ _, ⟨0, 0, (k2.block _ hcl (fun f => f)).trans ?_⟩, h1.still k2, l1', h1.fresh _ (Nat.le_refl _), (hk0 _ (by omega)).trans (h.fresh _ (Nat.le_refl _)), ?_, hn1⟩, kA.of_still k2, fun y hy => hk0 y (by omega), kA.size, Nat.le_refl _, by omega, q1'⟩
    · rw [hcA]; simp
    · rw [q1', upd_same]; simp [valsOf_i]
  · go_wp2_with fail
    go_ret2
    have kA : Still w w1 := Still.then ((still_refl w).drewN 1) k1
    have hz1 := kA.size
    have k2 : Still w1 ((w1.alloc (.chan n #[] false 0 0 false)).alloc (.cells #[.chan (some w1.heap.size), .pointer (some ⟨w.heap.size + 1, 0, none⟩), .int .i64 0, .bool false] 60)) := by (repeat (first | (with_reducible exact Kept.refl _ _) | (with_reducible refine Kept.drewN ?_ _) | (with_reducible refine Kept.drew ?_) | (with_reducible refine Kept.put ?_ _ _) | (with_reducible refine Kept.alloc ?_ _)))
    have q1' : s1.sq = upd s.sq (w.heap.size + 1) [] := by rw [q1]; simp
    have l1' : s1.kd (w.heap.size + 1) = 1 := by simpa using l1
    have hcB : ((w1.alloc (.chan n #[] false 0 0 false)).alloc (.cells #[.chan (some w1.heap.size), .pointer (some ⟨w.heap.size + 1, 0, none⟩), .int .i64 0, .bool false] 60)).heap[w1.heap.size]? = some (.chan n #[] false 0 0 false) := by
      rw [Below.heap_alloc _ _ _ (by simp)]; exact heap_alloc_new w1 _
    refine ⟨_, _, _, s1, rfl, ⟨Blk.newAt _ _ _ (by simp), ⟨0, 0, ?_⟩, h1.still k2, l1', h1.fresh _ (by omega), h1.fresh _ (Nat.le_refl _), ?_, hn1⟩, kA.of_still k2, fun y hy => n1 y hy, by omega, hz1, by omega, q1'⟩
    · rw [hcB]; simp
    · rw [q1', upd_same]; simp [valsOf_i]

set_option maxRecDepth 100000 in
theorem pnew_no_s (w : World) (n : Int) (hn : n < 1 ∨ 16 < n) :
    Calls Try.prog 21 #[.int .i64 n] w fun e w' => e = .returned (.tuple #[.pointer none, .int .i64 4]) ∧ w = w' := by
  by_cases h1 : n < 1
  · go_enter Try.func21, Try.ntmps21
    go_wp2_with fail
    go_ret2
    exact ⟨rfl, rfl⟩
  · have h2 : 16 < n := by omega
    go_enter Try.func21, Try.ntmps21
    go_wp2_with fail
    go_ret2
    exact ⟨rfl, rfl⟩
set_option maxRecDepth 100000 in
set_option maxHeartbeats 1000000 in
theorem pnew_s (s : LS) (w : World) (h : LW_s s w) (n : Nat) (hn1 : 1 ≤ n) (hn2 : n ≤ 16) :
    Calls Try.prog 21 #[.int .i64 n] w fun e w' => ∃ p c l s', e = .returned (.tuple #[.pointer (some ⟨p, 0, none⟩), .int .i64 0]) ∧ PW_s s' w' p c l n [] 0 false ∧ Still w w' ∧ (∀ y, y < w.heap.size → s'.kd y = s.kd y) ∧ w.heap.size ≤ p ∧ w.heap.size ≤ c ∧ w.heap.size ≤ l ∧ s'.sq = upd s.sq l [] := by
  have hmc := fun w => run_makeChan (P := Try.prog) (w := w) Try.underlying71 (i := (Try.prog.info? 9).getD default) (by kernel_rfl) .i64 n (by omega) (by rw [show ((Try.prog.info? 9).getD default).bytes = 16 by kernel_rfl]; omega)
  go_enter Try.func21, Try.ntmps21
  go_upto_region 3 with fail
  go_region_with (refine (oNew_s s _ (h.still (by (repeat (first | (with_reducible exact Kept.refl _ _) | (with_reducible refine Kept.drewN ?_ _) | (with_reducible refine Kept.drew ?_) | (with_reducible refine Kept.put ?_ _ _) | (with_reducible refine Kept.alloc ?_ _)))))).mono ?_; rintro e w1 ⟨rfl, z1, k1, s1, h1, n1, l1, q1, v1⟩)
  · go_wp2_with fail
    go_ret2
    have kA : Still w w1 := Still.then (((still_refl w).drewN 1).alloc (.chan n #[] false 0 0 false)) k1
    have hcA : w1.heap[w.heap.size]? = some (.chan n #[] false 0 0 false) := (k1.block w.heap.size (by simp [World.drew]) (fun f => f)).trans (heap_alloc_new w.drew _)
    have hcl := lt_of_block hcA
    have k2 : Still w1 (w1.alloc (.cells #[.chan (some w.heap.size), .pointer (some ⟨w.heap.size + 1 + 1, 0, none⟩), .int .i64 0, .bool false] 75)) := by (repeat (first | (with_reducible exact Kept.refl _ _) | (with_reducible refine Kept.drewN ?_ _) | (with_reducible refine Kept.drew ?_) | (with_reducible refine Kept.put ?_ _ _) | (with_reducible refine Kept.alloc ?_ _)))
    have hk0 : ∀ y, y < w.heap.size + 1 → s1.kd y = s.kd y := fun y hy => n1 y (by simpa using hy)
    have q1' : s1.sq = upd s.sq (w.heap.size + 1 + 1) [] := by rw [q1]; simp
    have l1' : s1.kd (w.heap.size + 1 + 1) = 1 := by simpa using l1
    refine ⟨_, _, _, s1, rfl, ⟨Blk.new _ _ _, ⟨0, 0, (k2.block _ hcl (fun f => f)).trans ?_⟩, h1.still k2, l1', h1.fresh _ (Nat.le_refl _), (hk0 _ (by omega)).trans (h.fresh _ (Nat.le_refl _)), ?_, hn1⟩, kA.of_still k2, fun y hy => hk0 y (by omega), kA.size, Nat.le_refl _, by omega, q1'⟩
    · rw [hcA]; simp
    · rw [q1', upd_same]; simp [valsOf_s]
  · go_wp2_with fail
    go_ret2
    have kA : Still w w1 := Still.then ((still_refl w).drewN 1) k1
    have hz1 := kA.size
    have k2 : Still w1 ((w1.alloc (.chan n #[] false 0 0 false)).alloc (.cells #[.chan (some w1.heap.size), .pointer (some ⟨w.heap.size + 1, 0, none⟩), .int .i64 0, .bool false] 75)) := by (repeat (first | (with_reducible exact Kept.refl _ _) | (with_reducible refine Kept.drewN ?_ _) | (with_reducible refine Kept.drew ?_) | (with_reducible refine Kept.put ?_ _ _) | (with_reducible refine Kept.alloc ?_ _)))
    have q1' : s1.sq = upd s.sq (w.heap.size + 1) [] := by rw [q1]; simp
    have l1' : s1.kd (w.heap.size + 1) = 1 := by simpa using l1
    have hcB : ((w1.alloc (.chan n #[] false 0 0 false)).alloc (.cells #[.chan (some w1.heap.size), .pointer (some ⟨w.heap.size + 1, 0, none⟩), .int .i64 0, .bool false] 75)).heap[w1.heap.size]? = some (.chan n #[] false 0 0 false) := by
      rw [Below.heap_alloc _ _ _ (by simp)]; exact heap_alloc_new w1 _
    refine ⟨_, _, _, s1, rfl, ⟨Blk.newAt _ _ _ (by simp), ⟨0, 0, ?_⟩, h1.still k2, l1', h1.fresh _ (by omega), h1.fresh _ (Nat.le_refl _), ?_, hn1⟩, kA.of_still k2, fun y hy => n1 y hy, by omega, hz1, by omega, q1'⟩
    · rw [hcB]; simp
    · rw [q1', upd_same]; simp [valsOf_s]

end Go.Proofs.Ytlpmfiplcikfpaa
