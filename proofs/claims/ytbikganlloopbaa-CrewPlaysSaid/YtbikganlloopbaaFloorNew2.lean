/-
  What stands here: a new slab and a new log keep all. Under no condition.
-/
import Derived.Test.YtbikganlloopbaaFloorNew
namespace Go.Proofs.Ytbikganlloopbaa
set_option linter.unusedVariables false
set_option linter.unusedSimpArgs false
open Go.RowKit Go.Proofs
theorem fgnew (w : World) : Calls Try.prog 30 #[] w fun e w' => e = .returned (.pointer (some ⟨w.heap.size, 0, none⟩)) ∧ Still w w' ∧ Blk w' w.heap.size #[.slice none 0 0] 137 := by
  go_enter Try.func30, Try.ntmps30
  go_wp2_with fail
  go_ret
  exact ⟨rfl, by (repeat (first | (with_reducible exact Kept.refl _ _) | (with_reducible refine Kept.drewN ?_ _) | (with_reducible refine Kept.drew ?_) | (with_reducible refine Kept.put ?_ _ _) | (with_reducible refine Kept.alloc ?_ _))), Blk.new _ _ _⟩
theorem infoRec : (Try.prog.info? 240).map (fun i => (i.zero, i.size, i.bytes)) = some (some (.agg #[.int .u64 0, .int .i64 0, .int .i64 0, .int .i64 0, .int .u64 0, .int .u64 0]), 6, 48) := by kernel_rfl
set_option maxHeartbeats 1000000 in
set_option maxRecDepth 100000 in
theorem fsnew (n : Nat) (h1 : 1 ≤ n) (h64 : n ≤ 64) (w : World) :
    Calls Try.prog 31 #[.int .i64 n] w fun e w' => (∃ b, e = .returned (.tuple #[.pointer (some ⟨b, 0, none⟩), .int .i64 0])) ∧ Still w w' := by
  obtain ⟨i0, hi, hz0, hz1, hz2⟩ := info_parts infoRec
  go_enter Try.func31, Try.ntmps31
  go_wp2_with (first | (at_make; refine wpList_make_full _ rfl _ _ 138 rfl w.heap.size 240 i0 (.agg #[.int .u64 0, .int .i64 0, .int .i64 0, .int .i64 0, .int .u64 0, .int .u64 0]) 6 Try.underlying138 hi hz0 hz1 _ _ _ _ n rfl rfl rfl rfl (by rw [hz2]; omega) (by unfold maxLen; omega) (Nat.le_refl _) ?_) | fail)
  intro w1 how hgr
  have k1 : Still w w1 := (Kept.refl (fun _ => False) w).grown hgr (fun k e _ => by cases e)
  clear how hgr
  go_wp2_with fail
  go_ret2
  exact ⟨⟨_, rfl⟩, k1.alloc _⟩
end Go.Proofs.Ytbikganlloopbaa
