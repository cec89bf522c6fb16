/-
  What stands here: what cells of texts and of pairs do, and what no cell does. Under no condition but that the block holds a cell.
-/
import Derived.Test.YtojjelafkieflaaCellAlive
import Derived.Test.YtojjelafkieflaaText
namespace Go.Proofs.Ytojjelafkieflaa
set_option linter.unusedVariables false
set_option linter.unusedSimpArgs false
open Go.RowKit Go.Proofs

theorem under_pair : Try.prog.underlying 75 = some (.array 2 3) := by kernel_rfl
theorem run_pair_eq (a b c d : Int) (w : World) : (Op.equalIn 10000 75 (.agg #[.int .i64 a, .int .i64 b]) (.agg #[.int .i64 c, .int .i64 d])).run Try.prog w = .ok ((a == c) && (b == d)) w := by
  have hs : ∀ w, (sizeOf 3).run Try.prog w = .ok 1 w := fun _ => by kernel_rfl
  have hi : ∀ w, (isAgg 3).run Try.prog w = .ok false w := fun _ => by kernel_rfl
  have he : ∀ (a b : Int) w, (Op.equalIn 9999 3 (.int .i64 a) (.int .i64 b)).run Try.prog w = .ok (a == b) w := fun a b w => run_equalIn_int w 9998 3 .i64 .i64 a b Try.underlying3
  unfold Op.equalIn
  simp only [Sem.run_bind, run_underlying under_pair, Result.andThen_ok, hs]
  simp [Std.Legacy.Range.forIn_eq_forIn_range', List.range'_succ, Std.Legacy.Range.size, part, hi, he]
  by_cases h1 : a = c <;> by_cases h2 : b = d <;> simp [h1, h2, he]
theorem guard_pair : Try.prog.eqGuardType Try.prog.depth 75 = false := by kernel_rfl
section
variable (w : World)
theorem sstore_nil (s : ByteArray) : Calls Try.prog 40 #[.pointer none, .string s] w fun e w' => e = .returned (.tuple #[]) ∧ w = w' := by
  go_enter Try.func40, Try.ntmps40
  go_wp2
  go_end0
  exact ⟨rfl, rfl⟩
theorem sload_nil : Calls Try.prog 44 #[.pointer none] w fun e w' => e = .returned (.string { data := #[] }) ∧ w = w' := by
  go_enter Try.func44, Try.ntmps44
  go_wp2
  go_ret
  exact ⟨rfl, rfl⟩
theorem scounts_nil : Calls Try.prog 43 #[.pointer none] w fun e w' => e = .returned (.tuple #[.int .i64 0, .int .i64 0, .int .i64 0]) ∧ w = w' := by
  go_enter Try.func43, Try.ntmps43
  go_wp2
  go_ret3
  exact ⟨rfl, rfl⟩
theorem sswap_nil (s t : ByteArray) : Calls Try.prog 45 #[.pointer none, .string s, .string t] w fun e w' => e = .returned (.bool false) ∧ w = w' := by
  go_enter Try.func45, Try.ntmps45
  go_wp2
  go_ret
  exact ⟨rfl, rfl⟩
theorem sturn_nil (v : Value) : Calls Try.prog 41 #[.pointer none, v] w fun e w' => e = .returned (.tuple #[.string { data := #[] }, .bool false]) ∧ w = w' := by
  go_enter Try.func41, Try.ntmps41
  go_wp2_with fail
  refine (sload_nil w).mono ?_
  rintro e w1 ⟨rfl, rfl⟩
  go_wp2
  go_ret2
  exact ⟨rfl, rfl⟩
variable (b : Nat) (l t u : Int) (T : TypeId)
theorem sload (v : ByteArray) (hb : Blk w b #[.string v, .int .i64 l, .int .i64 t, .int .i64 u] T) (hl : 0 ≤ l ∧ l < 1000) :
    Calls Try.prog 44 #[.pointer (some ⟨b, 0, none⟩)] w fun e w' => e = .returned (.string v) ∧ Only b w w' ∧ Blk w' b #[.string v, .int .i64 (l + 1), .int .i64 t, .int .i64 u] T := by
  have c0 := hb.cell 0
  have c1 := hb.cell 1
  have f1 := hb.free 1
  go_enter Try.func44, Try.ntmps44
  go_wp2
  go_ret
  exact ⟨rfl, by (repeat (first | (with_reducible exact Kept.refl _ _) | (with_reducible refine Kept.drewN ?_ _) | (with_reducible refine Kept.drew ?_) | (with_reducible refine Kept.put ?_ _ _) | (with_reducible refine Kept.alloc ?_ _))), by ((repeat' (first | (with_reducible apply Blk.cast hb) | (with_reducible apply Blk.drewN) | (with_reducible apply Blk.drew) | (with_reducible apply Blk.alloc) | (with_reducible apply Blk.set') | (with_reducible apply Blk.other))); (repeat (any_goals rfl)); (all_goals first | omega | (simp; omega)))⟩
theorem sstore (v s : ByteArray) (hb : Blk w b #[.string v, .int .i64 l, .int .i64 t, .int .i64 u] T) :
    Calls Try.prog 40 #[.pointer (some ⟨b, 0, none⟩), .string s] w fun e w' => e = .returned (.tuple #[]) ∧ Only b w w' ∧ Blk w' b #[.string s, .int .i64 l, .int .i64 t, .int .i64 u] T := by
  have c0 := hb.cell 0
  have f0 := hb.free 0
  go_enter Try.func40, Try.ntmps40
  go_wp2
  go_end0
  exact ⟨rfl, by (repeat (first | (with_reducible exact Kept.refl _ _) | (with_reducible refine Kept.drewN ?_ _) | (with_reducible refine Kept.drew ?_) | (with_reducible refine Kept.put ?_ _ _) | (with_reducible refine Kept.alloc ?_ _))), by ((repeat' (first | (with_reducible apply Blk.cast hb) | (with_reducible apply Blk.drewN) | (with_reducible apply Blk.drew) | (with_reducible apply Blk.alloc) | (with_reducible apply Blk.set') | (with_reducible apply Blk.other))); (repeat (any_goals rfl)); (all_goals first | omega | (simp; omega)))⟩
theorem sswap_yes (v s : ByteArray) (hb : Blk w b #[.string v, .int .i64 l, .int .i64 t, .int .i64 u] T) (ht : 0 ≤ t ∧ t < 1000) (hu : 0 ≤ u ∧ u < 1000) :
    Calls Try.prog 45 #[.pointer (some ⟨b, 0, none⟩), .string v, .string s] w fun e w' => e = .returned (.bool true) ∧ Only b w w' ∧ Blk w' b #[.string s, .int .i64 l, .int .i64 (t + 1), .int .i64 (u + 1)] T := by
  have c0 := hb.cell 0
  have c2 := hb.cell 2
  have c3 := hb.cell 3
  have f0 := hb.free 0
  have f2 := hb.free 2
  have f3 := hb.free 3
  go_enter Try.func45, Try.ntmps45
  go_wp2
  go_ret
  exact ⟨rfl, by (repeat (first | (with_reducible exact Kept.refl _ _) | (with_reducible refine Kept.drewN ?_ _) | (with_reducible refine Kept.drew ?_) | (with_reducible refine Kept.put ?_ _ _) | (with_reducible refine Kept.alloc ?_ _))), by ((repeat' (first | (with_reducible apply Blk.cast hb) | (with_reducible apply Blk.drewN) | (with_reducible apply Blk.drew) | (with_reducible apply Blk.alloc) | (with_reducible apply Blk.set') | (with_reducible apply Blk.other))); (repeat (any_goals rfl)); (all_goals first | omega | (simp; omega)))⟩
theorem sswap_no (v x s : ByteArray) (hne : (v.toList == x.toList) = false) (hb : Blk w b #[.string v, .int .i64 l, .int .i64 t, .int .i64 u] T) (ht : 0 ≤ t ∧ t < 1000) :
    Calls Try.prog 45 #[.pointer (some ⟨b, 0, none⟩), .string x, .string s] w fun e w' => e = .returned (.bool false) ∧ Only b w w' ∧ Blk w' b #[.string v, .int .i64 l, .int .i64 (t + 1), .int .i64 u] T := by
  have c0 := hb.cell 0
  have c2 := hb.cell 2
  have f2 := hb.free 2
  go_enter Try.func45, Try.ntmps45
  go_wp2
  go_ret
  exact ⟨rfl, by (repeat (first | (with_reducible exact Kept.refl _ _) | (with_reducible refine Kept.drewN ?_ _) | (with_reducible refine Kept.drew ?_) | (with_reducible refine Kept.put ?_ _ _) | (with_reducible refine Kept.alloc ?_ _))), by ((repeat' (first | (with_reducible apply Blk.cast hb) | (with_reducible apply Blk.drewN) | (with_reducible apply Blk.drew) | (with_reducible apply Blk.alloc) | (with_reducible apply Blk.set') | (with_reducible apply Blk.other))); (repeat (any_goals rfl)); (all_goals first | omega | (simp; omega)))⟩
theorem pof (x y : Int) : Calls Try.prog 46 #[.agg #[.int .i64 x, .int .i64 y]] w fun e w' => ∃ B, e = .returned (.pointer (some ⟨B, 0, none⟩)) ∧ w.heap.size ≤ B ∧ Still w w' ∧
    Blk w' B #[.int .i64 x, .int .i64 y, .int .i64 0, .int .i64 0, .int .i64 0] 87 := by
  go_enter Try.func46, Try.ntmps46
  go_wp2
  go_ret
  exact ⟨_, rfl, by omega, by (repeat (first | (with_reducible exact Kept.refl _ _) | (with_reducible refine Kept.drewN ?_ _) | (with_reducible refine Kept.drew ?_) | (with_reducible refine Kept.put ?_ _ _) | (with_reducible refine Kept.alloc ?_ _))), Blk.newAt _ _ _ (by simp)⟩
theorem pload (x y : Int) (hb : Blk w b #[.int .i64 x, .int .i64 y, .int .i64 l, .int .i64 t, .int .i64 u] T) (hl : 0 ≤ l ∧ l < 1000) :
    Calls Try.prog 48 #[.pointer (some ⟨b, 0, none⟩)] w fun e w' => e = .returned (.agg #[.int .i64 x, .int .i64 y]) ∧ Kept (fun k => k = b) w w' ∧ Blk w' b #[.int .i64 x, .int .i64 y, .int .i64 (l + 1), .int .i64 t, .int .i64 u] T := by
  have hlt := hb.lt
  have c0 := hb.cell 0
  have c1 := hb.cell 1
  have c2 := hb.cell 2
  have f2 := hb.free 2
  go_enter Try.func48, Try.ntmps48
  go_wp2
  refine bodyPost_ret (v := .agg #[.int .i64 x, .int .i64 y]) (by simp [results, Try.results48, go_sem]) rfl ⟨rfl, by (repeat (first | (with_reducible exact Kept.refl _ _) | (with_reducible refine Kept.drewN ?_ _) | (with_reducible refine Kept.drew ?_) | (with_reducible refine Kept.put ?_ _ _) | (with_reducible refine Kept.alloc ?_ _))), by ((repeat' (first | (with_reducible apply Blk.cast hb) | (with_reducible apply Blk.drewN) | (with_reducible apply Blk.drew) | (with_reducible apply Blk.alloc) | (with_reducible apply Blk.set') | (with_reducible apply Blk.other))); (repeat (any_goals rfl)); (all_goals first | omega | (simp; omega)))⟩
theorem pswap_yes (x y x' y' : Int) (hb : Blk w b #[.int .i64 x, .int .i64 y, .int .i64 l, .int .i64 t, .int .i64 u] T) (ht : 0 ≤ t ∧ t < 1000) (hu : 0 ≤ u ∧ u < 1000) :
    Calls Try.prog 47 #[.pointer (some ⟨b, 0, none⟩), .agg #[.int .i64 x, .int .i64 y], .agg #[.int .i64 x', .int .i64 y']] w fun e w' => e = .returned (.bool true) ∧ Kept (fun k => k = b) w w' ∧ Blk w' b #[.int .i64 x', .int .i64 y', .int .i64 l, .int .i64 (t + 1), .int .i64 (u + 1)] T := by
  have hlt := hb.lt
  have c0 := hb.cell 0
  have c1 := hb.cell 1
  have c2 := hb.cell 2
  have c3 := hb.cell 3
  have c4 := hb.cell 4
  have f0 := hb.free 0
  have f1 := hb.free 1
  have f3 := hb.free 3
  have f4 := hb.free 4
  have hq := run_pair_eq x y x y
  have hg := guard_pair
  go_enter Try.func47, Try.ntmps47
  go_wp2
  go_quiet (fail)
  go_wp2
  go_ret
  exact ⟨rfl, by (repeat (first | (with_reducible exact Kept.refl _ _) | (with_reducible refine Kept.drewN ?_ _) | (with_reducible refine Kept.drew ?_) | (with_reducible refine Kept.put ?_ _ _) | (with_reducible refine Kept.alloc ?_ _))), by ((repeat' (first | (with_reducible apply Blk.cast hb) | (with_reducible apply Blk.drewN) | (with_reducible apply Blk.drew) | (with_reducible apply Blk.alloc) | (with_reducible apply Blk.set') | (with_reducible apply Blk.other))); (repeat (any_goals rfl)); (all_goals first | omega | (simp; omega)))⟩
theorem pswap_no (x y p q x' y' : Int) (hne : ((x == p) && (y == q)) = false) (hb : Blk w b #[.int .i64 x, .int .i64 y, .int .i64 l, .int .i64 t, .int .i64 u] T) (ht : 0 ≤ t ∧ t < 1000) :
    Calls Try.prog 47 #[.pointer (some ⟨b, 0, none⟩), .agg #[.int .i64 p, .int .i64 q], .agg #[.int .i64 x', .int .i64 y']] w fun e w' => e = .returned (.bool false) ∧ Kept (fun k => k = b) w w' := by
  have hlt := hb.lt
  have c0 := hb.cell 0
  have c1 := hb.cell 1
  have c3 := hb.cell 3
  have f3 := hb.free 3
  have hq := run_pair_eq x y p q
  rw [hne] at hq
  have hg := guard_pair
  clear hne
  go_enter Try.func47, Try.ntmps47
  go_wp2
  go_quiet (fail)
  go_wp2
  go_ret
  exact ⟨rfl, by (repeat (first | (with_reducible exact Kept.refl _ _) | (with_reducible refine Kept.drewN ?_ _) | (with_reducible refine Kept.drew ?_) | (with_reducible refine Kept.put ?_ _ _) | (with_reducible refine Kept.alloc ?_ _)))⟩
end
end Go.Proofs.Ytojjelafkieflaa
