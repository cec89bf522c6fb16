/-
  What stands here: the two steps of a worker. Under no condition but that the world holds it.
-/
import Derived.Test.YtbikganlloopbaaCrewFns
namespace Go.Proofs.Ytbikganlloopbaa
set_option linter.unusedVariables false
set_option linter.unusedSimpArgs false
open Go.RowKit Go.Proofs
abbrev putsV (k : Nat) : Value := .func (.func 62) #[.pointer (some ⟨k, 0, none⟩)] #[]
abbrev takesV (k : Nat) : Value := .func (.func 35) #[.pointer (some ⟨k, 0, none⟩)] #[]
abbrev rowV (b4 b5 b3 : Nat) : Value := .func (.func 78) #[] #[.pointer (some ⟨b4, 0, none⟩), .pointer (some ⟨b5, 0, none⟩), .pointer (some ⟨b3, 0, none⟩)]
abbrev thenV (b1 b2 : Nat) : Value := .func (.func 77) #[] #[.pointer (some ⟨b1, 0, none⟩), .pointer (some ⟨b2, 0, none⟩)]
theorem puts_neq (k : Nat) (w : World) : Sem.run Try.prog (binOp .neq 1 (putsV k) .nilFunc) w = .ok (.bool true) w := by kernel_rfl
theorem stage_set {w : World} {R : Nat} {T : TypeId} {x0 x1 : Value} (b : Blk w R #[x0, x1] T) (u v : Value) : ∃ w4, w4 = ((w.setCell ⟨R, 0, none⟩ u).setCell ⟨R, 1, none⟩ v) ∧ Kept (· = R) w w4 ∧ Blk w4 R #[u, v] T :=
  ⟨_, rfl, ((Kept.refl _ w).put 0 _).put 1 _, (b.set 0 _).set 1 _⟩
set_option maxHeartbeats 1000000 in
theorem prow_one (k a : Nat) (w : World) (ha : Blk w a #[putsV k] 1) :
    Calls Try.prog 61 #[.slice (some ⟨a, 0, none⟩) 1 1] w fun e w' => ∃ b4 b5 b3, e = .returned (.agg #[.nilFunc, rowV b4 b5 b3]) ∧ Still w w' ∧ w.heap.size ≤ b3 ∧ w.heap.size ≤ b4 ∧ w.heap.size ≤ b5 ∧
      Blk w' b4 #[putsV k] 1 ∧ Blk w' b5 #[.slice (some ⟨a, 0, none⟩) 1 1] 197 ∧ Blk w' b3 #[.int .i64 0] 3 := by
  have hE := fun w => puts_neq k w
  have hidx : ∀ W, (Instr.indexAt 197 (.slice (some ⟨a, 0, none⟩) 1 1) (.int .i64 0)).run Try.prog W = .ok (.pointer (some ⟨a, 0, none⟩)) W := fun W => by kernel_rfl
  obtain ⟨B, hB⟩ : ∃ B, B = w.heap.size := ⟨_, rfl⟩
  obtain ⟨w0, hw0⟩ : ∃ w0, w0 = (w.alloc (.cells #[.slice (some ⟨a, 0, none⟩) 1 1] 197)).alloc (.cells #[.nilFunc, .nilFunc] 100) := ⟨_, rfl⟩
  have k0 : Still w w0 := by rw [hw0]; exact ((still_refl w).alloc _).alloc _
  have b5 : Blk w0 B #[.slice (some ⟨a, 0, none⟩) 1 1] 197 := by rw [hw0, hB]; exact (Blk.new _ _ _).alloc _
  have r0 : Blk w0 (B + 1) #[.nilFunc, .nilFunc] 100 := by rw [hw0, hB]; exact Blk.newAt _ _ _ (by simp)
  have ha0 := ha.still k0
  have c0 : w0.cell? ⟨a, 0, none⟩ = some (putsV k) := ha0.cell 0
  have c5 : w0.cell? ⟨B, 0, none⟩ = some (.slice (some ⟨a, 0, none⟩) 1 1) := b5.cell 0
  have hz : w0.heap.size = B + 2 := by rw [hw0, hB]; simp
  have HW0 := Lib.hid hw0
  have HB := Lib.hid hB
  have K0 := Lib.hid k0
  have B5 := Lib.hid b5
  have R0 := Lib.hid r0
  have HA0 := Lib.hid ha0
  have HZ := Lib.hid hz
  clear hw0 hB k0 b5 r0 ha0 ha hz
  go_enter Try.func61, Try.ntmps61
  go_upto_region 1 with fail
  rw [← HW0.out, ← HB.out]
  go_wp2_with fail
  go_loopw [7] (fun i wr => i = .int .i64 0 ∧ wr = w0) (fun i _ => 0)
  case atStart => exact ⟨rfl, rfl⟩
  case round =>
    obtain ⟨rfl, rfl⟩ := hrel
    obtain ⟨w1, hw1⟩ : ∃ w1, w1 = (wr.alloc (.cells #[.int .i64 0] 3)).alloc (.cells #[putsV k] 1) := ⟨_, rfl⟩
    obtain ⟨C, hC⟩ : ∃ C, C = wr.heap.size := ⟨_, rfl⟩
    have k1 : Still wr w1 := by rw [hw1]; exact ((still_refl wr).alloc _).alloc _
    have b3 : Blk w1 C #[.int .i64 0] 3 := by rw [hw1, hC]; exact (Blk.new _ _ _).alloc _
    have b4 : Blk w1 (C + 1) #[putsV k] 1 := by rw [hw1, hC]; exact Blk.newAt _ _ _ (by simp)
    have b51 := B5.out.still k1
    have r1 := R0.out.still k1
    have d4 : w1.cell? ⟨C + 1, 0, none⟩ = some (putsV k) := b4.cell 0
    have f0 := r1.free 0
    have f1 := r1.free 1
    have q0 : w1.cell? ⟨B + 1, 0, none⟩ = some .nilFunc := r1.cell 0
    have q1 : w1.cell? ⟨B + 1, 1, none⟩ = some .nilFunc := r1.cell 1
    have hCB : B + 1 < C := by rw [hC]; exact R0.out.lt
    have HW1 := Lib.hid hw1
    have HC := Lib.hid hC
    have K1 := Lib.hid (K0.out.trans k1)
    have R1 := Lib.hid r1
    clear hw1 hC k1 r1
    go_upto_region 4 with fail
    rw [← HW1.out, ← HC.out]
    go_wp2_with fail
    obtain ⟨w2, hw2, k2, b2⟩ := stage_set R1.out .nilFunc (rowV (C + 1) B C)
    rw [← hw2]
    have p0 : w2.cell? ⟨B + 1, 0, none⟩ = some .nilFunc := b2.cell 0
    have p1 : w2.cell? ⟨B + 1, 1, none⟩ = some (rowV (C + 1) B C) := b2.cell 1
    have hB := HB.out
    refine bodyPost_ret (v := .agg #[.nilFunc, rowV (C + 1) B C]) (by simp [results, Try.f61, go_sem, p0, p1]) rfl ⟨C + 1, B, C, rfl, Kept.step K1.out k2 (fun i hi e => absurd hi (by omega)), by omega, by omega, by omega, b4.kept k2 (by omega), b51.kept k2 (by show B ≠ B + 1; omega), b3.kept k2 (by omega)⟩
set_option maxHeartbeats 1000000 in
theorem prow_none (a : Option Addr) (cap : Nat) (w : World) :
    Calls Try.prog 61 #[.slice a 0 cap] w fun e w' => e = .returned (.agg #[.nilFunc, .nilFunc]) ∧ Still w w' := by
  obtain ⟨B, hB⟩ : ∃ B, B = w.heap.size := ⟨_, rfl⟩
  obtain ⟨w0, hw0⟩ : ∃ w0, w0 = (w.alloc (.cells #[.slice a 0 cap] 197)).alloc (.cells #[.nilFunc, .nilFunc] 100) := ⟨_, rfl⟩
  have k0 : Still w w0 := by rw [hw0]; exact ((still_refl w).alloc _).alloc _
  have b5 : Blk w0 B #[.slice a 0 cap] 197 := by rw [hw0, hB]; exact (Blk.new _ _ _).alloc _
  have r0 : Blk w0 (B + 1) #[.nilFunc, .nilFunc] 100 := by rw [hw0, hB]; exact Blk.newAt _ _ _ (by simp)
  have c5 : w0.cell? ⟨B, 0, none⟩ = some (.slice a 0 cap) := b5.cell 0
  have q0 : w0.cell? ⟨B + 1, 0, none⟩ = some .nilFunc := r0.cell 0
  have q1 : w0.cell? ⟨B + 1, 1, none⟩ = some .nilFunc := r0.cell 1
  have f0 := r0.free 0
  have f1 := r0.free 1
  have HW0 := Lib.hid hw0
  have HB := Lib.hid hB
  have K0 := Lib.hid k0
  have R0 := Lib.hid r0
  clear hw0 hB k0 b5 r0
  go_enter Try.func61, Try.ntmps61
  go_upto_region 1 with fail
  rw [← HW0.out, ← HB.out]
  go_wp2_with fail
  go_loopw [7] (fun i wr => i = .int .i64 0 ∧ wr = w0) (fun i _ => 0)
  case atStart => exact ⟨rfl, rfl⟩
  case round =>
    obtain ⟨rfl, rfl⟩ := hrel
    go_wp2_with fail
    obtain ⟨w2, hw2, k2, b2⟩ := stage_set R0.out .nilFunc .nilFunc
    rw [← hw2]
    have p0 : w2.cell? ⟨B + 1, 0, none⟩ = some .nilFunc := b2.cell 0
    have p1 : w2.cell? ⟨B + 1, 1, none⟩ = some .nilFunc := b2.cell 1
    have hB := HB.out
    refine bodyPost_ret (v := .agg #[.nilFunc, .nilFunc]) (by simp [results, Try.f61, go_sem, p0, p1]) rfl ⟨rfl, Kept.step K0.out k2 (fun i hi e => absurd hi (by omega))⟩
theorem pthen_some (F : FuncId) (caps : Array Value) (k : Nat) (w : World) :
    Calls Try.prog 60 #[.agg #[.nilFunc, .func (.func F) #[] caps], takesV k] w fun e w' => ∃ b1 b2, e = .returned (.agg #[.nilFunc, thenV b1 b2]) ∧ Still w w' ∧ w.heap.size ≤ b1 ∧ w.heap.size ≤ b2 ∧ Blk w' b1 #[.nilFunc, .func (.func F) #[] caps] 100 ∧ Blk w' b2 #[takesV k] 98 := by
  have hE := fun w => func_eq34 F caps w
  obtain ⟨B, hB⟩ : ∃ B, B = w.heap.size := ⟨_, rfl⟩
  obtain ⟨w0, hw0⟩ : ∃ w0, w0 = ((w.alloc (.cells #[.nilFunc, .func (.func F) #[] caps] 100)).alloc (.cells #[takesV k] 98)).alloc (.cells #[.nilFunc, .nilFunc] 100) := ⟨_, rfl⟩
  have k0 : Still w w0 := by rw [hw0]; exact (((still_refl w).alloc _).alloc _).alloc _
  have b1 : Blk w0 B #[.nilFunc, .func (.func F) #[] caps] 100 := by rw [hw0, hB]; exact ((Blk.new _ _ _).alloc _).alloc _
  have b2 : Blk w0 (B + 1) #[takesV k] 98 := by rw [hw0, hB]; exact (Blk.newAt _ _ _ (by simp)).alloc _
  have r0 : Blk w0 (B + 2) #[.nilFunc, .nilFunc] 100 := by rw [hw0, hB]; exact Blk.newAt _ _ _ (by simp)
  have c0 : w0.cell? ⟨B, 0, none⟩ = some .nilFunc := b1.cell 0
  have c1 : w0.cell? ⟨B, 1, none⟩ = some (.func (.func F) #[] caps) := b1.cell 1
  have c2 : w0.cell? ⟨B + 1, 0, none⟩ = some (takesV k) := b2.cell 0
  have q0 : w0.cell? ⟨B + 2, 0, none⟩ = some .nilFunc := r0.cell 0
  have q1 : w0.cell? ⟨B + 2, 1, none⟩ = some .nilFunc := r0.cell 1
  have f0 := r0.free 0
  have f1 := r0.free 1
  have HW0 := Lib.hid hw0
  have HB := Lib.hid hB
  have K0 := Lib.hid k0
  have R0 := Lib.hid r0
  have B1 := Lib.hid b1
  have B2 := Lib.hid b2
  clear hw0 hB k0 b1 b2 r0
  go_enter Try.func60, Try.ntmps60
  go_upto_region 1 with fail
  rw [← HW0.out, ← HB.out]
  go_wp2_with fail
  obtain ⟨w2, hw2, k2, b2⟩ := stage_set R0.out .nilFunc (thenV B (B + 1))
  rw [← hw2]
  have p0 : w2.cell? ⟨B + 2, 0, none⟩ = some .nilFunc := b2.cell 0
  have p1 : w2.cell? ⟨B + 2, 1, none⟩ = some (thenV B (B + 1)) := b2.cell 1
  have hB := HB.out
  refine bodyPost_ret (v := .agg #[.nilFunc, thenV B (B + 1)]) (by simp [results, Try.f60, go_sem, p0, p1]) rfl ⟨B, B + 1, rfl, Kept.step K0.out k2 (fun i hi e => absurd hi (by omega)), by omega, by omega, B1.out.kept k2 (by show B ≠ B + 2; omega), B2.out.kept k2 (by show B + 1 ≠ B + 2; omega)⟩
theorem pthen_nil (k : Nat) (w : World) :
    Calls Try.prog 60 #[.agg #[.nilFunc, .nilFunc], takesV k] w fun e w' => ∃ bx, e = .returned (.agg #[takeM bx, takeD bx]) ∧ Still w w' ∧ w.heap.size ≤ bx ∧ Blk w' bx #[.pointer (some ⟨k, 0, none⟩)] 31 := by
  have hE := fun w => nil_eq34 w
  obtain ⟨B, hB⟩ : ∃ B, B = w.heap.size := ⟨_, rfl⟩
  obtain ⟨w0, hw0⟩ : ∃ w0, w0 = ((w.alloc (.cells #[.nilFunc, .nilFunc] 100)).alloc (.cells #[takesV k] 98)).alloc (.cells #[.nilFunc, .nilFunc] 100) := ⟨_, rfl⟩
  have k0 : Still w w0 := by rw [hw0]; exact (((still_refl w).alloc _).alloc _).alloc _
  have b1 : Blk w0 B #[.nilFunc, .nilFunc] 100 := by rw [hw0, hB]; exact ((Blk.new _ _ _).alloc _).alloc _
  have b2 : Blk w0 (B + 1) #[takesV k] 98 := by rw [hw0, hB]; exact (Blk.newAt _ _ _ (by simp)).alloc _
  have r0 : Blk w0 (B + 2) #[.nilFunc, .nilFunc] 100 := by rw [hw0, hB]; exact Blk.newAt _ _ _ (by simp)
  have c1 : w0.cell? ⟨B, 1, none⟩ = some .nilFunc := b1.cell 1
  have c2 : w0.cell? ⟨B + 1, 0, none⟩ = some (takesV k) := b2.cell 0
  have HT := Lib.hid (wtakes k w0)
  have HW0 := Lib.hid hw0
  have HB := Lib.hid hB
  have K0 := Lib.hid k0
  have R0 := Lib.hid r0
  have hcf := fun args wx => run_callFunc (P := Try.prog) (F := 35) ⟨_, Try.func35, by kernel_rfl, by kernel_rfl⟩ args wx
  clear hw0 hB k0 b1 b2 r0
  go_enter Try.func60, Try.ntmps60
  go_upto_region 1 with fail
  rw [← HW0.out, ← HB.out]
  go_wp2_with fail
  refine HT.out.mono ?_
  rintro e w1 ⟨rfl, k1, bb1⟩
  obtain ⟨D, hD⟩ : ∃ D, D = w0.heap.size := ⟨_, rfl⟩
  rw [← hD] at bb1 ⊢
  have r1 := R0.out.still k1
  have q0 : w1.cell? ⟨B + 2, 0, none⟩ = some .nilFunc := r1.cell 0
  have q1 : w1.cell? ⟨B + 2, 1, none⟩ = some .nilFunc := r1.cell 1
  have f0 := r1.free 0
  have f1 := r1.free 1
  have hDB : B + 2 < D := by rw [hD]; exact R0.out.lt
  have R1 := Lib.hid r1
  have HD := Lib.hid hD
  clear hD r1
  go_wp2_with fail
  obtain ⟨w2, hw2, k2, b2⟩ := stage_set R1.out (takeM D) (takeD D)
  rw [← hw2]
  have p0 : w2.cell? ⟨B + 2, 0, none⟩ = some (takeM D) := b2.cell 0
  have p1 : w2.cell? ⟨B + 2, 1, none⟩ = some (takeD D) := b2.cell 1
  have hB := HB.out
  refine bodyPost_ret (v := .agg #[takeM D, takeD D]) (by simp [results, Try.f60, go_sem, p0, p1]) rfl ⟨D, rfl, Kept.step (K0.out.trans k1) k2 (fun i hi e => absurd hi (by omega)), by omega, bb1.kept k2 (by omega)⟩
end Go.Proofs.Ytbikganlloopbaa
