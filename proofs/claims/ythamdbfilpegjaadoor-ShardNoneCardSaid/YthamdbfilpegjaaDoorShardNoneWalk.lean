/-
  What stands here: the walk of ShardNone. Under no condition but that its arguments fit their types.
-/
import Derived.Test.YthamdbfilpegjaaDoorShardAlive
import Derived.Test.YthamdbfilpegjaaDoorBitsLeast
namespace Go.Proofs.YthamdbfilpegjaaDoor
set_option linter.unusedVariables false
set_option linter.unusedSimpArgs false
open Go.RowKit Go.Proofs
theorem field01 (a b c : Option Addr) (W : World) : (Instr.field 67 (.agg #[.pointer a, .pointer b, .pointer c]) 0).run Tryd.prog W = .ok (.pointer a) W ∧ (Instr.field 67 (.agg #[.pointer a, .pointer b, .pointer c]) 1).run Tryd.prog W = .ok (.pointer b) W := ⟨by kernel_rfl, by kernel_rfl⟩
theorem five_set {w : World} {B : Nat} {T : TypeId} (b : Blk w B #[.int .u64 0, .int .i64 0, .int .u64 0, .int .u64 0, .int .u64 0] T) : ∃ w3, w3 = (((((w.setCell ⟨B, 0, none⟩ (.int .u64 0)).setCell ⟨B, 1, none⟩ (.int .i64 0)).setCell ⟨B, 2, none⟩ (.int .u64 0)).setCell ⟨B, 3, none⟩ (.int .u64 0)).setCell ⟨B, 4, none⟩ (.int .u64 0)) ∧ Kept (· = B) w w3 ∧ Blk w3 B #[.int .u64 0, .int .i64 0, .int .u64 0, .int .u64 0, .int .u64 0] T :=
  ⟨_, rfl, (((((Kept.refl _ w).put 0 _).put 1 _).put 2 _).put 3 _).put 4 _, ((((b.set 0 _).set 1 _).set 2 _).set 3 _).set 4 _⟩
theorem nlock (w : World) : Calls Tryd.prog 18 #[.pointer none] w fun e w' => e = .returned (.pointer none) ∧ Still w w' := by
  have hf := fun W => (field01 none none none W).2
  go_enter Tryd.func18, Tryd.ntmps18
  go_wp2_with fail
  refine (parts_nil w).mono ?_
  rintro e w1 ⟨rfl, k1⟩
  go_wp2_with fail
  go_ret
  exact ⟨rfl, k1⟩
theorem nbegin (w : World) : Calls Tryd.prog 19 #[.pointer none] w fun e w' => e = .returned (.pointer none) ∧ Still w w' := by
  have hf := fun W => (field01 none none none W).1
  go_enter Tryd.func19, Tryd.ntmps19
  go_wp2_with fail
  refine (parts_nil w).mono ?_
  rintro e w1 ⟨rfl, k1⟩
  go_wp2_with fail
  have hb : Calls Tryd.prog 37 #[.pointer none] w1 fun e w' => e = .returned (.pointer none) ∧ w1 = w' := by
    go_enter Tryd.func37, Tryd.ntmps37
    go_wp2_with fail
    go_ret
    exact ⟨rfl, rfl⟩
  refine hb.mono ?_
  rintro e w2 ⟨rfl, rfl⟩
  go_wp2_with fail
  go_ret
  exact ⟨rfl, k1⟩
theorem rready_nil (w1 : World) : Calls Tryd.prog 39 #[.pointer none] w1 fun e w' => e = .returned (.bool false) ∧ Still w1 w' := by
  go_enter Tryd.func39, Tryd.ntmps39
  go_wp2_with fail
  go_quiet (fail)
  go_wp2_with fail
  go_ret
  exact ⟨rfl, (still_refl w1).drewN nq⟩
theorem nready (w : World) : Calls Tryd.prog 21 #[.pointer none] w fun e w' => e = .returned (.bool false) ∧ Still w w' := by
  have hf := fun W => (field01 none none none W).1
  go_enter Tryd.func21, Tryd.ntmps21
  go_wp2_with fail
  refine (parts_nil w).mono ?_
  rintro e w1 ⟨rfl, k1⟩
  go_wp2_with fail
  have hb := rready_nil w1
  refine hb.mono ?_
  rintro e w2 ⟨rfl, k2⟩
  go_wp2_with fail
  go_ret
  exact ⟨rfl, k1.trans k2⟩
theorem nwaiting (w : World) : Calls Tryd.prog 20 #[.pointer none] w fun e w' => e = .returned (.int .i64 0) ∧ Still w w' := by
  have hf := fun W => (field01 none none none W).1
  go_enter Tryd.func20, Tryd.ntmps20
  go_wp2_with fail
  refine (parts_nil w).mono ?_
  rintro e w1 ⟨rfl, k1⟩
  go_wp2_with fail
  have hb : Calls Tryd.prog 38 #[.pointer none] w1 fun e w' => e = .returned (.int .i64 0) ∧ Still w1 w' := by
    go_enter Tryd.func38, Tryd.ntmps38
    go_wp2_with fail
    go_ret
    exact ⟨rfl, still_refl _⟩
  refine hb.mono ?_
  rintro e w2 ⟨rfl, k2⟩
  go_wp2_with fail
  go_ret
  exact ⟨rfl, k1.trans k2⟩
theorem narmed (w : World) : Calls Tryd.prog 16 #[.pointer none] w fun e w' => e = .returned (.int .i64 0) ∧ Still w w' := by
  have hf := field2 none none none
  go_enter Tryd.func16, Tryd.ntmps16
  go_wp2_with fail
  refine (parts_nil w).mono ?_
  rintro e w1 ⟨rfl, k1⟩
  go_wp2_with fail
  refine (wlen_nil_t w1).mono ?_
  rintro e w2 ⟨rfl, rfl⟩
  go_wp2_with fail
  go_ret
  exact ⟨rfl, k1⟩
theorem nnow (w : World) : Calls Tryd.prog 10 #[.pointer none] w fun e w' => e = .returned (.int .u64 0) ∧ Still w w' := by
  have hf := field2 none none none
  go_enter Tryd.func10, Tryd.ntmps10
  go_wp2_with fail
  refine (parts_nil w).mono ?_
  rintro e w1 ⟨rfl, k1⟩
  go_wp2_with fail
  refine (wnow_nil_t w1).mono ?_
  rintro e w2 ⟨rfl, rfl⟩
  go_wp2_with fail
  go_ret
  exact ⟨rfl, k1⟩
theorem nnext (w : World) : Calls Tryd.prog 11 #[.pointer none] w fun e w' => e = .returned (.tuple #[.int .u64 0, .int .i64 6]) ∧ Still w w' := by
  have hf := field2 none none none
  go_enter Tryd.func11, Tryd.ntmps11
  go_wp2_with fail
  refine (parts_nil w).mono ?_
  rintro e w1 ⟨rfl, k1⟩
  go_wp2_with fail
  have hb : Calls Tryd.prog 32 #[.pointer none] w1 fun e w' => e = .returned (.tuple #[.int .u64 0, .int .i64 6]) ∧ Still w1 w' := by
    go_enter Tryd.func32, Tryd.ntmps32
    go_wp2_with fail
    go_ret2
    exact ⟨rfl, still_refl _⟩
  refine hb.mono ?_
  rintro e w2 ⟨rfl, k2⟩
  go_wp2_with fail
  go_ret2
  exact ⟨rfl, k1.trans k2⟩
theorem narm (z : TaskV) (w : World) : Calls Tryd.prog 8 #[.pointer none, z.v] w fun e w' => e = .returned (.tuple #[.int .u64 0, .int .i64 6]) ∧ Still w w' := by
  have hf := field2 none none none
  simp only [TaskV.v]
  go_enter Tryd.func8, Tryd.ntmps8
  go_wp2_with fail
  refine (parts_nil _).mono ?_
  rintro e w1 ⟨rfl, k1⟩
  go_wp2_with fail
  go_ret2
  exact ⟨rfl, ((still_refl w).alloc _).trans k1⟩
theorem rpop_nil (w1 : World) : Calls Tryd.prog 36 #[.pointer none] w1 fun e w' => e = .returned (.tuple #[.agg #[.int .u64 0, .int .i64 0, .int .u64 0, .int .u64 0, .int .u64 0], .int .i64 6]) ∧ Still w1 w' := by
  go_enter Tryd.func36, Tryd.ntmps36
  go_wp2_with fail
  refine (rready_nil _).mono ?_
  rintro e w2 ⟨rfl, k2⟩
  have bA := ((Blk.new w1 #[.int .u64 0, .int .i64 0, .int .u64 0, .int .u64 0, .int .u64 0] 31).alloc (.cells #[.int .u64 0, .int .i64 0, .int .u64 0, .int .u64 0, .int .u64 0] 31)).still k2
  have bB := (Blk.newAt (n := w1.heap.size + 1) (w1.alloc (.cells #[.int .u64 0, .int .i64 0, .int .u64 0, .int .u64 0, .int .u64 0] 31)) #[.int .u64 0, .int .i64 0, .int .u64 0, .int .u64 0, .int .u64 0] 31 (by simp)).still k2
  have ac0 := bA.cell 0
  have ac1 := bA.cell 1
  have ac2 := bA.cell 2
  have ac3 := bA.cell 3
  have ac4 := bA.cell 4
  have bc0 := bB.cell 0
  have bc1 := bB.cell 1
  have bc2 := bB.cell 2
  have bc3 := bB.cell 3
  have bc4 := bB.cell 4
  have af0 := bA.free 0
  have af1 := bA.free 1
  have af2 := bA.free 2
  have af3 := bA.free 3
  have af4 := bA.free 4
  go_wp2_with fail
  obtain ⟨w3, hw3, e2, b3⟩ := five_set bA
  rw [← hw3]
  have d0 : w3.cell? ⟨w1.heap.size, 0, none⟩ = some (.int .u64 0) := b3.cell 0
  have d1 : w3.cell? ⟨w1.heap.size, 1, none⟩ = some (.int .i64 0) := b3.cell 1
  have d2 : w3.cell? ⟨w1.heap.size, 2, none⟩ = some (.int .u64 0) := b3.cell 2
  have d3 : w3.cell? ⟨w1.heap.size, 3, none⟩ = some (.int .u64 0) := b3.cell 3
  have d4 : w3.cell? ⟨w1.heap.size, 4, none⟩ = some (.int .u64 0) := b3.cell 4
  refine bodyPost_ret (v := .tuple #[.agg #[.int .u64 0, .int .i64 0, .int .u64 0, .int .u64 0, .int .u64 0], .int .i64 6]) (by simp [results, Tryd.f36, go_sem, d0, d1, d2, d3, d4]) rfl ?_
  refine ⟨rfl, ?_⟩
  exact ((((still_refl w1).alloc _).alloc _).trans k2).step e2 (fun y hy h9 => by omega)
theorem npop (w : World) : Calls Tryd.prog 17 #[.pointer none] w fun e w' => e = .returned (.tuple #[.agg #[.int .u64 0, .int .i64 0, .int .u64 0, .int .u64 0, .int .u64 0], .int .i64 6]) ∧ Still w w' := by
  have hf := fun W => (field01 none none none W).1
  go_enter Tryd.func17, Tryd.ntmps17
  go_wp2_with fail
  refine (parts_nil _).mono ?_
  rintro e w1 ⟨rfl, k1⟩
  have b0 := (Blk.new w #[.int .u64 0, .int .i64 0, .int .u64 0, .int .u64 0, .int .u64 0] 31).still k1
  go_wp2_with fail
  refine (rpop_nil w1).mono ?_
  rintro e w2 ⟨rfl, k2⟩
  have b2 := b0.still k2
  have f0 := b2.free 0
  have f1 := b2.free 1
  have f2 := b2.free 2
  have f3 := b2.free 3
  have f4 := b2.free 4
  have c0 := b2.cell 0
  have c1 := b2.cell 1
  have c2 := b2.cell 2
  have c3 := b2.cell 3
  have c4 := b2.cell 4
  go_wp2_with fail
  obtain ⟨w3, hw3, e2, b3⟩ := five_set b2
  rw [← hw3]
  have d0 : w3.cell? ⟨w.heap.size, 0, none⟩ = some (.int .u64 0) := b3.cell 0
  have d1 : w3.cell? ⟨w.heap.size, 1, none⟩ = some (.int .i64 0) := b3.cell 1
  have d2 : w3.cell? ⟨w.heap.size, 2, none⟩ = some (.int .u64 0) := b3.cell 2
  have d3 : w3.cell? ⟨w.heap.size, 3, none⟩ = some (.int .u64 0) := b3.cell 3
  have d4 : w3.cell? ⟨w.heap.size, 4, none⟩ = some (.int .u64 0) := b3.cell 4
  refine bodyPost_ret (v := .tuple #[.agg #[.int .u64 0, .int .i64 0, .int .u64 0, .int .u64 0, .int .u64 0], .int .i64 6]) (by simp [results, Tryd.f17, go_sem, d0, d1, d2, d3, d4]) rfl ?_
  refine ⟨rfl, ?_⟩
  exact ((((still_refl w).alloc _).trans k1).trans k2).step e2 (fun y hy h9 => by omega)
theorem nturn (w : World) : Calls Tryd.prog 9 #[.pointer none] w fun e w' => ∃ a c, e = .returned (.tuple #[.slice a 0 c, .int .i64 6]) ∧ Still w w' := by
  have hf := field2 none none none
  go_enter Tryd.func9, Tryd.ntmps9
  go_wp2_with fail
  refine (parts_nil _).mono ?_
  rintro e w1 ⟨rfl, k1⟩
  go_wp2_with fail
  have hb : Calls Tryd.prog 29 #[.pointer none] w1 fun e w' => e = .returned (.tuple #[.slice none 0 0, .int .i64 6]) ∧ Still w1 w' := by
    go_enter Tryd.func29, Tryd.ntmps29
    go_wp2_with fail
    go_ret2
    exact ⟨rfl, still_refl _⟩
  refine hb.mono ?_
  rintro e w2 ⟨rfl, k2⟩
  go_wp2_with fail
  refine (tasks_of none 0 0 w2).mono ?_
  rintro e w3 ⟨rfl, k3, b3⟩
  go_wp2_with fail
  refine (collect_t w2.heap.size _ [] (fun _ => ⟨0, 0, 0, 0, 0⟩) (by simp) _ w2 w3 ⟨VRow.nil _ _ _ _ (Nat.zero_le _), fun e he => by cases he⟩ (below_still (Below.refl _ w2) k3 (Nat.le_refl _)) (Nat.le_refl _) b3).mono ?_
  rintro e w4 ⟨⟨v4, rfl, r4⟩, k4⟩
  obtain ⟨a4, c4, rfl⟩ := owns_slice r4
  go_wp2_with fail
  go_ret2
  refine ⟨_, _, rfl, (k1.trans k2).trans ?_⟩
  exact (lstill_kept k3).step k4 (fun i hi h9 => by have := k3.size; omega)
set_option maxHeartbeats 2000000 in
set_option maxRecDepth 100000 in
theorem shardNone_walk (a0_0 a0_1 a0_2 a0_3 a0_4 : Int) (w : World) (w0 : (Lit.int .u64 a0_0).wf = true ∧ (Lit.int .i64 a0_1).wf = true ∧ (Lit.int .u64 a0_2).wf = true ∧ (Lit.int .u64 a0_3).wf = true ∧ (Lit.int .u64 a0_4).wf = true) (hT : Tab w) :
    Calls Tryd.prog 5 #[.agg #[.int .u64 a0_0, .int .i64 a0_1, .int .u64 a0_2, .int .u64 a0_3, .int .u64 a0_4]] w fun e w' => e = .returned (.bool true) ∧ Below w.heap.size w w' := by
  clear w0
  obtain ⟨W0, hW0⟩ : ∃ W0, W0 = w.alloc (.cells #[.int .u64 a0_0, .int .i64 a0_1, .int .u64 a0_2, .int .u64 a0_3, .int .u64 a0_4] 31) := ⟨_, rfl⟩
  have k0 : Below w.heap.size w W0 := by rw [hW0]; exact (Below.refl _ w).alloc (Nat.le_refl _) _
  have bT : Blk W0 w.heap.size #[.int .u64 a0_0, .int .i64 a0_1, .int .u64 a0_2, .int .u64 a0_3, .int .u64 a0_4] 31 := by rw [hW0]; exact Blk.new _ _ _
  have HW0 := Lib.hid hW0
  clear hW0
  go_enter Tryd.func5, Tryd.ntmps5
  go_wp2_with fail
  rw [← HW0.out]
  refine (alive_any W0).mono ?_
  rintro e w1 ⟨rfl, k1⟩
  have b1 := bT.below k1 bT.lt
  have kk1 := k0.trans (k1.mono k0.size)
  clear bT HW0
  go_wp2_with fail
  refine (npop _).mono ?_
  rintro e w2 ⟨rfl, k2⟩
  go_upto_region 5 with fail
  obtain ⟨x, hx⟩ : ∃ x, x = w2.heap.size := ⟨_, rfl⟩
  obtain ⟨w3, hw3⟩ : ∃ w3, w3 = w2.alloc (.cells #[.int .u64 0, .int .i64 0, .int .u64 0, .int .u64 0, .int .u64 0] 31) := ⟨_, rfl⟩
  have k3 : Still w2 w3 := by rw [hw3]; exact (still_refl w2).alloc _
  have bx : Blk w3 x #[.int .u64 0, .int .i64 0, .int .u64 0, .int .u64 0, .int .u64 0] 31 := by rw [hw3, hx]; exact Blk.new _ _ _
  have bt := (b1.still k2).still k3
  have k13 := k2.trans k3
  rw [← hw3, ← hx]
  clear hw3 b1 hx k2 k3
  have c0 : w3.cell? ⟨w.heap.size, 0, none⟩ = some (.int .u64 a0_0) := bt.cell 0
  have c1 : w3.cell? ⟨w.heap.size, 1, none⟩ = some (.int .i64 a0_1) := bt.cell 1
  have c2 : w3.cell? ⟨w.heap.size, 2, none⟩ = some (.int .u64 a0_2) := bt.cell 2
  have c3 : w3.cell? ⟨w.heap.size, 3, none⟩ = some (.int .u64 a0_3) := bt.cell 3
  have c4 : w3.cell? ⟨w.heap.size, 4, none⟩ = some (.int .u64 a0_4) := bt.cell 4
  go_wp2_with fail
  refine (narm ⟨a0_0, a0_1, a0_2, a0_3, a0_4⟩ _).mono ?_
  rintro e w4 ⟨rfl, k4⟩
  clear c0 c1 c2 c3 c4 bt
  go_wp2_with fail
  refine (nturn _).mono ?_
  rintro e w5 ⟨a, c, rfl, k5⟩
  go_wp2_with fail
  refine (nnext _).mono ?_
  rintro e w6 ⟨rfl, k6⟩
  have b6 := ((bx.still k4).still k5).still k6
  have k16 := ((k13.trans k4).trans k5).trans k6
  clear bx k13 k4 k5 k6
  go_wp2_with fail
  refine (nlock _).mono ?_
  rintro e w7 ⟨rfl, k7⟩
  go_wp2_with fail
  refine (nbegin _).mono ?_
  rintro e w8 ⟨rfl, k8⟩
  go_wp2_with fail
  refine (nwaiting _).mono ?_
  rintro e w9 ⟨rfl, k9⟩
  go_wp2_with fail
  refine (narmed _).mono ?_
  rintro e w10 ⟨rfl, k10⟩
  go_wp2_with fail
  refine (nready _).mono ?_
  rintro e w11 ⟨rfl, k11⟩
  have b11 := ((((b6.still k7).still k8).still k9).still k10).still k11
  have k1b := ((((k16.trans k7).trans k8).trans k9).trans k10).trans k11
  clear b6 k16 k7 k8 k9 k10 k11
  have d0 : w11.cell? ⟨x, 0, none⟩ = some (.int .u64 0) := b11.cell 0
  have d1 : w11.cell? ⟨x, 1, none⟩ = some (.int .i64 0) := b11.cell 1
  have d2 : w11.cell? ⟨x, 2, none⟩ = some (.int .u64 0) := b11.cell 2
  have d3 : w11.cell? ⟨x, 3, none⟩ = some (.int .u64 0) := b11.cell 3
  have d4 : w11.cell? ⟨x, 4, none⟩ = some (.int .u64 0) := b11.cell 4
  go_wp2_with fail
  refine (nnow _).mono ?_
  rintro e w12 ⟨rfl, k12⟩
  go_wp2_with fail
  go_ret
  exact ⟨rfl, below_still kk1 (k1b.trans k12) (Nat.le_refl _)⟩
end Go.Proofs.YthamdbfilpegjaaDoor
