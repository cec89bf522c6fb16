/-
  What stands here: what a worker's small functions do. Under no condition but that the world holds it.
-/
import Derived.Test.YtbikganlloopbaaFPipe2
import Derived.Test.YtbikganlloopbaaFloorMade
import Derived.Test.YtbikganlloopbaaStageProg
namespace Go.Proofs.Ytbikganlloopbaa
set_option linter.unusedVariables false
set_option linter.unusedSimpArgs false
open Go.RowKit Go.Proofs
abbrev takeM (bx : Nat) : Value := .func (.func 56) #[] #[.pointer (some ⟨bx, 0, none⟩)]
abbrev takeD (bx : Nat) : Value := .func (.func 57) #[] #[.pointer (some ⟨bx, 0, none⟩)]
theorem wtakes (k : Nat) (w : World) : Calls Try.prog 35 #[.pointer (some ⟨k, 0, none⟩)] w fun e w' => e = .returned (.agg #[takeM w.heap.size, takeD w.heap.size]) ∧ Still w w' ∧ Blk w' w.heap.size #[.pointer (some ⟨k, 0, none⟩)] 31 := by
  obtain ⟨w0, hw0⟩ : ∃ w0, w0 = (w.alloc (.cells #[.pointer (some ⟨k, 0, none⟩)] 31)).alloc (.cells #[.nilFunc, .nilFunc] 100) := ⟨_, rfl⟩
  obtain ⟨B, hB⟩ : ∃ B, B = w.heap.size := ⟨_, rfl⟩
  have k0 : Still w w0 := by rw [hw0]; exact ((still_refl w).alloc _).alloc _
  have b0 : Blk w0 B #[.pointer (some ⟨k, 0, none⟩)] 31 := by rw [hw0, hB]; exact (Blk.new _ _ _).alloc _
  have r0 : Blk w0 (B + 1) #[.nilFunc, .nilFunc] 100 := by rw [hw0, hB]; exact Blk.newAt _ _ _ (by simp)
  have HU := Lib.hid (until_any (takeM B) (takeD B) (.inr ⟨_, _, rfl⟩) (.inr ⟨_, _, rfl⟩) w0)
  have HW0 := Lib.hid hw0
  have HB := Lib.hid hB
  have K0 := Lib.hid k0
  have B0 := Lib.hid b0
  have R0 := Lib.hid r0
  clear hw0 hB k0 b0 r0
  go_enter Try.func35, Try.ntmps35
  go_upto_region 1 with fail
  rw [← HW0.out, ← HB.out]
  go_wp2_with fail
  refine HU.out.mono ?_
  rintro e w1 ⟨rfl, k1⟩
  have r1 := R0.out.still k1
  have f0 := r1.free 0
  have f1 := r1.free 1
  have c0 : w1.cell? ⟨B + 1, 0, none⟩ = some .nilFunc := r1.cell 0
  have c1 : w1.cell? ⟨B + 1, 1, none⟩ = some .nilFunc := r1.cell 1
  go_wp2_with fail
  have r2 := (r1.set 0 (takeM B)).set 1 (takeD B)
  have d0 := r2.cell 0
  have d1 := r2.cell 1
  have hB := HB.out
  have kx : Kept (fun y => y = B + 1) w1 ((w1.setCell ⟨B + 1, 0, none⟩ (takeM B)).setCell ⟨B + 1, 1, none⟩ (takeD B)) := ((only_refl (B + 1) w1).put 0 _).put 1 _
  have kz := (K0.out.trans k1)
  rw [← HB.out]
  refine bodyPost_ret (v := .agg #[takeM B, takeD B]) ?_ rfl ⟨rfl, ?_, ?_⟩
  · simp at d0 d1
    simp [results, Try.f35, go_sem, d0, d1]
  · exact Kept.step kz kx (fun i hi e => absurd hi (by omega))
  · exact (B0.out.still k1).kept kx (by show B ≠ B + 1; omega)


set_option maxHeartbeats 1000000 in
theorem cbegin (f : Nat) (w : World) : Calls Try.prog 10 #[.pointer (some ⟨f, 0, none⟩)] w fun e w' => ∃ k q bx, e = .returned (.tuple #[.pointer (some ⟨k, 0, none⟩), .int .i64 0]) ∧ w.heap.size ≤ k ∧ w.heap.size ≤ q ∧ w.heap.size ≤ bx ∧
    Blk w' k #[.pointer (some ⟨f, 0, none⟩), .pointer (some ⟨q, 0, none⟩), .slice none 0 0, .int .i64 0] 96 ∧ Blk w' q #[takeM bx, takeD bx, .int .i64 0] 156 ∧ Blk w' bx #[.pointer (some ⟨k, 0, none⟩)] 31 ∧ Still w w' := by
  obtain ⟨w0, hw0⟩ : ∃ w0, w0 = w.alloc (.cells #[.pointer (some ⟨f, 0, none⟩), .pointer none, .slice none 0 0, .int .i64 0] 96) := ⟨_, rfl⟩
  obtain ⟨B, hB⟩ : ∃ B, B = w.heap.size := ⟨_, rfl⟩
  have k0 : Still w w0 := by rw [hw0]; exact (still_refl w).alloc _
  have b0 : Blk w0 B #[.pointer (some ⟨f, 0, none⟩), .pointer none, .slice none 0 0, .int .i64 0] 96 := by rw [hw0, hB]; exact Blk.new _ _ _
  have HW0 := Lib.hid hw0
  have HB := Lib.hid hB
  have K0 := Lib.hid k0
  have B0 := Lib.hid b0
  clear hw0 hB k0 b0
  go_enter Try.func10, Try.ntmps10
  go_upto_region 4 with fail
  rw [← HW0.out, ← HB.out]
  go_wp2_with fail
  refine (wtakes B w0).mono ?_
  rintro e w1 ⟨rfl, k1, b1⟩
  obtain ⟨bx, hbx⟩ : ∃ bx, bx = w0.heap.size := ⟨_, rfl⟩
  rw [← hbx] at b1 ⊢
  have HBX := Lib.hid hbx
  clear hbx
  go_wp2_with fail
  refine (new_any (takeM bx) (takeD bx) (.inr ⟨_, _, rfl⟩) (.inr ⟨_, _, rfl⟩) w1).mono ?_
  rintro e w2 ⟨rfl, k2, b2⟩
  obtain ⟨q, hq⟩ : ∃ q, q = w1.heap.size + 1 := ⟨_, rfl⟩
  rw [← hq] at b2 ⊢
  have hq1 : B < q := by rw [hq]; have := (B0.out.still k1).lt; omega
  have HQ := Lib.hid hq
  clear hq
  have b3 := (B0.out.still k1).still k2
  have b4 := b1.still k2
  have f1 := b3.free 1
  have c1 : w2.cell? ⟨B, 1, none⟩ = some (.pointer none) := b3.cell 1
  go_wp2_with fail
  go_ret2
  have kx : Kept (fun y => y = B) w2 (w2.setCell ⟨B, 1, none⟩ (.pointer (some ⟨q, 0, none⟩))) := (only_refl B w2).put 1 _
  have hB := HB.out
  have hbx := HBX.out
  have hbl := B0.out.lt
  exact ⟨B, q, bx, rfl, by omega, by omega, by omega, b3.set' rfl, b2.kept kx (by omega), b4.kept kx (by omega), Kept.step ((K0.out.trans k1).trans k2) kx (fun i hi e => absurd hi (by omega))⟩

section
variable {s : LS} {f sb p g c l N k q bx : Nat} {cf : Nat → Int} {sh hv : Value} {bz n m : Int} {xs : List FiringV} {mx : Nat} {w : World}
theorem wmayfn (hF : FlB f cf sb sh p g bz w) (hP : PW_f s w p c l N xs mx false) (hx : xs.length < 100000) (hb : Blk w bx #[.pointer (some ⟨k, 0, none⟩)] 31)
    (hk : Blk w k #[.pointer (some ⟨f, 0, none⟩), .pointer (some ⟨q, 0, none⟩), hv, .int .i64 n] 96) :
    Calls Try.prog 56 #[.pointer (some ⟨bx, 0, none⟩)] w fun e w' => e = .returned (.bool (decide (0 < xs.length))) ∧ Still w w' := by
  have c0 : w.cell? ⟨bx, 0, none⟩ = some (.pointer (some ⟨k, 0, none⟩)) := hb.cell 0
  have c1 : w.cell? ⟨k, 0, none⟩ = some (.pointer (some ⟨f, 0, none⟩)) := hk.cell 0
  have HL := Lib.hid (plen_f w hP hx)
  have HP := Lib.hid (fpipe hF)
  clear hF hP hb hk
  generalize xs.length = X at *
  go_enter Try.func56, Try.ntmps56
  go_wp2_with fail
  refine HP.out.mono ?_
  rintro e w1 ⟨rfl, rfl⟩
  go_wp2_with fail
  refine HL.out.mono ?_
  rintro e w1 ⟨rfl, k1⟩
  go_wp2_with fail
  go_ret
  exact ⟨rfl, k1⟩
theorem cmay_nil (w : World) : Calls Try.prog 11 #[.pointer none] w fun e w' => e = .returned (.bool false) ∧ w = w' := by
  go_enter Try.func11, Try.ntmps11
  go_wp2_with fail
  go_ret
  exact ⟨rfl, rfl⟩
theorem cstep_nil (w : World) : Calls Try.prog 14 #[.pointer none] w fun e w' => e = .returned (.bool false) ∧ w = w' := by
  go_enter Try.func14, Try.ntmps14
  go_wp2_with fail
  go_ret
  exact ⟨rfl, rfl⟩
theorem cworked_nil (w : World) : Calls Try.prog 15 #[.pointer none] w fun e w' => e = .returned (.int .i64 0) ∧ w = w' := by
  go_enter Try.func15, Try.ntmps15
  go_wp2_with fail
  go_ret
  exact ⟨rfl, rfl⟩
theorem cworked (hk : Blk w k #[.pointer (some ⟨f, 0, none⟩), .pointer (some ⟨q, 0, none⟩), hv, .int .i64 n] 96) : Calls Try.prog 15 #[.pointer (some ⟨k, 0, none⟩)] w fun e w' => e = .returned (.int .i64 n) ∧ w = w' := by
  have c1 : w.cell? ⟨k, 3, none⟩ = some (.int .i64 n) := hk.cell 3
  go_enter Try.func15, Try.ntmps15
  go_wp2_with fail
  go_ret
  exact ⟨rfl, rfl⟩
theorem cmay (hk : Blk w k #[.pointer (some ⟨f, 0, none⟩), .pointer (some ⟨q, 0, none⟩), hv, .int .i64 n] 96) (r : Bool)
    (hm : Calls Try.prog 36 #[.pointer (some ⟨q, 0, none⟩)] w fun e w' => e = .returned (.bool r) ∧ Still w w') :
    Calls Try.prog 11 #[.pointer (some ⟨k, 0, none⟩)] w fun e w' => e = .returned (.bool r) ∧ Still w w' := by
  have c1 : w.cell? ⟨k, 1, none⟩ = some (.pointer (some ⟨q, 0, none⟩)) := hk.cell 1
  have HM := Lib.hid hm
  clear hm
  go_enter Try.func11, Try.ntmps11
  go_wp2_with fail
  refine HM.out.mono ?_
  rintro e w1 ⟨rfl, k1⟩
  go_wp2_with fail
  go_ret
  exact ⟨rfl, k1⟩
theorem cstep (Q : World → Prop) (hk : Blk w k #[.pointer (some ⟨f, 0, none⟩), .pointer (some ⟨q, 0, none⟩), hv, .int .i64 n] 96) (r : Bool)
    (hm : Calls Try.prog 40 #[.pointer (some ⟨q, 0, none⟩)] w fun e w' => e = .returned (.bool r) ∧ Q w') :
    Calls Try.prog 14 #[.pointer (some ⟨k, 0, none⟩)] w fun e w' => e = .returned (.bool r) ∧ Q w' := by
  have c1 : w.cell? ⟨k, 1, none⟩ = some (.pointer (some ⟨q, 0, none⟩)) := hk.cell 1
  have HM := Lib.hid hm
  clear hm
  go_enter Try.func14, Try.ntmps14
  go_wp2_with fail
  refine HM.out.mono ?_
  rintro e w1 ⟨rfl, k1⟩
  go_wp2_with fail
  go_ret
  exact ⟨rfl, k1⟩
theorem cholds_nil (w : World) : Calls Try.prog 19 #[.pointer none] w fun e w' => e = .returned (.tuple #[.agg #[.int .u64 0, .int .u64 0, .int .u64 0, .int .u64 0], .bool false]) ∧ Still w w' := by
  go_enter Try.func19, Try.ntmps19
  go_wp2_with fail
  have b := Blk.new w #[.int .u64 0, .int .u64 0, .int .u64 0, .int .u64 0] 40
  have p0 := b.cell 0
  have p1 := b.cell 1
  have p2 := b.cell 2
  have p3 := b.cell 3
  simp at p0 p1 p2 p3
  refine bodyPost_ret (v := .tuple #[.agg #[.int .u64 0, .int .u64 0, .int .u64 0, .int .u64 0], .bool false]) (by simp [results, Try.f19, go_sem, p0, p1, p2, p3]) rfl ⟨rfl, (still_refl w).alloc _⟩
theorem cholds_no (hk : Blk w k #[.pointer (some ⟨f, 0, none⟩), .pointer (some ⟨q, 0, none⟩), .slice none 0 0, .int .i64 n] 96) : Calls Try.prog 19 #[.pointer (some ⟨k, 0, none⟩)] w fun e w' => e = .returned (.tuple #[.agg #[.int .u64 0, .int .u64 0, .int .u64 0, .int .u64 0], .bool false]) ∧ Still w w' := by
  have c2 : w.cell? ⟨k, 2, none⟩ = some (.slice none 0 0) := hk.cell 2
  obtain ⟨w0, hw0⟩ : ∃ w0, w0 = w.alloc (.cells #[.int .u64 0, .int .u64 0, .int .u64 0, .int .u64 0] 40) := ⟨_, rfl⟩
  obtain ⟨B, hB⟩ : ∃ B, B = w.heap.size := ⟨_, rfl⟩
  have b0 : Blk w0 B #[.int .u64 0, .int .u64 0, .int .u64 0, .int .u64 0] 40 := by rw [hw0, hB]; exact Blk.new _ _ _
  have k0 : Still w w0 := by rw [hw0]; exact (still_refl w).alloc _
  have ck : ∀ {a : Addr} {v : Value}, w.cell? a = some v → w0.cell? a = some v := fun {a} {v} h => (World.cell?_of_block (k0.block a.block (lt_of_cell h) (fun f => f))).trans h
  replace c2 := ck c2
  have f0 := b0.free 0
  have f1 := b0.free 1
  have f2 := b0.free 2
  have f3 := b0.free 3
  have e0 : w0.cell? ⟨B, 0, none⟩ = some (.int .u64 0) := b0.cell 0
  have e1 : w0.cell? ⟨B, 1, none⟩ = some (.int .u64 0) := b0.cell 1
  have e2 : w0.cell? ⟨B, 2, none⟩ = some (.int .u64 0) := b0.cell 2
  have e3 : w0.cell? ⟨B, 3, none⟩ = some (.int .u64 0) := b0.cell 3
  have HW0 := Lib.hid hw0
  have HB := Lib.hid hB
  have K0 := Lib.hid k0
  have B0 := Lib.hid b0
  clear hw0 hB k0 b0 ck hk
  go_enter Try.func19, Try.ntmps19
  go_upto_region 1 with fail
  rw [← HW0.out, ← HB.out]
  go_wp2_with fail
  obtain ⟨w6, hw6, k6, b6⟩ := boxf_set B0.out 0 0 0 0
  rw [← hw6]
  have p0 : w6.cell? ⟨B, 0, none⟩ = some (.int .u64 0) := b6.cell 0
  have p1 : w6.cell? ⟨B, 1, none⟩ = some (.int .u64 0) := b6.cell 1
  have p2 : w6.cell? ⟨B, 2, none⟩ = some (.int .u64 0) := b6.cell 2
  have p3 : w6.cell? ⟨B, 3, none⟩ = some (.int .u64 0) := b6.cell 3
  have hB := HB.out
  refine bodyPost_ret (v := .tuple #[.agg #[.int .u64 0, .int .u64 0, .int .u64 0, .int .u64 0], .bool false]) (by simp [results, Try.f19, go_sem, p0, p1, p2, p3]) rfl ⟨rfl, Kept.step K0.out k6 (fun i hi e => absurd hi (by omega))⟩
theorem cholds_yes {hb cap : Nat} {x : FiringV} (hcap : 1 ≤ cap ∧ cap ≤ maxLen) (hk : Blk w k #[.pointer (some ⟨f, 0, none⟩), .pointer (some ⟨q, 0, none⟩), .slice (some ⟨hb, 0, none⟩) 1 cap, .int .i64 n] 96)
    (d0 : w.cell? ⟨hb, 0, none⟩ = some (.int .u64 x.id)) (d1 : w.cell? ⟨hb, 1, none⟩ = some (.int .u64 x.gen)) (d2 : w.cell? ⟨hb, 2, none⟩ = some (.int .u64 x.dl)) (d3 : w.cell? ⟨hb, 3, none⟩ = some (.int .u64 x.tick)) : Calls Try.prog 19 #[.pointer (some ⟨k, 0, none⟩)] w fun e w' => e = .returned (.tuple #[x.v, .bool true]) ∧ Still w w' := by
  obtain ⟨vi, vg, vd, vt⟩ := x
  simp only [FiringV.v] at d0 d1 d2 d3 ⊢
  have c2 : w.cell? ⟨k, 2, none⟩ = some (.slice (some ⟨hb, 0, none⟩) 1 cap) := hk.cell 2
  obtain ⟨w0, hw0⟩ : ∃ w0, w0 = w.alloc (.cells #[.int .u64 0, .int .u64 0, .int .u64 0, .int .u64 0] 40) := ⟨_, rfl⟩
  obtain ⟨B, hB⟩ : ∃ B, B = w.heap.size := ⟨_, rfl⟩
  have b0 : Blk w0 B #[.int .u64 0, .int .u64 0, .int .u64 0, .int .u64 0] 40 := by rw [hw0, hB]; exact Blk.new _ _ _
  have k0 : Still w w0 := by rw [hw0]; exact (still_refl w).alloc _
  have ck : ∀ {a : Addr} {v : Value}, w.cell? a = some v → w0.cell? a = some v := fun {a} {v} h => (World.cell?_of_block (k0.block a.block (lt_of_cell h) (fun f => f))).trans h
  replace c2 := ck c2
  replace d0 := ck d0
  replace d1 := ck d1
  replace d2 := ck d2
  replace d3 := ck d3
  have f0 := b0.free 0
  have f1 := b0.free 1
  have f2 := b0.free 2
  have f3 := b0.free 3
  have e0 : w0.cell? ⟨B, 0, none⟩ = some (.int .u64 0) := b0.cell 0
  have e1 : w0.cell? ⟨B, 1, none⟩ = some (.int .u64 0) := b0.cell 1
  have e2 : w0.cell? ⟨B, 2, none⟩ = some (.int .u64 0) := b0.cell 2
  have e3 : w0.cell? ⟨B, 3, none⟩ = some (.int .u64 0) := b0.cell 3
  have HW0 := Lib.hid hw0
  have HB := Lib.hid hB
  have K0 := Lib.hid k0
  have B0 := Lib.hid b0
  clear hw0 hB k0 b0 ck hk
  have hidx : ∀ W, (Instr.indexAt 22 (.slice (some ⟨hb, 0, none⟩) 1 cap) (.int .i64 0)).run Try.prog W = .ok (.pointer (some ⟨hb, 0, none⟩)) W := fun W => by kernel_rfl
  go_enter Try.func19, Try.ntmps19
  go_upto_region 1 with fail
  rw [← HW0.out, ← HB.out]
  go_wp2_with fail
  obtain ⟨w6, hw6, k6, b6⟩ := boxf_set B0.out vi vg vd vt
  rw [← hw6]
  have p0 : w6.cell? ⟨B, 0, none⟩ = some (.int .u64 vi) := b6.cell 0
  have p1 : w6.cell? ⟨B, 1, none⟩ = some (.int .u64 vg) := b6.cell 1
  have p2 : w6.cell? ⟨B, 2, none⟩ = some (.int .u64 vd) := b6.cell 2
  have p3 : w6.cell? ⟨B, 3, none⟩ = some (.int .u64 vt) := b6.cell 3
  have hB := HB.out
  refine bodyPost_ret (v := .tuple #[.agg #[.int .u64 vi, .int .u64 vg, .int .u64 vd, .int .u64 vt], .bool true]) (by simp [results, Try.f19, go_sem, p0, p1, p2, p3]) rfl ⟨rfl, Kept.step K0.out k6 (fun i hi e => absurd hi (by omega))⟩
end
end Go.Proofs.Ytbikganlloopbaa
