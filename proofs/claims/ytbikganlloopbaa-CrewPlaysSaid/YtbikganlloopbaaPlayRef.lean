/-
  What stands here: the document's world, made for a config that may be. Under no condition.
-/
import Derived.Test.YtbikganlloopbaaCrewAlive
import Derived.Laws.AppendOwnNone
namespace Go.Proofs.Ytbikganlloopbaa
set_option linter.unusedVariables false
set_option linter.unusedSimpArgs false
open Go.RowKit Go.Proofs
set_option maxHeartbeats 2000000 in
set_option maxRecDepth 100000 in
theorem rslab (w : World) : Calls Try.prog 46 #[.int .i64 4] w fun e w' => ∃ a, e = .returned (.pointer a) ∧ Still w w' := by
  have hmk : ∀ w, (Instr.makeSlice 171 (.int .i64 4) (.int .i64 4)).run Try.prog w = .ok (.slice (some ⟨w.heap.size, 0, none⟩) 4 4) (w.alloc (.cells #[.int .u64 0, .int .u64 0, .int .u64 0, .int .u64 0, .int .u64 0, .int .u64 0, .int .u64 0, .int .u64 0, .int .u64 0, .int .u64 0, .int .u64 0, .int .u64 0] 242)) := fun _ => by kernel_rfl
  go_enter Try.func46, Try.ntmps46
  go_wp2_with fail
  go_ret
  exact ⟨_, rfl, ((still_refl w).alloc _).alloc _⟩
/-- the cells of the document's world -/
def worldC (N n : Nat) (sl : Option Addr) (sh : Value) (bz : Int) (pv lv : Value) : Array Value := #[.int .i64 1, .int .i64 4, .int .i64 4, .int .i64 N, .int .i64 n, .int .i64 1, .pointer sl, sh, .int .i64 0, .int .i64 bz, .bool false, .int .u64 0, .slice none 0 0, pv, .bool false, lv]
theorem infoShard : (Try.prog.info? 116).map (fun i => (i.zero, i.size, i.bytes)) = some (some (.pointer none), 1, 8) := by kernel_rfl
set_option maxHeartbeats 4000000 in
set_option maxRecDepth 100000 in
theorem rworld (N n : Nat) (w : World) : Calls Try.prog 22 #[.agg #[.int .i64 1, .int .i64 4, .int .i64 4, .int .i64 N, .int .i64 n, .int .i64 1]] w fun e w' => ∃ R sl sh, e = .returned (.pointer (some ⟨R, 0, none⟩)) ∧ w.heap.size ≤ R ∧ Still w w' ∧ Blk w' R (worldC N n sl sh 0 (.slice none 0 0) (.slice none 0 0)) 69 := by
  obtain ⟨j0, hj, hj0, hj1, hj2⟩ := info_parts infoShard
  obtain ⟨w1, hw1⟩ : ∃ w1, w1 = w.alloc (.cells #[.int .i64 1, .int .i64 4, .int .i64 4, .int .i64 N, .int .i64 n, .int .i64 1] 29) := ⟨_, rfl⟩
  obtain ⟨B, hB⟩ : ∃ B, B = w.heap.size := ⟨_, rfl⟩
  have b1 : Blk w1 B #[.int .i64 1, .int .i64 4, .int .i64 4, .int .i64 N, .int .i64 n, .int .i64 1] 29 := by rw [hw1, hB]; exact Blk.new _ _ _
  have k1 : Still w w1 := by rw [hw1]; exact (still_refl w).alloc _
  have CB := Lib.hid b1.cells
  have HB := Lib.hid b1
  have HW1 := Lib.hid hw1
  have HBE := Lib.hid hB
  have K1 := Lib.hid k1
  have c0 : w1.cell? ⟨B, 0, none⟩ = some (.int .i64 1) := b1.cell 0
  have c1 : w1.cell? ⟨B, 1, none⟩ = some (.int .i64 4) := b1.cell 1
  have c2 : w1.cell? ⟨B, 2, none⟩ = some (.int .i64 4) := b1.cell 2
  have c3 : w1.cell? ⟨B, 3, none⟩ = some (.int .i64 N) := b1.cell 3
  have c4 : w1.cell? ⟨B, 4, none⟩ = some (.int .i64 n) := b1.cell 4
  have c5 : w1.cell? ⟨B, 5, none⟩ = some (.int .i64 1) := b1.cell 5
  clear hw1 hB b1 k1
  go_enter Try.func22, Try.ntmps22
  go_upto_region 1 with fail
  rw [← HW1.out, ← HBE.out]
  refine wp_region_text ([4], [9]) [B] (by kernel_rfl) (by kernel_rfl) (cellsB_cons CB.out cellsB_nil) (by simp [segs, isEff, isLoad, askOps, asks, ptrEq, eqOrNe, isNil]; rfl) ?_
  (repeat ((first | (refine segs_nil ?_) | (refine segs_go (stay_drew) ?_ ?_; focus (simp [isLoad]; done)) | (refine segs_load (stay_drew) ?_ ?_; focus (intro h; first | exact ⟨B, _, rfl, by simp⟩ | (simp [Region.wanted, yielded, undef] at h; done))) | fail); go_wp2_with fail))
  refine (rslab _).mono ?_
  rintro e w2 ⟨sl, rfl, k2⟩
  have kd2 : Still w1 w2 := ((still_refl w1).drewN 1).of_still k2
  have hAl : ∀ b, b ∈ [B] → b < w1.heap.size := fun b hb => by simp at hb; subst hb; exact HB.out.lt
  have KD := Lib.hid kd2
  have HAL := Lib.hid hAl
  clear k2 kd2 hAl
  go_wp2_with fail
  refine segs_go (stay_still KD.out HAL.out) (by simp [isLoad]) ?_
  go_wp2_with fail
  refine segs_go (stay_still KD.out HAL.out) (by simp [isLoad]) ?_
  go_wp2_with fail
  refine segs_go (stay_still (KD.out.alloc _) HAL.out) (by simp [isLoad]) ?_
  go_wp2_with fail
  refine segs_nil ?_
  obtain ⟨w3, hw3⟩ : ∃ w3, w3 = w2.alloc (.cells (worldC N n sl (.slice none 0 0) 0 (.slice none 0 0) (.slice none 0 0)) 69) := ⟨_, rfl⟩
  obtain ⟨R, hR⟩ : ∃ R, R = w2.heap.size := ⟨_, rfl⟩
  have b3 : Blk w3 R (worldC N n sl (.slice none 0 0) 0 (.slice none 0 0) (.slice none 0 0)) 69 := by rw [hw3, hR]; exact Blk.new _ _ _
  have hBR : B < R := by
    have h1 := HB.out.lt
    have h2 := (HB.out.kept KD.out (fun f => f)).lt
    omega
  unfold worldC at hw3
  rw [← hw3, ← hR]
  have r3 : ∃ sh, sh = .slice none 0 0 ∧ Still w1 w3 ∧ Blk w3 R (worldC N n sl sh 0 (.slice none 0 0) (.slice none 0 0)) 69 := ⟨_, rfl, by rw [hw3]; exact KD.out.alloc _, b3⟩
  have R3 := Lib.hid r3
  have HBR := Lib.hid hBR
  clear r3 b3 hw3 hR hBR
  go_wp2_with fail
  go_loopw [4] (fun iv wr => ∃ (i : Nat) (sh : Value), iv = .int .i64 i ∧ i ≤ 1 ∧ (i = 0 → sh = .slice none 0 0) ∧ Still w1 wr ∧ Blk wr R (worldC N n sl sh 0 (.slice none 0 0) (.slice none 0 0)) 69) (fun iv _ => 1 - (intOf iv).toNat)
  case atStart =>
    obtain ⟨sh, h1, h2, h3⟩ := R3.out
    exact ⟨0, sh, rfl, by omega, fun _ => h1, h2, h3⟩
  case round =>
    obtain ⟨i, sh, rfl, hi, hsh, k3, b3⟩ := hrel
    have BB := Lib.hid (HB.out.kept k3 (fun f => f))
    have K3 := Lib.hid k3
    have B3 := Lib.hid b3
    have c0 : wr.cell? ⟨B, 0, none⟩ = some (.int .i64 1) := BB.out.cell 0
    have c2 : wr.cell? ⟨B, 2, none⟩ = some (.int .i64 4) := BB.out.cell 2
    have d7 : wr.cell? ⟨R, 7, none⟩ = some sh := b3.cell 7
    have f7 := b3.free 7
    clear k3 b3 c1 c3 c4 c5
    by_cases hi0 : i = 0
    · subst hi0
      obtain rfl := hsh rfl
      go_upto_region 5 with fail
      have CBB := Lib.hid BB.out.cells
      have CRR := Lib.hid B3.out.cells
      have hAl : ∀ b, b ∈ [B, R] → b < wr.heap.size := fun b hb => by
        simp only [List.mem_cons, List.not_mem_nil, or_false] at hb
        rcases hb with rfl | rfl
        · exact BB.out.lt
        · exact B3.out.lt
      have HAL2 := Lib.hid hAl
      clear hAl
      refine wp_region_end ([4], [9, 54]) [B, R] rfl (by kernel_rfl) (by kernel_rfl) (by kernel_rfl) (cellsB_cons CBB.out (cellsB_cons CRR.out cellsB_nil)) (by simp [segs, isEff, isLoad, askOps, asks, ptrEq, eqOrNe, isNil]; rfl) ?_
      (repeat ((first | (refine segs_nil ?_) | (refine segs_go (stay_drew) ?_ ?_; focus (simp [isLoad]; done)) | (refine segs_load (stay_drew) ?_ ?_; focus (intro h; first | exact ⟨R, _, rfl, by simp⟩ | exact ⟨B, _, rfl, by simp⟩ | (simp [Region.wanted, yielded, undef] at h; done))) | fail); go_wp2_with fail))
      refine segs_go (stay_still (((still_refl wr).alloc _).drewN 1) HAL2.out) (by simp [isLoad]) ?_
      go_wp2_with fail
      refine segs_go (stay_still ((((still_refl wr).alloc _).alloc _).drewN 1) HAL2.out) (by simp [isLoad]) ?_
      go_wp2_with (first | (at_builtin; go_loud (refine wpList_append _ rfl _ _ 64 rfl 0 116 j0 (.pointer none) 1 8 Try.underlying64 hj hj0 hj1 hj2 rfl (by decide) _ _ _ rfl (World.ownsRow_nil _ _ _ _) ⟨wr.heap.size + 1, 0, none⟩ 1 1 [.pointer (some ⟨wr.heap.size, 0, none⟩)] rfl rfl (by intro j u hj; match j, hj with | 0, hj => simp at hj; subst hj; first | (simp [Addr.add]; done) | exact (Blk.newAt _ _ _ (by simp)).cell 0) (by intro u hu; simp at hu; subst hu; rfl) (by unfold maxLen; omega) (by omega) (by first | omega | (simp; omega) | simp) ?_)) | fail)
      intro v5 w5 hap
      have k5 : Still wr w5 := (((((still_refl wr).alloc _).alloc _).drewN 1).grown hap.grown (fun k e _ => by simp [Value.ownBlock] at e))
      obtain ⟨a5, c5', rfl⟩ := owns_slice hap.owns
      have K5 := Lib.hid k5
      have B5 := Lib.hid (B3.out.kept k5 (fun f => f))
      have f5 := B5.out.free 7
      have d5 : w5.cell? ⟨R, 7, none⟩ = some (.slice none 0 0) := B5.out.cell 7
      clear hap k5 f7 d7 c0 c2
      go_wp2_with fail
      refine segs_go (stay_still K5.out HAL2.out) (by simp [isLoad]) ?_
      go_wp2_with fail
      refine segs_nil ?_
      go_wp2_with fail
      go_roundw
      case rel =>
        refine ⟨1, _, rfl, Nat.le_refl _, fun h => absurd h (by decide), ?_, B5.out.set' rfl⟩
        have h1 : w1.heap.size ≤ R := by
          have h2 := HBE.out
          have h3 : w1.heap.size = w.heap.size + 1 := by rw [HW1.out]; simp
          have h4 := HBR.out
          omega
        exact Kept.step (K3.out.of_still K5.out) (Kept.setCell (S := fun y => y = R) (Kept.refl _ _) (fun _ => rfl) _) (fun i hi e => absurd hi (by omega))
      case measure => simp [intOf]
    · obtain rfl : i = 1 := by omega
      go_wp2_with fail
      go_ret
      exact ⟨R, sl, sh, rfl, by rw [← HBE.out]; exact Nat.le_of_lt HBR.out, K1.out.of_still K3.out, B3.out⟩
end Go.Proofs.Ytbikganlloopbaa
