/-
  What stands here: the step in which a worker takes a firing. Under no condition but that the world holds it.
-/
import Derived.Test.YtbikganlloopbaaCrewState
namespace Go.Proofs.Ytbikganlloopbaa
set_option linter.unusedVariables false
set_option linter.unusedSimpArgs false
open Go.RowKit Go.Proofs
theorem Blk.other_size {w : World} {a b : Nat} {c d : Array Value} {t u : TypeId} (h : Blk w a c t) (k : Blk w b d u) (hs : c.size ≠ d.size) : a ≠ b := fun e => by
  subst e
  unfold Blk at h k
  rw [h] at k
  injection k with k
  injection k with k
  exact hs (by rw [k])
set_option maxHeartbeats 4000000 in
set_option maxRecDepth 100000 in
theorem takes2 {col : Nat → Nat} {i f p g N M k q bx : Nat} {cf : Nat → Int} {bz n : Int} {x : FiringV} {rest logs : List FiringV} {w : World} (h : CF col f p g N M cf bz (x :: rest) logs w) (hM : M < 100000) (hbz : 0 ≤ bz ∧ bz < 100000)
    (hk : BlkC col (10 + i) w k #[.pointer (some ⟨f, 0, none⟩), .pointer (some ⟨q, 0, none⟩), .slice none 0 0, .int .i64 n] 96) (hx : BlkC col (10 + i) w bx #[.pointer (some ⟨k, 0, none⟩)] 31) :
    Calls Try.prog 57 #[.pointer (some ⟨bx, 0, none⟩)] w fun e w' => ∃ b1 b2 hb cap col', e = .returned (.agg #[.nilFunc, thenV b1 b2]) ∧ Move (fun c => c = 1 ∨ c = 2 ∨ c = 10 + i) col col' w w' ∧ Kept (fun y => (col y = 1 ∨ col y = 2) ∨ y = k) w w' ∧ CF col' f p g N M cf (bz + 1) rest logs w' ∧
      BlkC col' (10 + i) w' k #[.pointer (some ⟨f, 0, none⟩), .pointer (some ⟨q, 0, none⟩), .slice (some ⟨hb, 0, none⟩) 1 cap, .int .i64 n] 96 ∧ Owns col' (10 + i) w' 40 4 (.slice (some ⟨hb, 0, none⟩) 1 cap) 1 x.cl ∧ PutB col' (10 + i) k b1 b2 w' := by
  obtain ⟨i0, hi, hz0, hz1, hz2⟩ := info_parts infoFiring
  obtain ⟨w0, hw0⟩ : ∃ w0, w0 = w.alloc (.cells #[.nilFunc, .nilFunc] 100) := ⟨_, rfl⟩
  obtain ⟨R, hR⟩ : ∃ R, R = w.heap.size := ⟨_, rfl⟩
  have k0 : Still w w0 := by rw [hw0]; exact (still_refl w).alloc _
  obtain ⟨col0, hcol0⟩ : ∃ col0, col0 = ext col w.heap.size (10 + i) := ⟨_, rfl⟩
  have m0 : ∀ S, Move S col col0 w w0 := fun S => by rw [hcol0]; exact Move.ext (k0.mono fun _ _ f => f.elim) _
  have r0 : BlkC col0 (10 + i) w0 R #[.nilFunc, .nilFunc] 100 := ⟨by rw [hw0, hR]; exact Blk.new _ _ _, by rw [hcol0, hR]; exact ext_new _ (Nat.le_refl _)⟩
  have h0 := h.move (m0 (fun _ => False)) id id id id
  have hk0 := hk.move (m0 (fun _ => False)) id
  have hx0 := hx.move (m0 (fun _ => False)) id
  have HM0 := Lib.hid (m0 (fun c => c = 1 ∨ c = 2 ∨ c = 10 + i))
  have hcf9 : col f = 1 := by obtain ⟨_, _, _, _, _, _, _, h9, _⟩ := h; exact h9
  have HCF9 := Lib.hid hcf9
  have KF0 : Hid (Kept (fun y => (col y = 1 ∨ col y = 2) ∨ y = k) w w0) := Lib.hid (k0.mono (fun _ _ f => f.elim))
  clear hcf9
  have HW0 := Lib.hid hw0
  have HR := Lib.hid hR
  clear m0 hcol0 k0 h hk hx hw0 hR
  obtain ⟨s, sb, sh, c, l, mx, hf, cf1, hp, cp, cc, cy, hl, ha, hb⟩ := h0
  have c0 : w0.cell? ⟨bx, 0, none⟩ = some (.pointer (some ⟨k, 0, none⟩)) := hx0.1.cell 0
  have c1 : w0.cell? ⟨k, 0, none⟩ = some (.pointer (some ⟨f, 0, none⟩)) := hk0.1.cell 0
  have HP := Lib.hid (fpipe hf)
  simp only [List.length_cons] at ha
  have HT := Lib.hid (ptake_any_f w0 hp (by omega))
  have H0 := Lib.hid (show CF col0 f p g N M cf bz (x :: rest) logs w0 from ⟨s, sb, sh, c, l, mx, hf, cf1, hp, cp, cc, cy, hl, by simp only [List.length_cons]; omega, hb⟩)
  have R0 := Lib.hid r0
  have HK0 := Lib.hid hk0
  have HX0 := Lib.hid hx0
  have CY := Lib.hid cy
  have HF0 := Lib.hid hf
  have HPL := Lib.hid (And.intro hp.blk.lt hp.ch.lt)
  have HL0 := Lib.hid hl
  have HCC := Lib.hid (And.intro cf1 (And.intro cp cc))
  clear r0 hf hp hk0 hx0 hl cy cf1 cp cc
  go_enter Try.func57, Try.ntmps57
  go_upto_region 1 with fail
  rw [← HW0.out, ← HR.out]
  go_wp2_with fail
  refine HP.out.mono ?_
  rintro e w1 ⟨rfl, rfl⟩
  go_wp2_with fail
  refine HT.out.mono ?_
  rintro e w2 ⟨rfl, k2, s2, P2, d2⟩
  obtain ⟨cf1, cp, cc⟩ := HCC.out
  obtain ⟨col2, hcol2⟩ : ∃ col2, col2 = ext col0 w0.heap.size 2 := ⟨_, rfl⟩
  have m2 : Move (· = 2) col0 col2 w0 w2 := by
    rw [hcol2]
    exact Move.ext (k2.mono fun y _ hy => by
      rcases hy with h9 | rfl | rfl
      · exact CY.out y h9
      · exact cp
      · exact cc) _
  have h2 : CF col2 f p g N M cf bz rest logs w2 := ⟨s2, sb, sh, c, l, mx, HF0.out.kept m2.k (fun e => by rw [cf1] at e; omega), (m2.re f HF0.out.lt).trans cf1, P2, (m2.re p HPL.out.1).trans cp, (m2.re c HPL.out.2).trans cc, fun y hy => by
      rw [d2] at hy
      rcases Nat.lt_or_ge y w0.heap.size with h9 | h9
      · exact (m2.re y h9).trans (CY.out y hy)
      · rw [hcol2]; exact ext_new _ h9, HL0.out.move m2 (by omega) (by omega), by omega, hb⟩
  have hk2 := HK0.out.move m2 (by omega)
  have hx2 := HX0.out.move m2 (by omega)
  have hr2 := R0.out.move m2 (by omega)
  have hm2 := HM0.out.trans (m2.mono fun c h => .inr (.inl h))
  have KF2 : Hid (Kept (fun y => (col y = 1 ∨ col y = 2) ∨ y = k) w w2) := Lib.hid (KF0.out.step m2.k (fun y hy h => .inl (.inr (by rw [← HM0.out.re y hy]; exact h))))
  clear m2 hcol2 k2 P2 d2 cf1 cp cc c0 c1
  obtain ⟨w3, hw3⟩ : ∃ w3, w3 = w2.alloc (boxF x) := ⟨_, rfl⟩
  obtain ⟨X, hX⟩ : ∃ X, X = w2.heap.size := ⟨_, rfl⟩
  obtain ⟨col3, hcol3⟩ : ∃ col3, col3 = ext col2 w2.heap.size (10 + i) := ⟨_, rfl⟩
  have m3 : ∀ S, Move S col2 col3 w2 w3 := fun S => by rw [hcol3]; exact Move.ext (by rw [hw3]; exact (Kept.refl _ w2).alloc _) _
  have bX : BlkC col3 (10 + i) w3 X #[.int .u64 x.id, .int .u64 x.gen, .int .u64 x.dl, .int .u64 x.tick] 40 := ⟨by rw [hw3, hX]; exact Blk.new _ _ _, by rw [hcol3, hX]; exact ext_new _ (Nat.le_refl _)⟩
  have h3 := h2.move (m3 (fun _ => False)) id id id id
  have hk3 := hk2.move (m3 (fun _ => False)) id
  have hx3 := hx2.move (m3 (fun _ => False)) id
  have hr3 := hr2.move (m3 (fun _ => False)) id
  have hm3 := hm2.trans (m3 _)
  have KF3 : Hid (Kept (fun y => (col y = 1 ∨ col y = 2) ∨ y = k) w w3) := Lib.hid (KF2.out.of_still (by rw [hw3]; exact (still_refl w2).alloc _))
  simp only [boxF] at hw3
  have HW3 := Lib.hid hw3
  have HX := Lib.hid hX
  clear m3 hcol3 h2 hk2 hx2 hr2 hm2 hw3 hX
  have CB := Lib.hid hx3.1.cells
  have CK := Lib.hid hk3.1.cells
  have CX := Lib.hid bX.1.cells
  have c0 : w3.cell? ⟨bx, 0, none⟩ = some (.pointer (some ⟨k, 0, none⟩)) := hx3.1.cell 0
  have c2 : w3.cell? ⟨k, 2, none⟩ = some (.slice none 0 0) := hk3.1.cell 2
  have f2 := hk3.1.free 2
  have e0 : w3.cell? ⟨X, 0, none⟩ = some (.int .u64 x.id) := bX.1.cell 0
  have e1 : w3.cell? ⟨X, 1, none⟩ = some (.int .u64 x.gen) := bX.1.cell 1
  have e2 : w3.cell? ⟨X, 2, none⟩ = some (.int .u64 x.dl) := bX.1.cell 2
  have e3 : w3.cell? ⟨X, 3, none⟩ = some (.int .u64 x.tick) := bX.1.cell 3
  have H3 := Lib.hid h3
  have HK3 := Lib.hid hk3
  have HX3 := Lib.hid hx3
  have HR3 := Lib.hid hr3
  have HM3 := Lib.hid hm3
  have BX := Lib.hid bX
  clear h3 hk3 hx3 hr3 hm3 bX
  go_upto_region 2 with fail
  rw [← HW3.out, ← HX.out]
  refine wp_region_end ([4], [9, 31]) [bx, k, X] rfl (by kernel_rfl) (by kernel_rfl) (by kernel_rfl) (cellsB_cons CB.out (cellsB_cons CK.out (cellsB_cons CX.out cellsB_nil))) (by simp [segs, isEff, isLoad, askOps, asks, ptrEq, eqOrNe, isNil]; rfl) ?_
  (repeat ((first | (refine segs_nil ?_) | (refine segs_go (stay_drew) ?_ ?_; focus (simp [isLoad]; done)) | (refine segs_load (stay_drew) ?_ ?_; focus (intro h; first | exact ⟨bx, _, rfl, by simp⟩ | exact ⟨k, _, rfl, by simp⟩ | exact ⟨X, _, rfl, by simp⟩ | (simp [Region.wanted, yielded, undef] at h; done))) | fail); go_wp2_with fail))
  have hlt3 : ∀ b, b ∈ [bx, k, X] → b < w3.heap.size := fun b hb => by
    simp only [List.mem_cons, List.not_mem_nil, or_false] at hb
    rcases hb with rfl | rfl | rfl
    · exact HX3.out.1.lt
    · exact HK3.out.1.lt
    · exact BX.out.1.lt
  refine segs_go (stay_still (((still_refl w3).drewN 1).alloc _) hlt3) (by simp [isLoad]) ?_
  have hoa : (w3.drew.alloc (.cells #[.int .u64 x.id, .int .u64 x.gen, .int .u64 x.dl, .int .u64 x.tick] 40)).ownsRow 0 40 4 (.slice none 0 0) 0 [] := World.ownsRow_nil _ _ _ _
  go_wp2_with (first | (at_builtin; go_loud (refine wpList_append _ rfl _ _ 22 rfl 0 40 i0 (.agg #[.int .u64 0, .int .u64 0, .int .u64 0, .int .u64 0]) 4 32 Try.underlying22 hi hz0 hz1 hz2 rfl (by decide) _ _ _ rfl hoa ⟨w3.heap.size, 0, none⟩ 1 1 x.cl rfl rfl (by intro j u hj; rw [addr_add, Nat.zero_add]; exact ((Blk.newAt _ _ _ (by simp)).cell j).trans (by simpa [FiringV.cl] using hj)) (by intro u hu; simp only [FiringV.cl, List.mem_cons, List.not_mem_nil, or_false] at hu; rcases hu with rfl | rfl | rfl | rfl <;> rfl) (by unfold maxLen; omega) (by omega) (Nat.zero_le _) ?_)) | fail)
  intro v4 w4 hap
  have k4 : Still w3 w4 := (((still_refl w3).alloc _).drewN 1).grown hap.grown (fun k e _ => by cases e)
  obtain ⟨col4, hcol4⟩ : ∃ col4, col4 = ext col3 w3.heap.size (10 + i) := ⟨_, rfl⟩
  have m4 : ∀ S, Move S col3 col4 w3 w4 := fun S => by rw [hcol4]; exact Move.ext (k4.mono fun _ _ f => f.elim) _
  have ow4 : Owns col4 (10 + i) w4 40 4 v4 1 x.cl := ⟨hap.owns, fun g hg => by
    rcases hap.block g hg with h9 | h9
    · cases h9
    · rw [hcol4]; exact ext_new _ (by simp [World.drew] at h9; omega)⟩
  obtain ⟨hb4, cap4, rfl, -, -, -, -, -, -⟩ := ow4.row_at (by omega)
  have hk4 := HK3.out.move (m4 (fun _ => False)) id
  have hx4 := HX3.out.move (m4 (fun _ => False)) id
  have hr4 := HR3.out.move (m4 (fun _ => False)) id
  have h4 := H3.out.move (m4 (fun _ => False)) id id id id
  have hm4 := HM3.out.trans (m4 _)
  have KF4 : Hid (Kept (fun y => (col y = 1 ∨ col y = 2) ∨ y = k) w w4) := Lib.hid (KF3.out.of_still k4)
  have hxk : bx ≠ k := hx4.1.other_size hk4.1 (by simp)
  have hrk : R ≠ k := hr4.1.other_size hk4.1 (by simp)
  have hbk : hb4 ≠ k := by
    have h9 := hap.block hb4 (by simp [Value.ownBlock])
    rcases h9 with h9 | h9
    · cases h9
    · have := HK3.out.1.lt; simp [World.drew] at h9; omega
  have c4 : w4.cell? ⟨k, 2, none⟩ = some (.slice none 0 0) := hk4.1.cell 2
  have f4 := hk4.1.free 2
  have H4 := Lib.hid h4
  have HK4 := Lib.hid hk4
  have HX4 := Lib.hid hx4
  have HR4 := Lib.hid hr4
  have HM4 := Lib.hid hm4
  have OW4 := Lib.hid ow4
  have K4 := Lib.hid k4
  clear hap hoa h4 hk4 hx4 hr4 hm4 ow4 m4 hcol4 k4 c0 c2 f2 e0 e1 e2 e3
  go_wp2_with fail
  refine segs_go (stay_still K4.out hlt3) (by simp [isLoad]) ?_
  clear hlt3
  go_wp2_with fail
  refine segs_nil ?_
  obtain ⟨w5, hw5⟩ : ∃ w5, w5 = w4.setCell ⟨k, 2, none⟩ (.slice (some ⟨hb4, 0, none⟩) 1 cap4) := ⟨_, rfl⟩
  have k5 : Only k w4 w5 := by rw [hw5]; exact (only_refl k w4).put 2 _
  have hk5 : BlkC col4 (10 + i) w5 k #[.pointer (some ⟨f, 0, none⟩), .pointer (some ⟨q, 0, none⟩), .slice (some ⟨hb4, 0, none⟩) 1 cap4, .int .i64 n] 96 := ⟨by rw [hw5]; exact HK4.out.1.set' rfl, HK4.out.2⟩
  have hx5 : BlkC col4 (10 + i) w5 bx #[.pointer (some ⟨k, 0, none⟩)] 31 := ⟨HX4.out.1.kept k5 hxk, HX4.out.2⟩
  have hr5 : BlkC col4 (10 + i) w5 R #[.nilFunc, .nilFunc] 100 := ⟨HR4.out.1.kept k5 hrk, HR4.out.2⟩
  have ow5 : Owns col4 (10 + i) w5 40 4 (.slice (some ⟨hb4, 0, none⟩) 1 cap4) 1 x.cl := ⟨owns_kept2 OW4.out.1 k5 (fun b hb e => hbk (by simp only [Value.ownBlock, Option.some.injEq] at hb; rw [hb]; exact e)), OW4.out.2⟩
  have m5 : Move (· = 10 + i) col4 col4 w4 w5 := .still' k5 (fun y hy => by rw [hy]; exact HK4.out.2)
  have h5 := H4.out.move m5 (by omega) (by omega) (by omega) (by omega)
  have hm5 := HM4.out.trans (m5.mono fun c h => .inr (.inr h))
  have KF5 : Hid (Kept (fun y => (col y = 1 ∨ col y = 2) ∨ y = k) w w5) := Lib.hid (KF4.out.step k5 (fun y _ h => .inr h))
  obtain ⟨s5, sb5, sh5, cc5, l5, mx5, hf5, q1, q2, q3, q4, q5, q6, q7, q8⟩ := h5
  have c0 : w5.cell? ⟨bx, 0, none⟩ = some (.pointer (some ⟨k, 0, none⟩)) := hx5.1.cell 0
  have c1 : w5.cell? ⟨k, 0, none⟩ = some (.pointer (some ⟨f, 0, none⟩)) := hk5.1.cell 0
  have HWK := Lib.hid (fwork true hf5 (by omega) (by simp; omega))
  have H5 := Lib.hid (show CF col4 f p g N M cf bz rest logs w5 from ⟨s5, sb5, sh5, cc5, l5, mx5, hf5, q1, q2, q3, q4, q5, q6, q7, q8⟩)
  have Q := Lib.hid (And.intro hf5.lt (And.intro q1 (And.intro q2 (And.intro q3 (And.intro q4 (And.intro q5 (And.intro q6 (And.intro q7 q8))))))))
  have HW5 := Lib.hid hw5
  have HK5 := Lib.hid hk5
  have HX5 := Lib.hid hx5
  have HR5 := Lib.hid hr5
  have HM5 := Lib.hid hm5
  have OW5 := Lib.hid ow5
  clear hw5 k5 hk5 hx5 hr5 ow5 m5 hm5 hf5 q1 q2 q3 q4 q5 q6 q7 q8
  go_upto_region 3 with fail
  rw [← HW5.out]
  clear c4 f4
  go_wp2_with fail
  refine HWK.out.mono ?_
  rintro e w6 ⟨rfl, hf6, k6⟩
  obtain ⟨ql, q1, q2, q3, q4, q5, q6, q7, q8⟩ := Q.out
  have m6 : Move (· = 1) col4 col4 w5 w6 := .still' k6 (fun y hy => by rw [hy]; exact q1)
  have hne : ∀ y, col4 y = 2 → ¬ y = f := fun y h e => by rw [e, q1] at h; omega
  have h6 : CF col4 f p g N M cf (bz + 1) rest logs w6 := ⟨s5, sb5, sh5, cc5, l5, mx5, hf6, q1, q2.kept k6 (by
      rintro y (h9 | rfl | rfl)
      · exact hne y (q5 y h9)
      · exact hne _ q3
      · exact hne _ q4), q3, q4, q5, q6.move m6 (by omega) (by omega), q7, q8⟩
  have hk6 := HK5.out.move m6 (by omega)
  have hx6 := HX5.out.move m6 (by omega)
  have hr6 := HR5.out.move m6 (by omega)
  have ow6 := OW5.out.move m6 (by omega)
  have hm6 := HM5.out.trans (m6.mono fun c h => .inl h)
  have KF6 : Hid (Kept (fun y => (col y = 1 ∨ col y = 2) ∨ y = k) w w6) := Lib.hid (KF5.out.step k6 (fun y _ h => .inl (.inl (by rw [h]; exact HCF9.out))))
  have c0' : w6.cell? ⟨bx, 0, none⟩ = some (.pointer (some ⟨k, 0, none⟩)) := hx6.1.cell 0
  have CB6 := Lib.hid hx6.1.cells
  have H6 := Lib.hid h6
  have HK6 := Lib.hid hk6
  have HX6 := Lib.hid hx6
  have HR6 := Lib.hid hr6
  have HM6 := Lib.hid hm6
  have OW6 := Lib.hid ow6
  clear h6 hk6 hx6 hr6 hm6 ow6 hf6 k6 m6 hne ql q1 q2 q3 q4 q5 q6 q7 q8 c0 c1
  go_upto_region 4 with fail
  refine wp_region_end ([4], [9, 31]) [bx] rfl (by kernel_rfl) (by kernel_rfl) (by kernel_rfl) (cellsB_cons CB6.out cellsB_nil) (by simp [segs, isEff, isLoad, askOps, asks, ptrEq, eqOrNe, isNil]; rfl) ?_
  (repeat ((first | (refine segs_nil ?_) | (refine segs_go (stay_drew) ?_ ?_; focus (simp [isLoad]; done)) | (refine segs_load (stay_drew) ?_ ?_; focus (intro h; first | exact ⟨bx, _, rfl, by simp⟩ | (simp [Region.wanted, yielded, undef] at h; done))) | fail); go_wp2_with fail))
  obtain ⟨w7, hw7⟩ : ∃ w7, w7 = (w6.alloc (.cells #[putsV k] 1)).drew := ⟨_, rfl⟩
  have k7 : Still w6 w7 := by rw [hw7]; exact ((still_refl w6).alloc _).drewN 1
  have ba : Blk w7 w6.heap.size #[putsV k] 1 := by rw [hw7]; exact (Blk.new _ _ _).drew
  rw [← hw7]
  have hl6 : ∀ b, b ∈ [bx] → b < w6.heap.size := fun b hb => by
    simp only [List.mem_cons, List.not_mem_nil, or_false] at hb
    rw [hb]; exact HX6.out.1.lt
  refine segs_go (stay_still k7 hl6) (by simp [isLoad]) ?_
  clear hw7
  go_wp2_with fail
  refine (prow_one k w6.heap.size w7 ba).mono ?_
  rintro e w8 ⟨b4, b5, b3, rfl, k8, z3, z4, z5, d4, d5, d3⟩
  have hx8 := HX6.out.1.still (k7.trans k8)
  have c8 : w8.cell? ⟨bx, 0, none⟩ = some (.pointer (some ⟨k, 0, none⟩)) := hx8.cell 0
  clear c0'
  go_wp2_with fail
  refine segs_go (stay_still (k7.trans k8) hl6) (by simp [isLoad]) ?_
  go_wp2_with fail
  refine segs_load (stay_still (k7.trans k8) hl6) (fun h => ⟨bx, _, rfl, by simp⟩) ?_
  have K78 := Lib.hid (k7.trans k8)
  have HB := Lib.hid (And.intro z3 (And.intro z4 (And.intro z5 (And.intro d4 (And.intro d5 d3)))))
  have K7 := Lib.hid k7
  clear k7 k8 z3 z4 z5 d4 d5 d3 ba
  go_wp2_with fail
  refine (pthen_some 78 #[.pointer (some ⟨b4, 0, none⟩), .pointer (some ⟨b5, 0, none⟩), .pointer (some ⟨b3, 0, none⟩)] k w8).mono ?_
  rintro e w9 ⟨b1, b2, rfl, k9, z1, z2, d1, d2⟩
  have K9 := Lib.hid k9
  have HB2 := Lib.hid (And.intro z1 (And.intro z2 (And.intro d1 d2)))
  have hr9 := HR6.out.1.still (K78.out.trans k9)
  have p0 : w9.cell? ⟨R, 0, none⟩ = some .nilFunc := hr9.cell 0
  have p1 : w9.cell? ⟨R, 1, none⟩ = some .nilFunc := hr9.cell 1
  have f0 := hr9.free 0
  have f1 := hr9.free 1
  have HR9 := Lib.hid hr9
  clear z1 z2 d1 d2 c8 hr9
  go_wp2_with fail
  refine segs_go (stay_still (K78.out.trans k9) hl6) (by simp [isLoad]) ?_
  clear k9 hl6
  go_wp2_with fail
  refine segs_nil ?_
  go_wp2_with fail
  obtain ⟨wz, hwz, kz, bz9⟩ := stage_set HR9.out .nilFunc (thenV b1 b2)
  rw [← hwz]
  have p0 : wz.cell? ⟨R, 0, none⟩ = some .nilFunc := bz9.cell 0
  have p1 : wz.cell? ⟨R, 1, none⟩ = some (thenV b1 b2) := bz9.cell 1
  refine bodyPost_ret (v := .agg #[.nilFunc, thenV b1 b2]) (by simp [results, Try.f57, go_sem, p0, p1]) rfl ?_
  obtain ⟨z3, z4, z5, d4, d5, d3⟩ := HB.out
  obtain ⟨z1, z2, d1, d2⟩ := HB2.out
  obtain ⟨col9, hcol9⟩ : ∃ col9, col9 = ext col4 w6.heap.size (10 + i) := ⟨_, rfl⟩
  have hz7 := K7.out.size
  have hz8 := K78.out.size
  have hRl := HR6.out.1.lt
  have hkl := HK6.out.1.lt
  have k69 : Kept (fun y => y = R) w6 wz := ((K78.out.trans K9.out).mono (fun _ _ f => f.elim)).step kz (fun _ _ h => h)
  have m9 : Move (· = 10 + i) col4 col9 w6 wz := by rw [hcol9]; exact Move.ext (k69.mono fun y _ hy => by rw [hy]; exact HR6.out.2) _
  have hkR : k ≠ R := fun e => HK6.out.1.other_size HR6.out.1 (by simp) e
  have hbR : hb4 ≠ R := fun e => by
    obtain ⟨g, cap', hv, -, -, -, -, ⟨cs, tt, ff, hg⟩, hc⟩ := OW6.out.row_at (by omega)
    simp only [Value.slice.injEq, Option.some.injEq, Addr.mk.injEq, and_true, true_and] at hv
    obtain ⟨rfl, rfl⟩ := hv
    have h9 := hc 0 (by omega)
    rw [e] at h9
    have h8 : w6.cell? ⟨R, 0, none⟩ = some .nilFunc := HR6.out.1.cell 0
    rw [h8] at h9
    simp [FiringV.cl] at h9
  have new9 : ∀ {y : Nat}, w6.heap.size ≤ y → col9 y = 10 + i := fun h => by rw [hcol9]; exact ext_new _ h
  have bk : ∀ {y : Nat} {v : Array Value} {T : TypeId}, Blk w9 y v T → w6.heap.size ≤ y → BlkC col9 (10 + i) wz y v T := fun h h9 => ⟨h.kept kz (by omega), new9 h9⟩
  refine ⟨b1, b2, hb4, cap4, col9, rfl, HM6.out.trans (m9.mono fun c h => .inr (.inr h)), KF6.out.step k69 (fun y hy h => absurd hy (by have := HR.out; omega)), H6.out.move m9 (by omega) (by omega) (by omega) (by omega), ⟨HK6.out.1.kept k69 hkR, (m9.re k hkl).trans HK6.out.2⟩, ⟨owns_kept2 OW6.out.1 k69 (fun b hb e => hbR (by simp only [Value.ownBlock, Option.some.injEq] at hb; rw [hb]; exact e)), fun g hg => ?_⟩, b3, b4, b5, w6.heap.size, bk d1 (by omega), bk d2 (by omega), bk (d4.still K9.out) (by omega), bk (d5.still K9.out) (by omega), bk (d3.still K9.out) (by omega)⟩
  exact (m9.re g (owns_lt OW6.out.1 g hg)).trans (OW6.out.2 g hg)
end Go.Proofs.Ytbikganlloopbaa
