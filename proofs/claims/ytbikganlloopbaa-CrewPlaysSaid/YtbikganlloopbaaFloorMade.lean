/-
  What stands here: a new floor. Under the condition that its config is in its bounds, of one shard.
-/
import Derived.Test.YtbikganlloopbaaFloorNew2
import Derived.Test.YtbikganlloopbaaFloorCheck
import Derived.Test.YtbikganlloopbaaFloor
import Derived.Deep.RegionWith
namespace Go.Proofs.Ytbikganlloopbaa
set_option linter.unusedVariables false
set_option linter.unusedSimpArgs false
open Go.RowKit Go.Proofs
theorem stay_still {ds : List Nat} {w0 w : World} (k : Still w0 w) (h : ∀ b, b ∈ ds → b < w0.heap.size) : StayB ds w0 w := fun b hb => k.block b (h b hb) (fun f => f)
/-- the config of a plain floor -/
def cfP (N M : Nat) (i : Nat) : Int := match i with
  | 0 => 1
  | 1 => 4
  | 2 => 4
  | 3 => N
  | 4 => M
  | _ => 1
theorem infoPS : (Try.prog.info? 91).map (fun i => (i.zero, i.size, i.bytes)) = some (some (.pointer none), 1, 8) := by kernel_rfl
set_option maxHeartbeats 2000000 in
set_option maxRecDepth 100000 in
theorem fnew (N M : Nat) (hN : 1 ≤ N ∧ N ≤ 16) (hM : 1 ≤ M ∧ M ≤ 4) (w : World) :
    Calls Try.prog 8 #[.agg #[.int .i64 1, .int .i64 4, .int .i64 4, .int .i64 N, .int .i64 M, .int .i64 1]] w fun e w' => ∃ f p c l g sb sh s, e = .returned (.tuple #[.pointer (some ⟨f, 0, none⟩), .int .i64 0]) ∧ FlB f (cfP N M) sb sh p g 0 w' ∧ Blk w' g #[.slice none 0 0] 137 ∧ PW_f s w' p c l N [] 0 false ∧
      (∀ y, y < w.heap.size → s.kd y = 0) ∧ s.kd f = 0 ∧ s.kd g = 0 ∧ w.heap.size ≤ f ∧ w.heap.size ≤ g ∧ w.heap.size ≤ p ∧ w.heap.size ≤ c ∧ Still w w' := by
  have hk : ∀ W, Calls Try.prog 29 #[.agg #[.int .i64 1, .int .i64 4, .int .i64 4, .int .i64 N, .int .i64 M, .int .i64 1]] W fun e w' => e = .returned (.int .i64 0) ∧ Below W.heap.size W w' := fun W =>
    fcheck_ok (fun i => match i with | 0 => 1 | 1 => 4 | 2 => 4 | 3 => N | 4 => M | _ => 1) W (fun i hi => by
      obtain rfl | rfl | rfl | rfl | rfl | rfl : i = 0 ∨ i = 1 ∨ i = 2 ∨ i = 3 ∨ i = 4 ∨ i = 5 := by omega
      all_goals simp only [mxB]; omega)
  have HK := Lib.hid hk
  clear hk
  obtain ⟨w0, hw0⟩ : ∃ w0, w0 = w.alloc (.cells #[.int .i64 1, .int .i64 4, .int .i64 4, .int .i64 N, .int .i64 M, .int .i64 1] 29) := ⟨_, rfl⟩
  obtain ⟨A, hA⟩ : ∃ A, A = w.heap.size := ⟨_, rfl⟩
  have k0 : Still w w0 := by rw [hw0]; exact (still_refl w).alloc _
  have bA : Blk w0 A #[.int .i64 1, .int .i64 4, .int .i64 4, .int .i64 N, .int .i64 M, .int .i64 1] 29 := by rw [hw0, hA]; exact Blk.new _ _ _
  have c0 : w0.cell? ⟨A, 0, none⟩ = some (.int .i64 1) := bA.cell 0
  have c1 : w0.cell? ⟨A, 1, none⟩ = some (.int .i64 4) := bA.cell 1
  have c2 : w0.cell? ⟨A, 2, none⟩ = some (.int .i64 4) := bA.cell 2
  have c3 : w0.cell? ⟨A, 3, none⟩ = some (.int .i64 N) := bA.cell 3
  have c4 : w0.cell? ⟨A, 4, none⟩ = some (.int .i64 M) := bA.cell 4
  have c5 : w0.cell? ⟨A, 5, none⟩ = some (.int .i64 1) := bA.cell 5
  have HW0 := Lib.hid hw0
  have HA := Lib.hid hA
  have K0 := Lib.hid k0
  have BA := Lib.hid bA
  clear hw0 hA k0 bA
  obtain ⟨i0, hi, hz0, hz1, hz2⟩ := info_parts infoPS
  go_enter Try.func8, Try.ntmps8
  go_upto_region 1 with fail
  rw [← HW0.out, ← HA.out]
  go_wp2_with fail
  refine (HK.out _).mono ?_
  rintro e w1 ⟨rfl, k1⟩
  have k1' : Still w0 w1 := (kept_of_below k1).mono (fun y h1 h2 => absurd h2 (by omega))
  have bA1 := BA.out.still k1'
  have CA := Lib.hid bA1.cells
  clear c0 c1 c2 c3 c4 c5
  have c0 : w1.cell? ⟨A, 0, none⟩ = some (.int .i64 1) := bA1.cell 0
  have c1 : w1.cell? ⟨A, 1, none⟩ = some (.int .i64 4) := bA1.cell 1
  have c2 : w1.cell? ⟨A, 2, none⟩ = some (.int .i64 4) := bA1.cell 2
  have c3 : w1.cell? ⟨A, 3, none⟩ = some (.int .i64 N) := bA1.cell 3
  have c4 : w1.cell? ⟨A, 4, none⟩ = some (.int .i64 M) := bA1.cell 4
  have c5 : w1.cell? ⟨A, 5, none⟩ = some (.int .i64 1) := bA1.cell 5
  have BA1 := Lib.hid bA1
  have K1 := Lib.hid (K0.out.trans k1')
  clear k1 bA1 k1'
  go_upto_region 4 with fail
  refine wp_region_text ([4], [9]) [A] (by kernel_rfl) (by kernel_rfl) (cellsB_cons CA.out cellsB_nil) (by simp [segs, isEff, isLoad, askOps, asks, ptrEq, eqOrNe, isNil]; rfl) ?_
  (repeat ((first | (refine segs_nil ?_) | (refine segs_go (stay_drew) ?_ ?_; focus (simp [isLoad]; done)) | (refine segs_load (stay_drew) ?_ ?_; focus (intro h; first | exact ⟨A, _, rfl, by simp⟩ | (simp [Region.wanted, yielded, undef] at h; done))) | fail); go_wp2_with fail))
  refine (fgnew w1.drew).mono ?_
  rintro e w2 ⟨rfl, k2, b2⟩
  go_wp2_with fail
  have hAl : ∀ b, b ∈ [A] → b < w1.heap.size := fun b hb => by rw [List.mem_singleton] at hb; rw [hb]; exact BA1.out.lt
  have kd2 : Still w1 w2 := Kept.of_still ((still_refl w1).drewN 1) k2
  refine segs_go (stay_still kd2 hAl) (by simp [isLoad]) ?_
  go_wp2_with fail
  refine segs_go (stay_still kd2 hAl) (by simp [isLoad]) ?_
  go_wp2_with fail
  refine segs_go (stay_still (kd2.alloc _) hAl) (by simp [isLoad]) ?_
  go_wp2_with fail
  refine segs_nil ?_
  obtain ⟨f, hf⟩ : ∃ f, f = w2.heap.size := ⟨_, rfl⟩
  obtain ⟨g, hg⟩ : ∃ g, g = w1.heap.size := ⟨_, rfl⟩
  have b2' : Blk w2 g #[.slice none 0 0] 137 := by rw [hg]; exact b2
  rw [← hf]
  obtain ⟨w3, hw3⟩ : ∃ w3, w3 = w2.alloc (.cells #[.int .i64 1, .int .i64 4, .int .i64 4, .int .i64 N, .int .i64 M, .int .i64 1, .pointer none, .slice none 0 0, .pointer none, .pointer (some ⟨g, 0, none⟩), .bool false, .int .i64 0, .int .i64 0, .int .i64 0, .int .i64 0, .int .i64 0, .int .i64 0, .int .i64 0, .int .i64 0, .int .i64 0, .int .i64 0, .int .i64 0, .int .u64 0, .int .i64 0, .int .i64 0, .int .i64 0, .slice none 0 0] 86) := ⟨_, rfl⟩
  rw [← hg, ← hw3]
  have b3 : Blk w3 f #[.int .i64 1, .int .i64 4, .int .i64 4, .int .i64 N, .int .i64 M, .int .i64 1, .pointer none, .slice none 0 0, .pointer none, .pointer (some ⟨g, 0, none⟩), .bool false, .int .i64 0, .int .i64 0, .int .i64 0, .int .i64 0, .int .i64 0, .int .i64 0, .int .i64 0, .int .i64 0, .int .i64 0, .int .i64 0, .int .i64 0, .int .u64 0, .int .i64 0, .int .i64 0, .int .i64 0, .slice none 0 0] 86 := by rw [hw3, hf]; exact Blk.new _ _ _
  have k3 : Still w1 w3 := by rw [hw3]; exact kd2.alloc _
  have bg3 : Blk w3 g #[.slice none 0 0] 137 := by rw [hw3]; exact b2'.alloc _
  have hgf : g < f := by rw [hf]; exact b2'.lt
  have hAg : A < g := by rw [hg]; exact BA1.out.lt
  have K3 := Lib.hid (K1.out.trans k3)
  have HG := Lib.hid (show w.heap.size ≤ g by rw [hg]; exact K1.out.size)
  have BA3 := Lib.hid (BA1.out.still k3)
  clear kd2 k2 b2 b2' hw3 hf hg hAl k3 CA c0 c1 c2 c3 c4 c5
  have bA3 := BA3.out
  have c1 : w3.cell? ⟨A, 1, none⟩ = some (.int .i64 4) := bA3.cell 1
  have B3 := Lib.hid b3
  have BG3 := Lib.hid bg3
  clear b3 bg3 bA3
  go_wp2_with fail
  refine (fsnew 4 (by omega) (by omega) w3).mono ?_
  rintro e w4 ⟨⟨sb, rfl⟩, k4⟩
  have b4 := B3.out.still k4
  have bg4 := BG3.out.still k4
  have bA4 := BA3.out.still k4
  have p6 : w4.cell? ⟨f, 6, none⟩ = some (.pointer none) := b4.cell 6
  have f6 := b4.free 6
  obtain ⟨w5, hw5⟩ : ∃ w5, w5 = w4.setCell ⟨f, 6, none⟩ (.pointer (some ⟨sb, 0, none⟩)) := ⟨_, rfl⟩
  have k5 : Kept (fun y => y = f) w4 w5 := by rw [hw5]; exact Kept.setCell (S := fun y => y = f) (Kept.refl _ _) (fun _ => rfl) _
  have b5 : Blk w5 f #[.int .i64 1, .int .i64 4, .int .i64 4, .int .i64 N, .int .i64 M, .int .i64 1, .pointer (some ⟨sb, 0, none⟩), .slice none 0 0, .pointer none, .pointer (some ⟨g, 0, none⟩), .bool false, .int .i64 0, .int .i64 0, .int .i64 0, .int .i64 0, .int .i64 0, .int .i64 0, .int .i64 0, .int .i64 0, .int .i64 0, .int .i64 0, .int .i64 0, .int .u64 0, .int .i64 0, .int .i64 0, .int .i64 0, .slice none 0 0] 86 := by rw [hw5]; exact b4.set' rfl
  have bg5 := bg4.kept k5 (by omega)
  have bA5 := bA4.kept k5 (by omega)
  have K5 := Lib.hid ((((K3.out.trans k4).mono (T := fun y => w.heap.size ≤ y) (fun _ _ f => f.elim)).step k5 (fun i _ e => by have := HG.out; omega)))
  have HW5 := Lib.hid hw5
  clear hw5 k5 k4 b4 bg4 bA4 c1
  go_upto_region 6 with fail
  rw [← HW5.out]
  clear f6 p6
  have c3 : w5.cell? ⟨A, 3, none⟩ = some (.int .i64 N) := bA5.cell 3
  have B5 := Lib.hid b5
  have BG5 := Lib.hid bg5
  have BA5 := Lib.hid bA5
  clear b5 bg5 bA5
  go_wp2_with fail
  refine (pnew_f LS.zero w5 (LW_f.zero w5) N hN.1 hN.2).mono ?_
  rintro e w6 ⟨p, c, l, s6, rfl, P6, k6, n6, hp6, hc6, hl6, q6⟩
  have b6 := B5.out.still k6
  have bg6 := BG5.out.still k6
  have bA6 := BA5.out.still k6
  have f8 := b6.free 8
  have p8 : w6.cell? ⟨f, 8, none⟩ = some (.pointer none) := b6.cell 8
  have c0 : w6.cell? ⟨A, 0, none⟩ = some (.int .i64 1) := bA6.cell 0
  have hf5 := B5.out.lt
  obtain ⟨w7, hw7⟩ : ∃ w7, w7 = w6.setCell ⟨f, 8, none⟩ (.pointer (some ⟨p, 0, none⟩)) := ⟨_, rfl⟩
  have k7 : Kept (fun y => y = f) w6 w7 := by rw [hw7]; exact Kept.setCell (S := fun y => y = f) (Kept.refl _ _) (fun _ => rfl) _
  have b7 : Blk w7 f #[.int .i64 1, .int .i64 4, .int .i64 4, .int .i64 N, .int .i64 M, .int .i64 1, .pointer (some ⟨sb, 0, none⟩), .slice none 0 0, .pointer (some ⟨p, 0, none⟩), .pointer (some ⟨g, 0, none⟩), .bool false, .int .i64 0, .int .i64 0, .int .i64 0, .int .i64 0, .int .i64 0, .int .i64 0, .int .i64 0, .int .i64 0, .int .i64 0, .int .i64 0, .int .i64 0, .int .u64 0, .int .i64 0, .int .i64 0, .int .i64 0, .slice none 0 0] 86 := by rw [hw7]; exact b6.set' rfl
  have bg7 := bg6.kept k7 (by omega)
  have bA7 := bA6.kept k7 (by omega)
  have hsf : s6.kd f = 0 := by rw [n6 f hf5]; rfl
  have P7 : PW_f s6 w7 p c l N [] 0 false := P6.kept k7 (by
    rintro y (h9 | h9 | h9) e
    · exact h9 (by have h8 : y = f := e; rw [h8]; exact hsf)
    · have h8 : y = f := e; omega
    · have h8 : y = f := e; omega)
  have K7 := Lib.hid ((K5.out.of_still k6).step k7 (fun i _ e => by have := HG.out; omega))
  have HW7 := Lib.hid hw7
  clear hw7 k7 k6 b6 bg6 bA6 c3
  go_upto_region 7 with fail
  rw [← HW7.out]
  clear f8 p8 c0
  have c0 : w7.cell? ⟨A, 0, none⟩ = some (.int .i64 1) := bA7.cell 0
  have B7 := Lib.hid b7
  have BG7 := Lib.hid bg7
  have BA7 := Lib.hid bA7
  have P7 := Lib.hid P7
  clear b7 bg7 bA7
  go_wp2_with fail
  go_loopw [6, 7, 37] (fun _ _ i wr => (i = .int .i64 0 ∧ wr = w7) ∨ (i = .int .i64 1 ∧ ∃ sh, Blk wr f (floorC (cfP N M) sb sh p g 0 0 0 0) 86 ∧ Blk wr g #[.slice none 0 0] 137 ∧ PW_f s6 wr p c l N [] 0 false ∧ Kept (fun y => w.heap.size ≤ y) w wr)) (fun _ _ i _ => 1 - (intOf i).toNat)
  case atStart => exact .inl ⟨rfl, rfl⟩
  case round =>
    rcases hrel with ⟨rfl, rfl⟩ | ⟨rfl, sh, bf, bg, P, k⟩
    · have c2 : wr.cell? ⟨A, 2, none⟩ = some (.int .i64 4) := BA7.out.cell 2
      go_wp2_with fail
      refine (eshnew 4 (by omega) (by omega) wr).mono ?_
      rintro e w8 ⟨⟨sd, rfl⟩, k8⟩
      have b8 := B7.out.still k8
      have bg8 := BG7.out.still k8
      have P8 := P7.out.still k8
      have p7 : w8.cell? ⟨f, 7, none⟩ = some (.slice none 0 0) := b8.cell 7
      have hoa : (w8.alloc (.cells #[.pointer (some ⟨sd, 0, none⟩)] 91)).ownsRow 0 91 1 (.slice none 0 0) 0 [] := World.ownsRow_nil _ _ _ _
      have B8 := Lib.hid b8
      have BG8 := Lib.hid bg8
      have P8 := Lib.hid P8
      have K8 := Lib.hid (K7.out.of_still k8)
      clear b8 bg8 k8 c0
      go_upto_region 10 with fail
      go_wp2_with (first | (at_builtin; refine wpList_append _ rfl _ _ 78 rfl 0 91 i0 (.pointer none) 1 8 Try.underlying78 hi hz0 hz1 hz2 rfl (by decide) _ _ _ rfl (hoa) ⟨w8.heap.size, 0, none⟩ 1 1 [.pointer (some ⟨sd, 0, none⟩)] rfl rfl (by intro j u hj; match j, hj with | 0, hj => simp at hj; subst hj; first | (simp [Addr.add]; done) | exact (Blk.newAt _ _ _ (by simp)).cell 0) (by intro u hu; simp at hu; subst hu; rfl) (by unfold maxLen; omega) (by omega) (by first | omega | (simp; omega) | simp) ?_) | fail)
      intro v9 w9 hap
      have k9 : Still w8 w9 := ((still_refl w8).alloc _).grown hap.grown (fun k e _ => by cases e)
      obtain ⟨ow, ha, hv9⟩ : ∃ ad cp, v9 = .slice ad 1 cp := owns_slice hap.owns
      subst hv9
      clear hap
      have b9 := B8.out.still k9
      have bg9 := BG8.out.still k9
      have P9 := P8.out.still k9
      have q7 : w9.cell? ⟨f, 7, none⟩ = some (.slice none 0 0) := b9.cell 7
      have f7 := b9.free 7
      obtain ⟨wx, hwx⟩ : ∃ wx, wx = w9.setCell ⟨f, 7, none⟩ (.slice ow 1 ha) := ⟨_, rfl⟩
      have kx : Kept (fun y => y = f) w9 wx := by rw [hwx]; exact Kept.setCell (S := fun y => y = f) (Kept.refl _ _) (fun _ => rfl) _
      have bx : Blk wx f (floorC (cfP N M) sb (.slice ow 1 ha) p g 0 0 0 0) 86 := by rw [hwx]; exact b9.set' rfl
      have bgx := bg9.kept kx (by omega)
      have hsf : s6.kd f = 0 := by rw [n6 f hf5]; rfl
      have Px : PW_f s6 wx p c l N [] 0 false := P9.kept kx (by
        rintro y (h9 | h9 | h9) e
        · exact h9 (by have h8 : y = f := e; rw [h8]; exact hsf)
        · have h8 : y = f := e; omega
        · have h8 : y = f := e; omega)
      have KX := Lib.hid ((K8.out.of_still k9).step kx (fun i _ e => by have := HG.out; omega))
      have HWX := Lib.hid hwx
      have BX := Lib.hid bx
      have BGX := Lib.hid bgx
      have PX := Lib.hid Px
      clear b9 bg9 P9 hwx bx bgx Px kx k9 p7
      go_wp2_with fail
      rw [← HWX.out]
      go_roundw
      case rel => exact .inr ⟨rfl, _, BX.out, BGX.out, PX.out, KX.out⟩
      case measure => simp [intOf]
    · go_wp2_with fail
      go_ret2
      have := HG.out
      exact ⟨f, p, c, l, g, sb, sh, s6, rfl, ⟨0, 0, 0, bf⟩, bg, P, fun y hy => (n6 y (by have := K5.out.size; omega)).trans rfl, (n6 f hf5).trans rfl, (n6 g (by omega)).trans rfl, by omega, by omega, by have := K5.out.size; omega, by have := K5.out.size; omega, k.mono (fun y h1 h2 => absurd h2 (by omega))⟩
end Go.Proofs.Ytbikganlloopbaa
