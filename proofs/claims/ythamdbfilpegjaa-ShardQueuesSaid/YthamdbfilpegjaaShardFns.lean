/-
  What stands here: what the functions of a shard do, over its wheel. Under no condition but that the world holds it.
-/
import Derived.Test.YthamdbfilpegjaaShardNew
namespace Go.Proofs.Ythamdbfilpegjaa
set_option linter.unusedVariables false
set_option linter.unusedSimpArgs false
open Go.RowKit Go.Proofs
theorem field2 (a b c : Option Addr) (W : World) : (Instr.field 62 (.agg #[.pointer a, .pointer b, .pointer c]) 2).run Try.prog W = .ok (.pointer c) W := by kernel_rfl
/-- a shard in a law -/
structure SX (ls : LS) (v : Nat) (lv : Nat → Nat) (sl : Nat → Nat → Nat) (bd : Nat) (S : WSt) (s r l : Nat) (w W : World) : Prop where
  x : WX_t ls v lv sl bd S w W
  sh : ShB s r l v W
  ks : ls.kd s = 0
  hs : w.heap.size ≤ s
section
variable {ls ls' : LS} {v : Nat} {lv : Nat → Nat} {sl : Nat → Nat → Nat} {bd : Nat} {S S' : WSt} {s r l : Nat} {w W W' : World}
theorem SX.turn (h : SX ls v lv sl bd S s r l w W) (x : WX_t ls' v lv sl bd S' w W') (kd : ∀ y, y < W.heap.size → ls'.kd y = ls.kd y) (k : Kept (fun y => ls.kd y ≠ 0) W W') : SX ls' v lv sl bd S' s r l w W' :=
  ⟨x, Blk.kept h.sh k (fun h9 => h9 h.ks), (kd _ (Blk.lt h.sh)).trans h.ks, h.hs⟩
theorem SX.still (h : SX ls v lv sl bd S s r l w W) (k : Still W W') : SX ls v lv sl bd S s r l w W' := ⟨h.x.still k, Blk.still h.sh k, h.ks, h.hs⟩
theorem SX.below (h : SX ls v lv sl bd S s r l w W) (k : Below W.heap.size W W') : SX ls v lv sl bd S s r l w W' :=
  h.still ⟨k.os, k.tape, k.output, k.size, fun i hi _ => k.block i hi⟩
end
set_option maxRecDepth 100000 in
theorem shnow {ls : LS} {v : Nat} {lv : Nat → Nat} {sl : Nat → Nat → Nat} {bd : Nat} {S : WSt} {s r l : Nat} {w W : World} (h : SX ls v lv sl bd S s r l w W) : Calls Try.prog 8 #[.pointer (some ⟨s, 0, none⟩)] W fun e w' => e = .returned (.int .u64 S.now) ∧ Still W w' := by
  have H := Lib.hid h
  clear h
  have hf2 := field2 (some ⟨r, 0, none⟩) (some ⟨l, 0, none⟩) (some ⟨v, 0, none⟩)
  go_enter Try.func8, Try.ntmps8
  go_wp2_with fail
  refine (parts_any s r l v W H.out.sh).mono ?_
  rintro e w1 ⟨rfl, k1⟩
  go_wp2_with fail
  refine (wnow_t w1 (H.out.still k1).x.wb).mono ?_
  rintro e w2 ⟨rfl, rfl⟩
  go_wp2_with fail
  go_ret
  exact ⟨rfl, k1⟩
set_option maxRecDepth 100000 in
theorem sharmed {ls : LS} {v : Nat} {lv : Nat → Nat} {sl : Nat → Nat → Nat} {bd : Nat} {S : WSt} {s r l : Nat} {w W : World} (h : SX ls v lv sl bd S s r l w W) : Calls Try.prog 10 #[.pointer (some ⟨s, 0, none⟩)] W fun e w' => e = .returned (.int .i64 (nAll S.pl : Nat)) ∧ Still W w' := by
  have H := Lib.hid h
  clear h
  have hf2 := field2 (some ⟨r, 0, none⟩) (some ⟨l, 0, none⟩) (some ⟨v, 0, none⟩)
  go_enter Try.func10, Try.ntmps10
  go_wp2_with fail
  refine (parts_any s r l v W H.out.sh).mono ?_
  rintro e w1 ⟨rfl, k1⟩
  go_wp2_with fail
  refine (wlen_t w1 (H.out.still k1).x.wb).mono ?_
  rintro e w2 ⟨rfl, rfl⟩
  go_wp2_with fail
  go_ret
  exact ⟨rfl, k1⟩
/-- a task fits its types -/
structure TaskOk (z : TaskV) : Prop where
  dl : 0 ≤ z.dl ∧ z.dl < 18446744073709551616
set_option maxRecDepth 100000 in
theorem arm_inv {ls : LS} {v : Nat} {lv : Nat → Nat} {sl : Nat → Nat → Nat} {bd : Nat} {S : WSt} {s r l : Nat} {w W : World} (h : SX ls v lv sl bd S s r l w W) (z : TaskV) (hz : z.slot < 0) : Calls Try.prog 7 #[.pointer (some ⟨s, 0, none⟩), .agg #[.int .u64 z.id, .int .i64 z.slot, .int .u64 z.gen, .int .u64 z.dl, .int .u64 z.per]] W fun e w' => e = .returned (.tuple #[.int .u64 0, .int .i64 1]) ∧ Still W w' := by
  obtain ⟨W0, hW0⟩ : ∃ W0, W0 = W.alloc (.cells #[.int .u64 z.id, .int .i64 z.slot, .int .u64 z.gen, .int .u64 z.dl, .int .u64 z.per] 31) := ⟨_, rfl⟩
  have k0 : Still W W0 := by rw [hW0]; exact (still_refl W).alloc _
  have bT : Blk W0 W.heap.size #[.int .u64 z.id, .int .i64 z.slot, .int .u64 z.gen, .int .u64 z.dl, .int .u64 z.per] 31 := by rw [hW0]; exact Blk.new _ _ _
  have H := Lib.hid (h.still k0)
  have HW0 := Lib.hid hW0
  clear h hW0
  have hf2 := field2 (some ⟨r, 0, none⟩) (some ⟨l, 0, none⟩) (some ⟨v, 0, none⟩)
  go_enter Try.func7, Try.ntmps7
  go_wp2_with fail
  rw [← HW0.out]
  refine (parts_any s r l v W0 H.out.sh).mono ?_
  rintro e w1 ⟨rfl, k1⟩
  have bT1 := bT.still k1
  have c1 : w1.cell? ⟨W.heap.size, 1, none⟩ = some (.int .i64 z.slot) := bT1.cell 1
  clear HW0
  go_wp2_with fail
  go_ret2
  exact ⟨rfl, k0.trans k1⟩
set_option maxHeartbeats 1000000 in
set_option maxRecDepth 100000 in
theorem arm_over {ls : LS} {v : Nat} {lv : Nat → Nat} {sl : Nat → Nat → Nat} {bd : Nat} {S : WSt} {s r l : Nat} {w W : World} (h : SX ls v lv sl bd S s r l w W) (z : TaskV) (hz : 0 ≤ z.slot) (hd : TaskOk z) (ho : S.now = 18446744073709551615) : Calls Try.prog 7 #[.pointer (some ⟨s, 0, none⟩), .agg #[.int .u64 z.id, .int .i64 z.slot, .int .u64 z.gen, .int .u64 z.dl, .int .u64 z.per]] W fun e w' => e = .returned (.tuple #[.int .u64 0, .int .i64 9]) ∧ Still W w' := by
  obtain ⟨W0, hW0⟩ : ∃ W0, W0 = W.alloc (.cells #[.int .u64 z.id, .int .i64 z.slot, .int .u64 z.gen, .int .u64 z.dl, .int .u64 z.per] 31) := ⟨_, rfl⟩
  have k0 : Still W W0 := by rw [hW0]; exact (still_refl W).alloc _
  have bT : Blk W0 W.heap.size #[.int .u64 z.id, .int .i64 z.slot, .int .u64 z.gen, .int .u64 z.dl, .int .u64 z.per] 31 := by rw [hW0]; exact Blk.new _ _ _
  have H := Lib.hid (h.still k0)
  have HW0 := Lib.hid hW0
  clear h hW0
  have hl : ∀ w, Calls Try.prog 25 #[.int .u64 z.dl, .int .u64 18446744073709551615] w fun e w' => e = .returned (.tuple #[.int .u64 0, .int .i64 9]) ∧ Still w w' := fun w => by
    have h9 := later_any z.dl 18446744073709551615 hd.dl (by omega) w
    rwa [if_pos rfl] at h9
  have HL := Lib.hid hl
  have HO := Lib.hid ho
  clear hl ho
  have hf2 := field2 (some ⟨r, 0, none⟩) (some ⟨l, 0, none⟩) (some ⟨v, 0, none⟩)
  go_enter Try.func7, Try.ntmps7
  go_wp2_with fail
  rw [← HW0.out]
  refine (parts_any s r l v W0 H.out.sh).mono ?_
  rintro e w1 ⟨rfl, k1⟩
  have bT1 := bT.still k1
  have c1 : w1.cell? ⟨W.heap.size, 1, none⟩ = some (.int .i64 z.slot) := bT1.cell 1
  have c3 : w1.cell? ⟨W.heap.size, 3, none⟩ = some (.int .u64 z.dl) := bT1.cell 3
  have H1 := Lib.hid (H.out.still k1)
  have CB := Lib.hid bT1.cells
  clear HW0 bT
  generalize hB : W.heap.size = B at *
  go_upto_region 6 with fail
  refine wp_region_text ([4], [9]) [B] (by kernel_rfl) (by kernel_rfl) (cellsB_cons CB.out cellsB_nil) (by simp [segs, isEff, isLoad, askOps, asks, ptrEq, eqOrNe, isNil]; rfl) ?_
  (repeat ((first | (refine segs_nil ?_) | (refine segs_go (stay_drew) ?_ ?_; focus (simp [isLoad]; done)) | (refine segs_load (stay_drew) ?_ ?_; focus (intro h; first | exact ⟨B, _, rfl, by simp⟩ | (simp [Region.wanted, yielded, undef] at h; done))) | fail); go_wp2_with fail))
  refine (wnow_t _ (H1.out.still ((still_refl w1).drewN 1)).x.wb).mono ?_
  rintro e w2 ⟨rfl, rfl⟩
  rw [HO.out]
  go_wp2_with fail
  (repeat ((first | (refine segs_nil ?_) | (refine segs_go (stay_drew) ?_ ?_; focus (simp [isLoad]; done)) | (refine segs_load (stay_drew) ?_ ?_; focus (intro h; first | exact ⟨B, _, rfl, by simp⟩ | (simp [Region.wanted, yielded, undef] at h; done))) | fail); go_wp2_with fail))
  refine (HL.out _).mono ?_
  rintro e w3 ⟨rfl, k3⟩
  have HS := Lib.hid (StayB.stil (ds := [B]) stay_drew (cellsB_cons CB.out cellsB_nil) k3)
  go_wp2_with fail
  (repeat ((first | (refine segs_nil ?_) | (refine segs_go (HS.out) ?_ ?_; focus (simp [isLoad]; done)) | (refine segs_load (HS.out) ?_ ?_; focus (intro h; first | exact ⟨B, _, rfl, by simp⟩ | (simp [Region.wanted, yielded, undef] at h; done))) | fail); go_wp2_with fail))
  go_ret2
  exact ⟨rfl, (k0.trans k1).trans (((Kept.refl _ w1).drewN 1).trans k3)⟩
set_option maxRecDepth 100000 in
set_option maxHeartbeats 1000000 in
theorem arm_ok {ls : LS} {v : Nat} {lv : Nat → Nat} {sl : Nat → Nat → Nat} {bd : Nat} {S : WSt} {s r l : Nat} {w W : World} (h : SX ls v lv sl bd S s r l w W) (z : TaskV) (hz : 0 ≤ z.slot) (hd : TaskOk z) (ho : S.now < 18446744073709551615) (hbig : nAll S.pl < 80000) : Calls Try.prog 7 #[.pointer (some ⟨s, 0, none⟩), .agg #[.int .u64 z.id, .int .i64 z.slot, .int .u64 z.gen, .int .u64 z.dl, .int .u64 z.per]] W fun e w' => ∃ (d : Nat) (en : Nat) (ls' : LS) (S' : WSt), d = max z.dl.toNat (S.now + 1) ∧ e = .returned (.tuple #[.int .u64 (d : Int), .int .i64 0]) ∧ SX ls' v lv sl bd S' s r l w w' ∧ XIns ls ls' S S' en d (vcell_t { z with dl := (d : Int) }) W w' := by
  obtain ⟨W0, hW0⟩ : ∃ W0, W0 = W.alloc (.cells #[.int .u64 z.id, .int .i64 z.slot, .int .u64 z.gen, .int .u64 z.dl, .int .u64 z.per] 31) := ⟨_, rfl⟩
  have k0 : Still W W0 := by rw [hW0]; exact (still_refl W).alloc _
  have bT : Blk W0 W.heap.size #[.int .u64 z.id, .int .i64 z.slot, .int .u64 z.gen, .int .u64 z.dl, .int .u64 z.per] 31 := by rw [hW0]; exact Blk.new _ _ _
  have kB : ls.kd W.heap.size = 0 := h.x.fr (Nat.le_refl _)
  have hwW : w.heap.size ≤ W.heap.size := h.x.bel.size
  have hsB : s ≠ W.heap.size := fun e9 => by have := Blk.lt h.sh; omega
  have H := Lib.hid (h.still k0)
  have HW0 := Lib.hid hW0
  clear hW0
  obtain ⟨d, hdd⟩ : ∃ d, d = max z.dl.toNat (S.now + 1) := ⟨_, rfl⟩
  have hdn : S.now < d := by omega
  have hd64 : d < 18446744073709551616 := by have := hd.dl; omega
  have hl : ∀ w, Calls Try.prog 25 #[.int .u64 z.dl, .int .u64 (S.now : Int)] w fun e w' => e = .returned (.tuple #[.int .u64 (d : Int), .int .i64 0]) ∧ Still w w' := fun w => by
    have h9 := later_any z.dl S.now hd.dl (by omega) w
    rw [if_neg (by omega)] at h9
    have he : (if z.dl ≤ (S.now : Int) + 1 then (S.now : Int) + 1 else z.dl) = (d : Int) := by
      have := hd.dl
      split <;> omega
    rwa [he] at h9
  have HL := Lib.hid hl
  have HDD := Lib.hid hdd
  clear hl hdd h
  have hf2 := field2 (some ⟨r, 0, none⟩) (some ⟨l, 0, none⟩) (some ⟨v, 0, none⟩)
  go_enter Try.func7, Try.ntmps7
  go_wp2_with fail
  rw [← HW0.out]
  refine (parts_any s r l v W0 H.out.sh).mono ?_
  rintro e w1 ⟨rfl, k1⟩
  have bT1 := bT.still k1
  have c1 : w1.cell? ⟨W.heap.size, 1, none⟩ = some (.int .i64 z.slot) := bT1.cell 1
  have c3 : w1.cell? ⟨W.heap.size, 3, none⟩ = some (.int .u64 z.dl) := bT1.cell 3
  have H1 := Lib.hid (H.out.still k1)
  have CB := Lib.hid bT1.cells
  have K01 := Lib.hid (k0.trans k1)
  clear HW0 bT k0 k1
  generalize hB : W.heap.size = B at *
  go_upto_region 6 with fail
  refine wp_region_text ([4], [9]) [B] (by kernel_rfl) (by kernel_rfl) (cellsB_cons CB.out cellsB_nil) (by simp [segs, isEff, isLoad, askOps, asks, ptrEq, eqOrNe, isNil]; rfl) ?_
  (repeat ((first | (refine segs_nil ?_) | (refine segs_go (stay_drew) ?_ ?_; focus (simp [isLoad]; done)) | (refine segs_load (stay_drew) ?_ ?_; focus (intro h; first | exact ⟨B, _, rfl, by simp⟩ | (simp [Region.wanted, yielded, undef] at h; done))) | fail); go_wp2_with fail))
  refine (wnow_t _ (H1.out.still ((still_refl w1).drewN 1)).x.wb).mono ?_
  rintro e w2 ⟨rfl, rfl⟩
  go_wp2_with fail
  (repeat ((first | (refine segs_nil ?_) | (refine segs_go (stay_drew) ?_ ?_; focus (simp [isLoad]; done)) | (refine segs_load (stay_drew) ?_ ?_; focus (intro h; first | exact ⟨B, _, rfl, by simp⟩ | (simp [Region.wanted, yielded, undef] at h; done))) | fail); go_wp2_with fail))
  refine (HL.out _).mono ?_
  rintro e w3 ⟨rfl, k3⟩
  have HS := Lib.hid (StayB.stil (ds := [B]) stay_drew (cellsB_cons CB.out cellsB_nil) k3)
  have k3' : Still w1 w3 := ((Kept.refl _ w1).drewN 1).trans k3
  have bT3 := bT1.still k3'
  have f3 := bT3.free 3
  have g3 : w3.cell? ⟨B, 3, none⟩ = some (.int .u64 z.dl) := bT3.cell 3
  obtain ⟨w4, hw4⟩ : ∃ w4, w4 = w3.setCell ⟨B, 3, none⟩ (.int .u64 (d : Int)) := ⟨_, rfl⟩
  have HW4 := Lib.hid hw4
  have bT4 : Blk w4 B #[.int .u64 z.id, .int .i64 z.slot, .int .u64 z.gen, .int .u64 (d : Int), .int .u64 z.per] 31 := by rw [hw4]; exact Blk.set' bT3 rfl
  have k34 : Kept (fun y => y = B) w3 w4 := by rw [hw4]; exact Kept.setCell (S := fun y => y = B) (Kept.refl _ _) (fun _ => rfl) _
  go_wp2_with fail
  (repeat ((first | (refine segs_nil ?_) | (refine segs_go (HS.out) ?_ ?_; focus (simp [isLoad]; done)) | fail); go_upto_region 10 with fail))
  rw [← HW4.out]
  have d0 : w4.cell? ⟨B, 0, none⟩ = some (.int .u64 z.id) := bT4.cell 0
  have d1 : w4.cell? ⟨B, 1, none⟩ = some (.int .i64 z.slot) := bT4.cell 1
  have d2 : w4.cell? ⟨B, 2, none⟩ = some (.int .u64 z.gen) := bT4.cell 2
  have d3 : w4.cell? ⟨B, 3, none⟩ = some (.int .u64 (d : Int)) := bT4.cell 3
  have d4 : w4.cell? ⟨B, 4, none⟩ = some (.int .u64 z.per) := bT4.cell 4
  clear hw4
  go_wp2_with fail
  have k14 : Kept (fun y => y = B) w1 w4 := (lstill_kept k3').step k34 (fun _ _ h9 => h9)
  have h4 : SX ls v lv sl bd S s r l w w4 := ⟨H1.out.x.keep k14 (fun y hy => by rw [hy]; exact ⟨kB, hwW⟩), Blk.kept H1.out.sh k14 hsB, H1.out.ks, H1.out.hs⟩
  have kW4 : Still W w4 := K01.out.step k14 (fun y hy h9 => by rw [h9, ← hB] at hy; exact absurd hy (Nat.lt_irrefl _))
  refine (xins_t h4.x hbig d hdn hd64 { z with dl := (d : Int) }).mono ?_
  rintro e w5 ⟨rfl, ls5, S5, x5, i5⟩
  have hfin : SX ls5 v lv sl bd S5 s r l w w5 := h4.turn x5 i5.kd i5.kept
  have hfin2 : XIns ls ls5 S S5 (w4.heap.size + 1) d (vcell_t { z with dl := (d : Int) }) W w5 := ⟨i5.now, i5.pl, i5.due, i5.dl, i5.val, fun y hy => i5.kd y (Nat.lt_of_lt_of_le hy kW4.size), i5.ke, i5.new, i5.cnt, i5.st, i5.no, (lstill_kept kW4).step i5.kept (fun _ _ h9 => h9)⟩
  have HF := Lib.hid (And.intro hfin hfin2)
  clear hfin hfin2 x5 i5 h4 k14 kW4
  go_wp2_with fail
  go_ret2
  exact ⟨d, _, ls5, S5, HDD.out, rfl, HF.out.1, HF.out.2⟩
end Go.Proofs.Ythamdbfilpegjaa
