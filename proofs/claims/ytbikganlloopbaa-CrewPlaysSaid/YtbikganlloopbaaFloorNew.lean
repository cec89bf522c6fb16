/-
  What stands here: a new shard turns nothing that was there. Under no condition.
-/
import Derived.Test.YtbikganlloopbaaCell
import Derived.Test.YtbikganlloopbaaText
import Derived.Deep.RegionWith
import Derived.Deep.CutRange
import Derived.Deep.CutBlock
namespace Go.Proofs.Ytbikganlloopbaa
set_option linter.unusedVariables false
set_option linter.unusedSimpArgs false
open Go.RowKit Go.Proofs
theorem made_at {z : Array Value} {m n j i : Nat} (hm : z.size = m) (hi : i < m) (h : j < n) : (madeCells z (n * m))[j * m + i]? = z[i]? := by
  have hlt : j * m + i < n * m := by
    have : (j + 1) * m ≤ n * m := Nat.mul_le_mul_right m h
    rw [Nat.add_mul, Nat.one_mul] at this
    omega
  have h1 : i < z.size := by omega
  simp only [madeCells]
  rw [Array.getElem?_map, Array.getElem?_range, if_pos hlt, Option.map_some, Array.getElem?_eq_getElem h1]
  have h2 : (j * m + i) % z.size = i := by rw [hm, Nat.mul_add_mod_self_right, Nat.mod_eq_of_lt hi]
  rw [h2, getElem!_pos z i h1]
theorem blk_of_made {w : World} {base : Nat} {e : TypeId} {n m : Nat} {g : Nat} {zc : Array Value} (h : w.ownsRow base e m (.slice (some ⟨g, 0, none⟩) n n) n (madeCells zc (n * m)).toList) : Blk w g (madeCells zc (n * m)) e := by
  obtain ⟨hl, ⟨h0, _⟩ | ⟨g', cap, cur, hv, _, hg, _, _, hs, ht⟩⟩ := h
  · cases h0
  · simp only [Value.slice.injEq, Option.some.injEq, Addr.mk.injEq, and_true, true_and] at hv
    obtain ⟨rfl, rfl⟩ := hv
    have : cur = madeCells zc (n * m) := by
      apply Array.ext'
      rw [← ht, List.take_of_length_le (by simp [hs])]
    unfold Blk; rw [hg, this]
theorem infoSlot_t : (Try.prog.info? 183).map (fun i => (i.zero, i.size, i.bytes)) = some (some (.agg #[.int .i64 0, .int .i64 0, .int .i64 0, .int .i64 0, .int .u64 0, .int .i64 0, .int .u64 0, .int .u64 0, .int .u64 0]), 9, 72) := by kernel_rfl
set_option maxHeartbeats 1000000 in
set_option maxRecDepth 100000 in
theorem rnew_no_t (n : Int) (hn : n < 1 ∨ 64 < n) (w : World) :
    Calls Try.prog 52 #[.int .i64 n] w fun e w' => e = .returned (.tuple #[.pointer none, .int .i64 4]) ∧ Still w w' := by
  rcases hn with h | h
  · go_enter Try.func52, Try.ntmps52
    go_wp2_with fail
    go_ret2
    exact ⟨rfl, still_refl _⟩
  · have h' : ¬ n < 1 := by omega
    go_enter Try.func52, Try.ntmps52
    go_wp2_with fail
    go_ret2
    exact ⟨rfl, still_refl _⟩
set_option maxHeartbeats 1000000 in
set_option maxRecDepth 100000 in
theorem rnew_t (n : Nat) (h1 : 1 ≤ n) (h64 : n ≤ 64) (w : World) :
    Calls Try.prog 52 #[.int .i64 n] w fun e w' => (∃ b, e = .returned (.tuple #[.pointer (some ⟨b, 0, none⟩), .int .i64 0])) ∧ Still w w' := by
  obtain ⟨i0, hi, hz0, hz1, hz2⟩ := info_parts infoSlot_t
  go_enter Try.func52, Try.ntmps52
  go_wp2_with (first | (at_make; refine wpList_make_full _ rfl _ _ 179 rfl w.heap.size 183 i0 (.agg #[.int .i64 0, .int .i64 0, .int .i64 0, .int .i64 0, .int .u64 0, .int .i64 0, .int .u64 0, .int .u64 0, .int .u64 0]) 9 Try.underlying179 hi hz0 hz1 _ _ _ _ n rfl rfl rfl rfl (by rw [hz2]; omega) (by unfold maxLen; omega) (Nat.le_refl _) ?_) | fail)
  intro w1 how hgr
  have bS := blk_of_made how
  have k1 : Still w w1 := (Kept.refl (fun _ => False) w).grown hgr (fun k e _ => by cases e)
  have hz : w.heap.size < w1.heap.size := bS.lt
  have hsl : ∀ j, j < n → ∃ z, (madeCells #[.int .i64 0, .int .i64 0, .int .i64 0, .int .i64 0, .int .u64 0, .int .i64 0, .int .u64 0, .int .u64 0, .int .u64 0] (n * 9))[j * 9]? = some (.int .i64 z) := fun j hj => ⟨0, by have := made_at (z := #[.int .i64 0, .int .i64 0, .int .i64 0, .int .i64 0, .int .u64 0, .int .i64 0, .int .u64 0, .int .u64 0, .int .u64 0]) (m := 9) (i := 0) rfl (by omega) hj; rw [Nat.add_zero] at this; exact this⟩
  have HSL := Lib.hid hsl
  clear how hgr hsl
  go_wp2_with fail
  have bB := Blk.new w1 #[.slice (some ⟨w.heap.size, 0, none⟩) n n, .int .i64 0, .int .i64 0, .int .i64 0, .int .i64 0, .int .i64 0] 181
  have bS2 := bS.alloc (.cells #[.slice (some ⟨w.heap.size, 0, none⟩) n n, .int .i64 0, .int .i64 0, .int .i64 0, .int .i64 0, .int .i64 0] 181)
  have hk2 : Below w.heap.size w (w1.alloc (.cells #[.slice (some ⟨w.heap.size, 0, none⟩) n n, .int .i64 0, .int .i64 0, .int .i64 0, .int .i64 0, .int .i64 0] 181)) := below_still (Below.refl _ w) (k1.alloc _) (Nat.le_refl _)
  go_loopw [5, 21] (fun _ i wr => ∃ k : Nat, k ≤ n ∧ i = .int .i64 k ∧ Blk wr w1.heap.size #[.slice (some ⟨w.heap.size, 0, none⟩) n n, .int .i64 0, .int .i64 0, .int .i64 0, .int .i64 0, .int .i64 0] 181 ∧
    (∃ c, Blk wr w.heap.size c 183 ∧ ∀ j, j < n → ∃ z, c[j * 9]? = some (.int .i64 z)) ∧ Below w.heap.size w wr) (fun _ i _ => n - (intOf i).toNat)
  case atStart => exact ⟨0, by omega, rfl, bB, ⟨_, bS2, HSL.out⟩, hk2⟩
  case round =>
    obtain ⟨k, hk, rfl, bR, ⟨c, bC, hs⟩, hbel⟩ := hrel
    have HS := Lib.hid hs
    clear hs
    have c0 : wr.cell? ⟨w1.heap.size, 0, none⟩ = some (.slice (some ⟨w.heap.size, 0, none⟩) n n) := bR.cell 0
    by_cases hlt : k < n
    · obtain ⟨z, hz9⟩ := HS.out k hlt
      go_wp2_with fail
      refine (store_any w.heap.size (k * 9) c z (2 * (k : Int)) _ _ bC hz9).mono ?_
      rintro e w2 ⟨rfl, k2, bC2⟩
      have hR2 := Lib.hid (bR.only k2 (by omega))
      have hb2 := Lib.hid (below_only hbel k2 (Nat.le_refl _) (Nat.le_refl _))
      have HS2 : Hid (∀ j, j < n → ∃ z, (c.setIfInBounds (k * 9) (.int .i64 (2 * (k : Int))))[j * 9]? = some (.int .i64 z)) := Lib.hid (fun j hj => by
        by_cases e : j = k
        · subst e
          have := (Array.getElem?_eq_some_iff.1 hz9).1
          exact ⟨_, Array.getElem?_setIfInBounds_self_of_lt this⟩
        · obtain ⟨z', hz'⟩ := HS.out j hj
          exact ⟨z', by rw [Array.getElem?_setIfInBounds_ne (by omega)]; exact hz'⟩)
      have HC2 := Lib.hid bC2
      clear bC2 k2 hz9
      go_wp2_with fail
      go_roundw
      case rel => exact ⟨k + 1, by omega, by go_num, hR2.out, ⟨_, HC2.out, HS2.out⟩, hb2.out⟩
      case measure => simp [intOf]; omega
    · obtain rfl : k = n := by omega
      go_wp2_with fail
      go_ret2
      exact ⟨⟨_, rfl⟩, ⟨hbel.os, hbel.tape, hbel.output, hbel.size, fun k hk _ => hbel.block k hk⟩⟩
theorem lknew (w : World) : Calls Try.prog 53 #[] w fun e w' => (∃ b, e = .returned (.pointer (some ⟨b, 0, none⟩))) ∧ Still w w' := by
  go_enter Try.func53, Try.ntmps53
  go_wp2_with fail
  go_ret
  exact ⟨⟨_, rfl⟩, by (repeat (first | (with_reducible exact Kept.refl _ _) | (with_reducible refine Kept.drewN ?_ _) | (with_reducible refine Kept.drew ?_) | (with_reducible refine Kept.put ?_ _ _) | (with_reducible refine Kept.alloc ?_ _)))⟩

theorem elnew (w : World) : Calls Try.prog 72 #[] w fun e w' => (∃ b, e = .returned (.pointer (some ⟨b, 0, none⟩))) ∧ Still w w' := by
  go_enter Try.func72, Try.ntmps72
  go_wp2_with fail
  go_ret
  exact ⟨⟨_, rfl⟩, by (repeat (first | (with_reducible exact Kept.refl _ _) | (with_reducible refine Kept.drewN ?_ _) | (with_reducible refine Kept.drew ?_) | (with_reducible refine Kept.put ?_ _ _) | (with_reducible refine Kept.alloc ?_ _)))⟩
set_option maxHeartbeats 1000000 in
theorem elvnew (w : World) : Calls Try.prog 73 #[] w fun e w' => (∃ b, e = .returned (.pointer (some ⟨b, 0, none⟩))) ∧ Still w w' := by
  obtain ⟨v, hv⟩ : ∃ v, v = w.heap.size := ⟨_, rfl⟩
  have hz0 : (zeroValue 208).run Try.prog w = .ok (.agg (Array.replicate 64 (.pointer none) ++ #[.int .u64 0, .int .i64 0])) w := by kernel_rfl
  obtain ⟨Z, hZ⟩ : ∃ Z : Array Value, Z = Array.replicate 64 (.pointer none) ++ #[.int .u64 0, .int .i64 0] := ⟨_, rfl⟩
  rw [← hZ] at hz0
  have hZs : Z.size = 66 := by rw [hZ]; simp
  clear hZ
  go_enter Try.func73, Try.ntmps73
  go_wp2_with fail
  have hb0 : Blk (w.alloc (.cells Z 208)) v Z 208 := Blk.newAt _ _ _ hv.symm
  have hk0 : Kept (fun y => y = v) w (w.alloc (.cells Z 208)) := (Kept.refl _ _).alloc _
  rw [← hv]
  have HV := Lib.hid hv
  clear hz0 hv
  go_loopw [2, 5] (fun _ i wr => ∃ (k : Nat) (c : Array Value), k ≤ 64 ∧ i = .int .i64 k ∧ Blk wr v c 208 ∧ c.size = 66 ∧ Kept (fun y => y = v) w wr) (fun _ i _ => 64 - (intOf i).toNat)
  case atStart => exact ⟨0, _, Nat.zero_le _, rfl, hb0, hZs, hk0⟩
  case round =>
    obtain ⟨k, c, hk, rfl, hb, hcs, hkk⟩ := hrel
    have hvl := hb.lt
    have HK := Lib.hid hkk
    clear hkk
    by_cases hlt : k < 64
    · go_wp2_with fail
      refine wp_region_end ([4], [9, 190]) [] rfl (by kernel_rfl) (by kernel_rfl) (by kernel_rfl) cellsB_nil (by simp [segs, isEff, isLoad, askOps, asks, ptrEq, eqOrNe, isNil]; rfl) ?_
      refine segs_go stay_nil (by simp [isLoad]) ?_
      go_wp2_with fail
      refine (elnew wr.drew).mono ?_
      rintro e w2 ⟨⟨b, rfl⟩, k2⟩
      have k2' : Still wr w2 := Kept.of_still ((still_refl wr).drewN 1) k2
      have hb2 := hb.still k2'
      have f2 := hb2.free k
      obtain ⟨cv, hcv⟩ : ∃ u, c[k]? = some u := ⟨_, Array.getElem?_eq_getElem (by omega)⟩
      have g2 : w2.cell? ⟨v, k, none⟩ = some cv := (hb2.cell k).trans hcv
      have K2 := Lib.hid k2'
      clear k2 k2'
      go_wp2_with fail
      refine segs_go stay_nil (by simp [isLoad]) ?_
      go_wp2_with fail
      refine segs_nil ?_
      go_wp2_with fail
      go_roundw
      case rel => exact ⟨k + 1, _, by omega, by go_num, hb2.set k _, by simpa using hcs, (HK.out.of_still K2.out).setCell (fun _ => rfl) _⟩
      case measure => simp [intOf]; omega
    · obtain rfl : k = 64 := by omega
      go_wp2_with fail
      go_ret
      have hv := HV.out
      exact ⟨⟨_, rfl⟩, HK.out.mono (fun y hy e => absurd hy (by omega))⟩
set_option maxHeartbeats 1000000 in
theorem ewnew (now : Int) (w : World) : Calls Try.prog 54 #[.int .u64 now] w fun e w' => (∃ b, e = .returned (.pointer (some ⟨b, 0, none⟩))) ∧ Still w w' := by
  go_enter Try.func54, Try.ntmps54
  go_wp2_with fail
  refine (elnew w).mono ?_
  rintro e w1 ⟨⟨bd, rfl⟩, k1⟩
  obtain ⟨v, hv⟩ : ∃ v, v = w1.heap.size := ⟨_, rfl⟩
  obtain ⟨w2, hw2⟩ : ∃ w2, w2 = w1.alloc (.cells #[.int .u64 now, .pointer none, .pointer none, .pointer none, .pointer none, .pointer (some ⟨bd, 0, none⟩), .int .i64 0] 193) := ⟨_, rfl⟩
  have hb2 : Blk w2 v #[.int .u64 now, .pointer none, .pointer none, .pointer none, .pointer none, .pointer (some ⟨bd, 0, none⟩), .int .i64 0] 193 := by rw [hw2]; exact Blk.newAt _ _ _ hv.symm
  have hk2 : Kept (fun y => y = v) w w2 := by rw [hw2]; exact ((k1.mono (fun _ _ f => f.elim)) : Kept (fun y => y = v) w w1).alloc _
  have HV := Lib.hid (show w.heap.size ≤ v by rw [hv]; exact k1.size)
  clear k1
  go_upto_region 2 with fail
  rw [← hw2, ← hv]
  clear hw2 hv
  go_wp2_with fail
  go_loopw [4, 9] (fun _ i wr => ∃ (k : Nat) (c : Array Value), k ≤ 4 ∧ i = .int .i64 k ∧ Blk wr v c 193 ∧ c.size = 7 ∧ Kept (fun y => y = v) w wr) (fun _ i _ => 4 - (intOf i).toNat)
  case atStart => exact ⟨0, _, Nat.zero_le _, rfl, hb2, rfl, hk2⟩
  case round =>
    obtain ⟨k, c, hk, rfl, hb, hcs, hkk⟩ := hrel
    have hvl := hb.lt
    have HK := Lib.hid hkk
    clear hkk
    by_cases hlt : k < 4
    · go_upto_region 5 with fail
      refine wp_region_end ([4], [9, 190]) [] rfl (by kernel_rfl) (by kernel_rfl) (by kernel_rfl) cellsB_nil (by simp [segs, isEff, isLoad, askOps, asks, ptrEq, eqOrNe, isNil]; rfl) ?_
      refine segs_go stay_nil (by simp [isLoad]) ?_
      go_wp2_with fail
      refine (elvnew wr.drew).mono ?_
      rintro e w2 ⟨⟨b, rfl⟩, k2⟩
      have k2' : Still wr w2 := Kept.of_still ((still_refl wr).drewN 1) k2
      have hb2 := hb.still k2'
      have f2 := hb2.free (1 + k)
      obtain ⟨cv, hcv⟩ : ∃ u, c[1 + k]? = some u := ⟨_, Array.getElem?_eq_getElem (by omega)⟩
      have g2 : w2.cell? ⟨v, 1 + k, none⟩ = some cv := (hb2.cell (1 + k)).trans hcv
      have K2 := Lib.hid k2'
      clear k2 k2'
      go_wp2_with fail
      refine segs_go stay_nil (by simp [isLoad]) ?_
      go_wp2_with fail
      refine segs_nil ?_
      go_wp2_with fail
      go_roundw
      case rel => exact ⟨k + 1, _, by omega, by go_num, hb2.set (1 + k) _, by simpa using hcs, (HK.out.of_still K2.out).setCell (fun _ => rfl) _⟩
      case measure => simp [intOf]; omega
    · obtain rfl : k = 4 := by omega
      go_wp2_with fail
      go_ret
      have hv := HV.out
      exact ⟨⟨_, rfl⟩, HK.out.mono (fun y hy e => absurd hy (by omega))⟩
theorem eshnew (n : Nat) (h1 : 1 ≤ n) (h64 : n ≤ 64) (w : World) :
    Calls Try.prog 33 #[.int .i64 n] w fun e w' => (∃ s, e = .returned (.tuple #[.pointer (some ⟨s, 0, none⟩), .int .i64 0])) ∧ Still w w' := by
  go_enter Try.func33, Try.ntmps33
  go_wp2_with fail
  refine (rnew_t n h1 h64 w).mono ?_
  rintro e w1 ⟨⟨r, rfl⟩, k1⟩
  go_wp2_with fail
  refine (lknew w1).mono ?_
  rintro e w2 ⟨⟨l, rfl⟩, k2⟩
  go_wp2_with fail
  refine (ewnew 0 w2).mono ?_
  rintro e w3 ⟨⟨v, rfl⟩, k3⟩
  go_wp2_with fail
  go_ret2
  exact ⟨⟨_, rfl⟩, ((k1.trans k2).trans k3).alloc _⟩
end Go.Proofs.Ytbikganlloopbaa
