/-
  What stands here: a new shard, and what it has. Under no condition.
-/
import Derived.Test.YthamdbfilpegjaaWheelOne
import Derived.Test.YthamdbfilpegjaaCell
namespace Go.Proofs.Ythamdbfilpegjaa
set_option linter.unusedVariables false
set_option linter.unusedSimpArgs false
open Go.RowKit Go.Proofs
theorem made_at {z : Array Value} {m n j i : Nat} (hm : z.size = m) (hi : i < m) (h : j < n) : (madeCells z (n * m))[j * m + i]? = z[i]? := by
  have hlt : j * m + i < n * m := by
    have : (j + 1) * m ≤ n * m := Nat.mul_le_mul_right m h
    rw [Nat.add_mul, Nat.one_mul] at this
    omega
  have h1 : i < z.size := by omega
  simp only [madeCells]
  rw [Array.getElem?_map, Array.getElem?_range, if_pos hlt, Option.map_some, Array.getElem?_eq_getElem h1]
  have h2 : (j * m + i) % z.size = i := by rw [hm, Nat.mul_add_mod_self_right, Nat.mod_eq_of_lt hi]
  rw [h2, getElem!_pos z i h1]
theorem blk_of_made {w : World} {base : Nat} {e : TypeId} {n m : Nat} {g : Nat} {zc : Array Value} (h : w.ownsRow base e m (.slice (some ⟨g, 0, none⟩) n n) n (madeCells zc (n * m)).toList) : Blk w g (madeCells zc (n * m)) e := by
  obtain ⟨hl, ⟨h0, _⟩ | ⟨g', cap, cur, hv, _, hg, _, _, hs, ht⟩⟩ := h
  · cases h0
  · simp only [Value.slice.injEq, Option.some.injEq, Addr.mk.injEq, and_true, true_and] at hv
    obtain ⟨rfl, rfl⟩ := hv
    have : cur = madeCells zc (n * m) := by
      apply Array.ext'
      rw [← ht, List.take_of_length_le (by simp [hs])]
    unfold Blk; rw [hg, this]
theorem infoSlot_t : (Try.prog.info? 86).map (fun i => (i.zero, i.size, i.bytes)) = some (some (.agg #[.int .i64 0, .int .i64 0, .int .i64 0, .int .i64 0, .int .u64 0, .int .i64 0, .int .u64 0, .int .u64 0, .int .u64 0]), 9, 72) := by kernel_rfl
set_option maxHeartbeats 1000000 in
set_option maxRecDepth 100000 in
theorem rnew_no_t (n : Int) (hn : n < 1 ∨ 64 < n) (w : World) :
    Calls Try.prog 21 #[.int .i64 n] w fun e w' => e = .returned (.tuple #[.pointer none, .int .i64 4]) ∧ Still w w' := by
  rcases hn with h | h
  · go_enter Try.func21, Try.ntmps21
    go_wp2_with fail
    go_ret2
    exact ⟨rfl, still_refl _⟩
  · have h' : ¬ n < 1 := by omega
    go_enter Try.func21, Try.ntmps21
    go_wp2_with fail
    go_ret2
    exact ⟨rfl, still_refl _⟩
set_option maxHeartbeats 1000000 in
set_option maxRecDepth 100000 in
theorem rnew_t (n : Nat) (h1 : 1 ≤ n) (h64 : n ≤ 64) (w : World) :
    Calls Try.prog 21 #[.int .i64 n] w fun e w' => (∃ b, e = .returned (.tuple #[.pointer (some ⟨b, 0, none⟩), .int .i64 0])) ∧ Still w w' := by
  obtain ⟨i0, hi, hz0, hz1, hz2⟩ := info_parts infoSlot_t
  go_enter Try.func21, Try.ntmps21
  go_wp2_with (first | (at_make; refine wpList_make_full _ rfl _ _ 93 rfl w.heap.size 86 i0 (.agg #[.int .i64 0, .int .i64 0, .int .i64 0, .int .i64 0, .int .u64 0, .int .i64 0, .int .u64 0, .int .u64 0, .int .u64 0]) 9 Try.underlying93 hi hz0 hz1 _ _ _ _ n rfl rfl rfl rfl (by rw [hz2]; omega) (by unfold maxLen; omega) (Nat.le_refl _) ?_) | fail)
  intro w1 how hgr
  have bS := blk_of_made how
  have k1 : Still w w1 := (Kept.refl (fun _ => False) w).grown hgr (fun k e _ => by cases e)
  have hz : w.heap.size < w1.heap.size := bS.lt
  have hsl : ∀ j, j < n → ∃ z, (madeCells #[.int .i64 0, .int .i64 0, .int .i64 0, .int .i64 0, .int .u64 0, .int .i64 0, .int .u64 0, .int .u64 0, .int .u64 0] (n * 9))[j * 9]? = some (.int .i64 z) := fun j hj => ⟨0, by have := made_at (z := #[.int .i64 0, .int .i64 0, .int .i64 0, .int .i64 0, .int .u64 0, .int .i64 0, .int .u64 0, .int .u64 0, .int .u64 0]) (m := 9) (i := 0) rfl (by omega) hj; rw [Nat.add_zero] at this; exact this⟩
  have HSL := Lib.hid hsl
  clear how hgr hsl
  go_wp2_with fail
  have bB := Blk.new w1 #[.slice (some ⟨w.heap.size, 0, none⟩) n n, .int .i64 0, .int .i64 0, .int .i64 0, .int .i64 0, .int .i64 0] 95
  have bS2 := bS.alloc (.cells #[.slice (some ⟨w.heap.size, 0, none⟩) n n, .int .i64 0, .int .i64 0, .int .i64 0, .int .i64 0, .int .i64 0] 95)
  have hk2 : Below w.heap.size w (w1.alloc (.cells #[.slice (some ⟨w.heap.size, 0, none⟩) n n, .int .i64 0, .int .i64 0, .int .i64 0, .int .i64 0, .int .i64 0] 95)) := below_still (Below.refl _ w) (k1.alloc _) (Nat.le_refl _)
  go_loopw [5, 21] (fun _ i wr => ∃ k : Nat, k ≤ n ∧ i = .int .i64 k ∧ Blk wr w1.heap.size #[.slice (some ⟨w.heap.size, 0, none⟩) n n, .int .i64 0, .int .i64 0, .int .i64 0, .int .i64 0, .int .i64 0] 95 ∧
    (∃ c, Blk wr w.heap.size c 86 ∧ ∀ j, j < n → ∃ z, c[j * 9]? = some (.int .i64 z)) ∧ Below w.heap.size w wr) (fun _ i _ => n - (intOf i).toNat)
  case atStart => exact ⟨0, by omega, rfl, bB, ⟨_, bS2, HSL.out⟩, hk2⟩
  case round =>
    obtain ⟨k, hk, rfl, bR, ⟨c, bC, hs⟩, hbel⟩ := hrel
    have HS := Lib.hid hs
    clear hs
    have c0 : wr.cell? ⟨w1.heap.size, 0, none⟩ = some (.slice (some ⟨w.heap.size, 0, none⟩) n n) := bR.cell 0
    by_cases hlt : k < n
    · obtain ⟨z, hz9⟩ := HS.out k hlt
      go_wp2_with fail
      refine (store_any w.heap.size (k * 9) c z (2 * (k : Int)) _ _ bC hz9).mono ?_
      rintro e w2 ⟨rfl, k2, bC2⟩
      have hR2 := Lib.hid (bR.only k2 (by omega))
      have hb2 := Lib.hid (below_only hbel k2 (Nat.le_refl _) (Nat.le_refl _))
      have HS2 : Hid (∀ j, j < n → ∃ z, (c.setIfInBounds (k * 9) (.int .i64 (2 * (k : Int))))[j * 9]? = some (.int .i64 z)) := Lib.hid (fun j hj => by
        by_cases e : j = k
        · subst e
          have := (Array.getElem?_eq_some_iff.1 hz9).1
          exact ⟨_, Array.getElem?_setIfInBounds_self_of_lt this⟩
        · obtain ⟨z', hz'⟩ := HS.out j hj
          exact ⟨z', by rw [Array.getElem?_setIfInBounds_ne (by omega)]; exact hz'⟩)
      have HC2 := Lib.hid bC2
      clear bC2 k2 hz9
      go_wp2_with fail
      go_roundw
      case rel => exact ⟨k + 1, by omega, by go_num, hR2.out, ⟨_, HC2.out, HS2.out⟩, hb2.out⟩
      case measure => simp [intOf]; omega
    · obtain rfl : k = n := by omega
      go_wp2_with fail
      go_ret2
      exact ⟨⟨_, rfl⟩, ⟨hbel.os, hbel.tape, hbel.output, hbel.size, fun k hk _ => hbel.block k hk⟩⟩
theorem lknew (w : World) : Calls Try.prog 22 #[] w fun e w' => (∃ b, e = .returned (.pointer (some ⟨b, 0, none⟩))) ∧ Still w w' := by
  go_enter Try.func22, Try.ntmps22
  go_wp2_with fail
  go_ret
  exact ⟨⟨_, rfl⟩, by (repeat (first | (with_reducible exact Kept.refl _ _) | (with_reducible refine Kept.drewN ?_ _) | (with_reducible refine Kept.drew ?_) | (with_reducible refine Kept.put ?_ _ _) | (with_reducible refine Kept.alloc ?_ _)))⟩
/-- a shard's block -/
def ShB (s r l v : Nat) (W : World) : Prop := Blk W s #[ptrN r, ptrN l, ptrN v] 64
theorem shnew_no (n : Int) (hn : n < 1 ∨ 64 < n) (w : World) : Calls Try.prog 6 #[.int .i64 n] w fun e w' => e = .returned (.tuple #[.pointer none, .int .i64 4]) ∧ Still w w' := by
  go_enter Try.func6, Try.ntmps6
  go_wp2_with fail
  refine (rnew_no_t n hn w).mono ?_
  rintro e w1 ⟨rfl, k1⟩
  go_wp2_with fail
  go_ret2
  exact ⟨rfl, k1⟩
theorem shnew (n : Nat) (h1 : 1 ≤ n) (h64 : n ≤ 64) (w W : World) (hb : Below w.heap.size w W) :
    Calls Try.prog 6 #[.int .i64 n] W fun e w' => ∃ s r l v ls lv sl bd S, e = .returned (.tuple #[.pointer (some ⟨s, 0, none⟩), .int .i64 0]) ∧ WX_t ls v lv sl bd S w w' ∧ S.now = 0 ∧ (∀ q, S.pl q = []) ∧ (∀ y, ls.kd y ≠ 6) ∧ ShB s r l v w' ∧ ls.kd s = 0 ∧ w.heap.size ≤ s := by
  go_enter Try.func6, Try.ntmps6
  go_wp2_with fail
  refine (rnew_t n h1 h64 W).mono ?_
  rintro e w1 ⟨⟨r, rfl⟩, k1⟩
  have b1 := below_still hb k1 (Nat.le_refl _)
  go_wp2_with fail
  refine (lknew w1).mono ?_
  rintro e w2 ⟨⟨l, rfl⟩, k2⟩
  have b2 := below_still b1 k2 (Nat.le_refl _)
  go_wp2_with fail
  refine (xnew_t 0 (by omega) w w2 b2).mono ?_
  rintro e w3 ⟨v, ls, lv, sl, bd, S, rfl, x3, n3, p3, k3, z3, y3⟩
  have X3 := Lib.hid x3
  have P3 := Lib.hid (show S.now = 0 ∧ (∀ q, S.pl q = []) ∧ (∀ y, ls.kd y ≠ 6) from ⟨n3, p3, y3⟩)
  have hsz := x3.bel.size
  clear x3 n3 p3 y3 z3
  go_wp2_with fail
  go_ret2
  exact ⟨_, r, l, v, ls, lv, sl, bd, S, rfl, X3.out.still ((still_refl w3).alloc _), P3.out.1, P3.out.2.1, P3.out.2.2, Blk.new _ _ _, X3.out.fr (Nat.le_refl _), hsz⟩
theorem parts_nil (w : World) : Calls Try.prog 24 #[.pointer none] w fun e w' => e = .returned (.agg #[.pointer none, .pointer none, .pointer none]) ∧ Still w w' := by
  go_enter Try.func24, Try.ntmps24
  go_wp2_with fail
  have b1 := Blk.new w #[.pointer none, .pointer none, .pointer none] 62
  refine bodyPost_ret (v := .agg #[.pointer none, .pointer none, .pointer none]) (by simp [results, Try.results24, go_sem]) rfl ⟨rfl, by (repeat (first | (with_reducible exact Kept.refl _ _) | (with_reducible refine Kept.drewN ?_ _) | (with_reducible refine Kept.drew ?_) | (with_reducible refine Kept.put ?_ _ _) | (with_reducible refine Kept.alloc ?_ _)))⟩
theorem parts_any (s r l v : Nat) (w : World) (h : ShB s r l v w) : Calls Try.prog 24 #[.pointer (some ⟨s, 0, none⟩)] w fun e w' => e = .returned (.agg #[.pointer (some ⟨r, 0, none⟩), .pointer (some ⟨l, 0, none⟩), .pointer (some ⟨v, 0, none⟩)]) ∧ Still w w' := by
  have h' : Blk (w.alloc (.cells #[.pointer none, .pointer none, .pointer none] 62)) s _ _ := Blk.alloc h _
  have c0 : (w.alloc (.cells #[.pointer none, .pointer none, .pointer none] 62)).cell? ⟨s, 0, none⟩ = some (.pointer (some ⟨r, 0, none⟩)) := h'.cell 0
  have c1 : (w.alloc (.cells #[.pointer none, .pointer none, .pointer none] 62)).cell? ⟨s, 1, none⟩ = some (.pointer (some ⟨l, 0, none⟩)) := h'.cell 1
  have c2 : (w.alloc (.cells #[.pointer none, .pointer none, .pointer none] 62)).cell? ⟨s, 2, none⟩ = some (.pointer (some ⟨v, 0, none⟩)) := h'.cell 2
  go_enter Try.func24, Try.ntmps24
  go_wp2_with fail
  refine bodyPost_ret (v := .agg #[.pointer (some ⟨r, 0, none⟩), .pointer (some ⟨l, 0, none⟩), .pointer (some ⟨v, 0, none⟩)]) (by simp [results, Try.results24, go_sem]) rfl ⟨rfl, by (repeat (first | (with_reducible exact Kept.refl _ _) | (with_reducible refine Kept.drewN ?_ _) | (with_reducible refine Kept.drew ?_) | (with_reducible refine Kept.put ?_ _ _) | (with_reducible refine Kept.alloc ?_ _)))⟩
end Go.Proofs.Ythamdbfilpegjaa
