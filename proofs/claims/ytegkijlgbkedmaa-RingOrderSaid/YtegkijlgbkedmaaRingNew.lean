/-
  What stands here: a new ring. Under no condition but that the ring's blocks hold it.
-/
import Derived.Test.YtegkijlgbkedmaaRing
import Derived.Test.YtegkijlgbkedmaaRingPop
namespace Go.Proofs.Ytegkijlgbkedmaa
set_option linter.unusedVariables false
set_option linter.unusedSimpArgs false
open Go.RowKit Go.Proofs

theorem made_slot (z : Value) {n j : Nat} (h : j < n) : SlotAt (madeCells #[.int .i64 0, .int .i64 0, .int .i64 0, .int .i64 0, z] (n * 5)) j 0 z := by
  have hg : ∀ i, i < 5 → (madeCells #[.int .i64 0, .int .i64 0, .int .i64 0, .int .i64 0, z] (n * 5))[j * 5 + i]? = (#[.int .i64 0, .int .i64 0, .int .i64 0, .int .i64 0, z] : Array Value)[i]? := by
    intro i hi
    have hlt : j * 5 + i < n * 5 := by omega
    have h1 : i < (#[.int .i64 0, .int .i64 0, .int .i64 0, .int .i64 0, z] : Array Value).size := hi
    simp only [madeCells]
    rw [Array.getElem?_map, Array.getElem?_range, if_pos hlt, Option.map_some, Array.getElem?_eq_getElem h1]
    have h2 : (j * 5 + i) % (#[.int .i64 0, .int .i64 0, .int .i64 0, .int .i64 0, z] : Array Value).size = i := by
      show (j * 5 + i) % 5 = i
      omega
    rw [h2, getElem!_pos (#[.int .i64 0, .int .i64 0, .int .i64 0, .int .i64 0, z] : Array Value) i h1]
  exact ⟨hg 0 (by omega), ⟨0, hg 1 (by omega)⟩, ⟨0, hg 2 (by omega)⟩, ⟨0, hg 3 (by omega)⟩, hg 4 (by omega)⟩
theorem blk_of_make {w : World} {base : Nat} {e : TypeId} {n m : Nat} {g : Nat} {zc : Array Value} (h : w.ownsRow base e m (.slice (some ⟨g, 0, none⟩) n n) n (madeCells zc (n * m)).toList) : Blk w g (madeCells zc (n * m)) e := by
  obtain ⟨hl, ⟨h0, _⟩ | ⟨g', cap, cur, hv, _, hg, _, _, hs, ht⟩⟩ := h
  · cases h0
  · simp only [Value.slice.injEq, Option.some.injEq, Addr.mk.injEq, and_true, true_and] at hv
    obtain ⟨rfl, rfl⟩ := hv
    have : cur = madeCells zc (n * m) := by
      apply Array.ext'
      rw [← ht, List.take_of_length_le (by simp [hs])]
    unfold Blk; rw [hg, this]

theorem infoSlot_i : (Try.prog.info? 70).map (fun i => (i.zero, i.size, i.bytes)) = some (some (.agg #[.int .i64 0, .int .i64 0, .int .i64 0, .int .i64 0, .int .i64 0]), 5, 40) := by kernel_rfl

theorem new_no_i (n : Int) (hn : n < 1 ∨ 64 < n) (w : World) :
    Calls Try.prog 9 #[.int .i64 n] w fun e w' => e = .returned (.tuple #[.pointer none, .int .i64 4]) ∧ Still w w' := by
  rcases hn with h | h
  · go_enter Try.func9, Try.ntmps9
    go_wp2_with fail
    go_ret2
    exact ⟨rfl, still_refl _⟩
  · have h' : ¬ n < 1 := by omega
    go_enter Try.func9, Try.ntmps9
    go_wp2_with fail
    go_ret2
    exact ⟨rfl, still_refl _⟩

set_option maxHeartbeats 1000000 in
theorem new_i (n : Nat) (h1 : 1 ≤ n) (h64 : n ≤ 64) (w : World) :
    Calls Try.prog 9 #[.int .i64 n] w fun e w' => ∃ b sb, e = .returned (.tuple #[.pointer (some ⟨b, 0, none⟩), .int .i64 0]) ∧ RingI (.int .i64 0) b sb 68 70 ⟨n, 0, 0, fun _ => false, fun _ => .int .i64 0⟩ w' ∧
      Below w.heap.size w w' ∧ w.heap.size ≤ b ∧ w.heap.size ≤ sb := by
  obtain ⟨i0, hi, hz0, hz1, hz2⟩ := info_parts infoSlot_i
  go_enter Try.func9, Try.ntmps9
  go_wp2_with (first | (at_make; refine wpList_make_full _ rfl _ _ 64 rfl w.heap.size 70 i0 (.agg #[.int .i64 0, .int .i64 0, .int .i64 0, .int .i64 0, .int .i64 0]) 5 Try.underlying64 hi hz0 hz1 _ _ _ _ n rfl rfl rfl rfl (by rw [hz2]; omega) (by unfold maxLen; omega) (Nat.le_refl _) ?_) | fail)
  intro w1 how hgr
  have bS := blk_of_make how
  have k1 : Still w w1 := (Kept.refl (fun _ => False) w).grown hgr (fun k e _ => by cases e)
  have hz : w.heap.size < w1.heap.size := bS.lt
  have hsl : ∀ j, j < n → SlotAt (madeCells #[.int .i64 0, .int .i64 0, .int .i64 0, .int .i64 0, .int .i64 0] (n * 5)) j 0 (.int .i64 0) := fun j hj => made_slot _ hj
  have HSL := Lib.hid hsl
  clear how hgr hsl
  go_wp2_with fail
  have bB : Blk (w1.alloc (.cells #[.slice (some ⟨w.heap.size, 0, none⟩) n n, .int .i64 0, .int .i64 0, .int .i64 0, .int .i64 0, .int .i64 0] 68)) w1.heap.size (ringC w.heap.size ⟨n, 0, 0, fun _ => false, fun _ => .int .i64 0⟩ 0 0 0) 68 := Blk.new w1 _ _
  have bS2 := bS.alloc (.cells #[.slice (some ⟨w.heap.size, 0, none⟩) n n, .int .i64 0, .int .i64 0, .int .i64 0, .int .i64 0, .int .i64 0] 68)
  have hk2 : Below w.heap.size w (w1.alloc (.cells #[.slice (some ⟨w.heap.size, 0, none⟩) n n, .int .i64 0, .int .i64 0, .int .i64 0, .int .i64 0, .int .i64 0] 68)) := below_still (Below.refl _ w) (k1.alloc _) (Nat.le_refl _)
  go_loopw [21] (fun i wr => ∃ k : Nat, k ≤ n ∧ i = .int .i64 k ∧ Blk wr w1.heap.size (ringC w.heap.size ⟨n, 0, 0, fun _ => false, fun _ => .int .i64 0⟩ 0 0 0) 68 ∧
    (∃ c, Blk wr w.heap.size c 70 ∧ ∀ j, j < n → SlotAt c j (if j < k then 2 * (j : Int) else 0) (.int .i64 0)) ∧ Below w.heap.size w wr) (fun i _ => n - (intOf i).toNat)
  case atStart => exact ⟨0, by omega, rfl, bB, ⟨_, bS2, fun j hj => by rw [if_neg (by omega)]; exact HSL.out j hj⟩, hk2⟩
  case round =>
    obtain ⟨k, hk, rfl, bR, ⟨c, bC, hs⟩, hbel⟩ := hrel
    have HS := Lib.hid hs
    clear hs
    have c0 : wr.cell? ⟨w1.heap.size, 0, none⟩ = some (.slice (some ⟨w.heap.size, 0, none⟩) n n) := bR.cell 0
    by_cases hlt : k < n
    · go_wp2_with fail
      refine (store_any w.heap.size (k * 5) c 0 (2 * (k : Int)) _ _ bC (by have := (HS.out k hlt).1; rwa [if_neg (by omega)] at this)).mono ?_
      rintro e w2 ⟨rfl, k2, bC2⟩
      have hR2 := Lib.hid (bR.only k2 (by omega))
      have hb2 := Lib.hid (below_only hbel k2 (Nat.le_refl _) (Nat.le_refl _))
      have HS2 : Hid (∀ j, j < n → SlotAt (c.setIfInBounds (k * 5) (.int .i64 (2 * (k : Int)))) j (if j < k + 1 then 2 * (j : Int) else 0) (.int .i64 0)) := Lib.hid (fun j hj => by
        by_cases e : j = k
        · subst e
          rw [if_pos (by omega)]
          exact slot_seq (HS.out j hj)
        · have := slot_other (HS.out j hj) 0 (by omega) (.int .i64 (2 * (k : Int))) e
          rw [Nat.add_zero] at this
          by_cases h2 : j < k
          · rw [if_pos (by omega)]; rwa [if_pos h2] at this
          · rw [if_neg (by omega)]; rwa [if_neg h2] at this)
      have HC2 := Lib.hid bC2
      clear bC2 k2
      go_wp2_with fail
      go_roundw
      case rel => exact ⟨k + 1, by omega, by go_num, hR2.out, ⟨_, HC2.out, HS2.out⟩, hb2.out⟩
      case measure => simp [intOf]; omega
    · obtain rfl : k = n := by omega
      have hI : RingI (.int .i64 0) w1.heap.size w.heap.size 68 70 ⟨k, 0, 0, fun _ => false, fun _ => .int .i64 0⟩ wr := by
        refine ⟨⟨h1, h64, Nat.le_refl _, Nat.zero_le _, (by show (0 : Nat) < 1000000000000; omega), fun _ _ => rfl⟩, by omega, ⟨0, 0, 0, bR⟩, ⟨c, bC, fun q _ h2 => ?_⟩⟩
        have h2' : q < k := by simpa using h2
        have := HS.out q h2'
        rw [if_pos h2'] at this
        show SlotAt c (q % k) _ _
        rw [Nat.mod_eq_of_lt h2']
        simpa [RS.seq, RS.at_] using this
      have HI := Lib.hid hI
      clear hI
      go_wp2_with fail
      go_ret2
      exact ⟨_, _, rfl, HI.out, hbel, by omega, Nat.le_refl _⟩


theorem infoSlot_s : (Try.prog.info? 82).map (fun i => (i.zero, i.size, i.bytes)) = some (some (.agg #[.int .i64 0, .int .i64 0, .int .i64 0, .int .i64 0, .string ⟨#[]⟩]), 5, 48) := by kernel_rfl

theorem new_no_s (n : Int) (hn : n < 1 ∨ 64 < n) (w : World) :
    Calls Try.prog 20 #[.int .i64 n] w fun e w' => e = .returned (.tuple #[.pointer none, .int .i64 4]) ∧ Still w w' := by
  rcases hn with h | h
  · go_enter Try.func20, Try.ntmps20
    go_wp2_with fail
    go_ret2
    exact ⟨rfl, still_refl _⟩
  · have h' : ¬ n < 1 := by omega
    go_enter Try.func20, Try.ntmps20
    go_wp2_with fail
    go_ret2
    exact ⟨rfl, still_refl _⟩

set_option maxHeartbeats 1000000 in
theorem new_s (n : Nat) (h1 : 1 ≤ n) (h64 : n ≤ 64) (w : World) :
    Calls Try.prog 20 #[.int .i64 n] w fun e w' => ∃ b sb, e = .returned (.tuple #[.pointer (some ⟨b, 0, none⟩), .int .i64 0]) ∧ RingI (.string ⟨#[]⟩) b sb 80 82 ⟨n, 0, 0, fun _ => false, fun _ => .string ⟨#[]⟩⟩ w' ∧
      Below w.heap.size w w' ∧ w.heap.size ≤ b ∧ w.heap.size ≤ sb := by
  obtain ⟨i0, hi, hz0, hz1, hz2⟩ := info_parts infoSlot_s
  go_enter Try.func20, Try.ntmps20
  go_wp2_with (first | (at_make; refine wpList_make_full _ rfl _ _ 78 rfl w.heap.size 82 i0 (.agg #[.int .i64 0, .int .i64 0, .int .i64 0, .int .i64 0, .string ⟨#[]⟩]) 5 Try.underlying78 hi hz0 hz1 _ _ _ _ n rfl rfl rfl rfl (by rw [hz2]; omega) (by unfold maxLen; omega) (Nat.le_refl _) ?_) | fail)
  intro w1 how hgr
  have bS := blk_of_make how
  have k1 : Still w w1 := (Kept.refl (fun _ => False) w).grown hgr (fun k e _ => by cases e)
  have hz : w.heap.size < w1.heap.size := bS.lt
  have hsl : ∀ j, j < n → SlotAt (madeCells #[.int .i64 0, .int .i64 0, .int .i64 0, .int .i64 0, .string ⟨#[]⟩] (n * 5)) j 0 (.string ⟨#[]⟩) := fun j hj => made_slot _ hj
  have HSL := Lib.hid hsl
  clear how hgr hsl
  go_wp2_with fail
  have bB : Blk (w1.alloc (.cells #[.slice (some ⟨w.heap.size, 0, none⟩) n n, .int .i64 0, .int .i64 0, .int .i64 0, .int .i64 0, .int .i64 0] 80)) w1.heap.size (ringC w.heap.size ⟨n, 0, 0, fun _ => false, fun _ => .string ⟨#[]⟩⟩ 0 0 0) 80 := Blk.new w1 _ _
  have bS2 := bS.alloc (.cells #[.slice (some ⟨w.heap.size, 0, none⟩) n n, .int .i64 0, .int .i64 0, .int .i64 0, .int .i64 0, .int .i64 0] 80)
  have hk2 : Below w.heap.size w (w1.alloc (.cells #[.slice (some ⟨w.heap.size, 0, none⟩) n n, .int .i64 0, .int .i64 0, .int .i64 0, .int .i64 0, .int .i64 0] 80)) := below_still (Below.refl _ w) (k1.alloc _) (Nat.le_refl _)
  go_loopw [21] (fun i wr => ∃ k : Nat, k ≤ n ∧ i = .int .i64 k ∧ Blk wr w1.heap.size (ringC w.heap.size ⟨n, 0, 0, fun _ => false, fun _ => .string ⟨#[]⟩⟩ 0 0 0) 80 ∧
    (∃ c, Blk wr w.heap.size c 82 ∧ ∀ j, j < n → SlotAt c j (if j < k then 2 * (j : Int) else 0) (.string ⟨#[]⟩)) ∧ Below w.heap.size w wr) (fun i _ => n - (intOf i).toNat)
  case atStart => exact ⟨0, by omega, rfl, bB, ⟨_, bS2, fun j hj => by rw [if_neg (by omega)]; exact HSL.out j hj⟩, hk2⟩
  case round =>
    obtain ⟨k, hk, rfl, bR, ⟨c, bC, hs⟩, hbel⟩ := hrel
    have HS := Lib.hid hs
    clear hs
    have c0 : wr.cell? ⟨w1.heap.size, 0, none⟩ = some (.slice (some ⟨w.heap.size, 0, none⟩) n n) := bR.cell 0
    by_cases hlt : k < n
    · go_wp2_with fail
      refine (store_any w.heap.size (k * 5) c 0 (2 * (k : Int)) _ _ bC (by have := (HS.out k hlt).1; rwa [if_neg (by omega)] at this)).mono ?_
      rintro e w2 ⟨rfl, k2, bC2⟩
      have hR2 := Lib.hid (bR.only k2 (by omega))
      have hb2 := Lib.hid (below_only hbel k2 (Nat.le_refl _) (Nat.le_refl _))
      have HS2 : Hid (∀ j, j < n → SlotAt (c.setIfInBounds (k * 5) (.int .i64 (2 * (k : Int)))) j (if j < k + 1 then 2 * (j : Int) else 0) (.string ⟨#[]⟩)) := Lib.hid (fun j hj => by
        by_cases e : j = k
        · subst e
          rw [if_pos (by omega)]
          exact slot_seq (HS.out j hj)
        · have := slot_other (HS.out j hj) 0 (by omega) (.int .i64 (2 * (k : Int))) e
          rw [Nat.add_zero] at this
          by_cases h2 : j < k
          · rw [if_pos (by omega)]; rwa [if_pos h2] at this
          · rw [if_neg (by omega)]; rwa [if_neg h2] at this)
      have HC2 := Lib.hid bC2
      clear bC2 k2
      go_wp2_with fail
      go_roundw
      case rel => exact ⟨k + 1, by omega, by go_num, hR2.out, ⟨_, HC2.out, HS2.out⟩, hb2.out⟩
      case measure => simp [intOf]; omega
    · obtain rfl : k = n := by omega
      have hI : RingI (.string ⟨#[]⟩) w1.heap.size w.heap.size 80 82 ⟨k, 0, 0, fun _ => false, fun _ => .string ⟨#[]⟩⟩ wr := by
        refine ⟨⟨h1, h64, Nat.le_refl _, Nat.zero_le _, (by show (0 : Nat) < 1000000000000; omega), fun _ _ => rfl⟩, by omega, ⟨0, 0, 0, bR⟩, ⟨c, bC, fun q _ h2 => ?_⟩⟩
        have h2' : q < k := by simpa using h2
        have := HS.out q h2'
        rw [if_pos h2'] at this
        show SlotAt c (q % k) _ _
        rw [Nat.mod_eq_of_lt h2']
        simpa [RS.seq, RS.at_] using this
      have HI := Lib.hid hI
      clear hI
      go_wp2_with fail
      go_ret2
      exact ⟨_, _, rfl, HI.out, hbel, by omega, Nat.le_refl _⟩

end Go.Proofs.Ytegkijlgbkedmaa
