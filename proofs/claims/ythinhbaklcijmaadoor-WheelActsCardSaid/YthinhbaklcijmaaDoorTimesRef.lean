/-
  What stands here: all digits of a time, by the program and by the document. Under the condition that the time is a word.
-/
import Derived.Test.YthinhbaklcijmaaDoorTimesFns
import Derived.Test.YthinhbaklcijmaaDoorRow
import Derived.Test.YthinhbaklcijmaaDoorTimesHigh
namespace Go.Proofs.YthinhbaklcijmaaDoor
set_option linter.unusedVariables false
set_option linter.unusedSimpArgs false
open Go.RowKit Go.Proofs
attribute [local go_sem] Oper.semAt_some
theorem infoInt : (Tryd.prog.info? 3).map (fun i => (i.zero, i.size, i.bytes)) = some (some (.int .i64 0), 1, 8) := by kernel_rfl
def dgl (t : Int) (k : Nat) : List Int := (List.range k).map (dg t)
theorem dgl_len (t : Int) (k : Nat) : (dgl t k).length = k := by simp [dgl]
theorem dgl_succ (t : Int) (k : Nat) : dgl t (k + 1) = dgl t k ++ [dg t k] := by unfold dgl; rw [List.range_succ, List.map_append]; rfl
theorem dgl_get (t : Int) {k i : Nat} (h : i < k) : (dgl t k).getD i 0 = dg t i := by simp [dgl, List.getD_eq_getElem?_getD, h]
set_option maxHeartbeats 1000000 in
set_option maxRecDepth 100000 in
theorem refdigits_any (t : Int) (ht : 0 ≤ t ∧ t < 18446744073709551616) (w : World) :
    Calls Tryd.prog 33 #[.int .u64 t] w fun e w' => (∃ v, e = .returned v ∧ IRow (w.heap.size ≤ ·) w' v (dgl t 11)) ∧ Below w.heap.size w w' := by
  obtain ⟨i0, hi, hz0, hz1, hz2⟩ := info_parts infoInt
  go_enter Tryd.func33, Tryd.ntmps33
  go_wp2
  go_loopw [0, 3, 4] (fun x v i wr => ∃ k : Nat, k ≤ 11 ∧ i = .int .i64 k ∧ x = .int .u64 (t / 64 ^ k) ∧ wr.ownsRow w.heap.size 3 1 v k ((dgl t k).map (Value.int .i64)) ∧ Below w.heap.size w wr) (fun _ _ i _ => 11 - (intOf i).toNat)
  case atStart => exact ⟨0, Nat.zero_le _, rfl, by simp, World.ownsRow_nil _ _ _ _, Below.refl _ _⟩
  case round =>
    obtain ⟨k, hk, rfl, rfl, hown, hbel⟩ := hrel
    have hz : 0 ≤ t / 64 ^ k ∧ t / 64 ^ k < 18446744073709551616 := z_bd ht k
    have hsz := hbel.size
    by_cases h : k < 11
    · obtain ⟨hz1', hz2'⟩ := hz
      have hdg : (0 ≤ dg t k ∧ dg t k < 64) := by unfold dg; omega
      have HZ := Lib.hid (z_succ t k)
      obtain ⟨z, hzz⟩ : ∃ z, z = t / 64 ^ k := ⟨_, rfl⟩
      have hd : dg t k = z % 64 := by rw [hzz]; rfl
      have HD := Lib.hid hd
      rw [← hzz] at HZ hz1' hz2' ⊢
      clear hd hdg hzz
      go_wp2_with (first | (at_builtin; refine wpList_append_own _ rfl _ _ 52 rfl w.heap.size 3 i0 (.int .i64 0) 1 8 Tryd.underlying52 hi hz0 hz1 hz2 rfl (by decide) _ _ _ rfl (hown.alloc _) ⟨wr.heap.size, 0, none⟩ 1 1 [.int .i64 (z % 64)] rfl rfl (by intro j u hj; match j, hj with | 0, hj => simp at hj; subst hj; first | (simp [Addr.add]; done) | exact (Blk.newAt _ _ _ (by simp)).cell 0) (by intro u hu; simp at hu; subst hu; rfl) (by unfold maxLen; omega) (by omega) (by first | omega | (simp; omega) | simp) ?_) | go_in)
      intro v' w1 hown' hgrow _
      go_wp2
      go_roundw
      case rel => exact ⟨k + 1, by omega, by go_num, by rw [HZ.out], by rw [dgl_succ, List.map_append, HD.out]; exact hown', below_append hbel hown hgrow (Nat.le_refl _) (Nat.le_refl _)⟩
      case measure => simp [intOf]; omega
    · obtain rfl : k = 11 := by omega
      go_wp2
      go_ret
      exact ⟨⟨_, rfl, VRow.of_owns hown⟩, hbel⟩
end Go.Proofs.YthinhbaklcijmaaDoor
namespace Go.Proofs.YthinhbaklcijmaaDoor
set_option linter.unusedVariables false
set_option linter.unusedSimpArgs false
open Go.RowKit Go.Proofs
theorem dig_row {Q : Nat → Prop} {w : World} {v : Value} {t : Int} (r : IRow Q w v (dgl t 11)) :
    ∃ b o c, v = .slice (some ⟨b, o, none⟩) 11 c ∧ b < w.heap.size ∧ Q b ∧ ∀ j, j < 11 → w.cell? ⟨b, o + j, none⟩ = some (.int .i64 (dg t j)) := by
  obtain ⟨a, c, rfl⟩ := VRow.len r
  obtain ⟨_, _, h⟩ := r.cells
  obtain ⟨b, o, rfl, hb, hq, hc⟩ := h (by simp [dgl])
  refine ⟨b, o, c, by simp [dgl], hb, hq, fun j hj => ?_⟩
  rw [hc j (by simpa [dgl] using hj), dgl_get t hj]
theorem dg_bd (t : Int) (i : Nat) : 0 ≤ dg t i ∧ dg t i < 64 := by unfold dg; omega
theorem div_step (t : Int) (i : Nat) : t / 64 ^ i = 64 * (t / 64 ^ (i + 1)) + dg t i := by
  rw [z_succ]; unfold dg; omega
theorem div_11 {t : Int} (ht : 0 ≤ t ∧ t < 18446744073709551616) : t / 64 ^ 11 = 0 := by
  exact Int.ediv_eq_zero_of_lt ht.1 (by omega)
theorem div_more (t : Int) (i d : Nat) : t / 64 ^ (i + d) = t / 64 ^ i / 64 ^ d := by
  rw [Int.pow_add, Int.ediv_ediv_of_nonneg (Int.le_of_lt (Int.pow_pos (by omega)))]
theorem div_eq_up {a b : Int} {i j : Nat} (h : a / 64 ^ i = b / 64 ^ i) (hij : i ≤ j) : a / 64 ^ j = b / 64 ^ j := by
  obtain ⟨d, rfl⟩ : ∃ d, j = i + d := ⟨j - i, by omega⟩
  rw [div_more, div_more, h]
theorem apart_found {a b : Int} {k : Nat} (hk : k < 11) (h : a / 64 ^ (k + 1) = b / 64 ^ (k + 1)) (hne : dg a k ≠ dg b k) : ApartIs a b k := by
  refine ⟨by omega, by omega, fun i => ⟨fun e => ?_, fun hi => div_eq_up h (by omega)⟩⟩
  rcases Nat.lt_or_ge k i with hlt | hge
  · omega
  · have e2 := div_eq_up e hge
    unfold dg at hne
    rw [e2] at hne
    exact absurd rfl hne
theorem apart_none {a b : Int} (h : a / 64 ^ 0 = b / 64 ^ 0) : ApartIs a b (-1) := by
  refine ⟨by omega, by omega, fun i => ⟨fun _ => by omega, fun _ => div_eq_up h (by omega)⟩⟩
set_option maxHeartbeats 1000000 in
theorem refapart_any (a b : Int) (ha : 0 ≤ a ∧ a < 18446744073709551616) (hb : 0 ≤ b ∧ b < 18446744073709551616) (w : World) :
    Calls Tryd.prog 32 #[.int .u64 a, .int .u64 b] w fun e w' => (∃ k, ApartIs a b k ∧ e = .returned (.int .i64 k)) ∧ Below w.heap.size w w' := by
  go_enter Tryd.func32, Tryd.ntmps32
  go_wp2_with fail
  refine (refdigits_any a ha _).mono ?_
  rintro e w1 ⟨⟨v1, rfl, r1⟩, bel1⟩
  go_wp2_with fail
  refine (refdigits_any b hb _).mono ?_
  rintro e w2 ⟨⟨v2, rfl, r2⟩, bel2⟩
  have r1 := r1.below bel2
  have bel : Below w.heap.size w w2 := bel1.trans (bel2.mono bel1.size)
  obtain ⟨b1, o1, c1, rfl, hb1, _, g1⟩ := dig_row r1
  obtain ⟨b2, o2, c2, rfl, hb2, _, g2⟩ := dig_row r2
  have G1 := Lib.hid g1
  have G2 := Lib.hid g2
  have H11 := Lib.hid ((div_11 ha).trans (div_11 hb).symm)
  clear g1 g2 r1 r2
  go_wp2_with fail
  go_loopw [7] (fun i wr => ∃ n : Nat, n ≤ 11 ∧ i = .int .i64 ((n : Int) - 1) ∧ a / 64 ^ n = b / 64 ^ n ∧ Still w2 wr) (fun i _ => (intOf i + 1).toNat)
  case atStart => exact ⟨11, by omega, rfl, H11.out, by (repeat (first | (with_reducible exact Kept.refl _ _) | (with_reducible refine Kept.drewN ?_ _) | (with_reducible refine Kept.drew ?_) | (with_reducible refine Kept.put ?_ _ _) | (with_reducible refine Kept.alloc ?_ _)))⟩
  case round =>
    obtain ⟨n, hn, rfl, ht, hs⟩ := hrel
    have HT := Lib.hid ht
    clear ht
    match n, hn, HT with
    | 0, hn, HT =>
      go_wp2
      go_ret
      exact ⟨⟨_, apart_none HT.out, rfl⟩, below_still bel hs (Nat.le_refl _)⟩
    | m + 1, hn, HT =>
      rw [show ((m + 1 : Nat) : Int) - 1 = m by omega]
      have q1 : wr.cell? ⟨b1, o1 + m, none⟩ = some (.int .i64 (dg a m)) := by exact (World.cell?_of_block (a := ⟨b1, o1 + m, none⟩) (hs.block b1 hb1 (fun f => f))).trans (G1.out m (by omega))
      have q2 : wr.cell? ⟨b2, o2 + m, none⟩ = some (.int .i64 (dg b m)) := by exact (World.cell?_of_block (a := ⟨b2, o2 + m, none⟩) (hs.block b2 hb2 (fun f => f))).trans (G2.out m (by omega))
      obtain ⟨x, hx⟩ : ∃ x, x = dg a m := ⟨_, rfl⟩
      obtain ⟨y, hy⟩ : ∃ y, y = dg b m := ⟨_, rfl⟩
      rw [← hx] at q1
      rw [← hy] at q2
      have HGX := Lib.hid hx
      have HGY := Lib.hid hy
      clear hx hy
      by_cases he : x = y
      · subst he
        have hq : (x != x) = false := by simp
        go_wp2
        go_quiet (fail)
        go_wp2
        go_roundw
        case rel => exact ⟨m, by omega, by go_num, by rw [div_step a m, div_step b m, HT.out, ← HGX.out, ← HGY.out], by exact hs.drewN _⟩
        case measure => simp [intOf]
      · have hq : (x != y) = true := by simpa using he
        go_wp2
        go_quiet (fail)
        go_wp2
        go_ret
        exact ⟨⟨_, apart_found (by omega) HT.out (by rw [← HGX.out, ← HGY.out]; exact he), rfl⟩, below_still bel (hs.drewN _) (Nat.le_refl _)⟩
set_option maxHeartbeats 1000000 in
theorem refzeros_any (t : Int) (ht : 0 ≤ t ∧ t < 18446744073709551616) (w : World) :
    Calls Tryd.prog 36 #[.int .u64 t] w fun e w' => (∃ k : Nat, ZerosIs t k ∧ e = .returned (.int .i64 k)) ∧ Below w.heap.size w w' := by
  go_enter Tryd.func36, Tryd.ntmps36
  go_wp2_with fail
  refine (refdigits_any t ht _).mono ?_
  rintro e w1 ⟨⟨v1, rfl, r1⟩, bel⟩
  obtain ⟨b1, o1, c1, rfl, hb1, _, g1⟩ := dig_row r1
  have G1 := Lib.hid g1
  clear g1 r1
  go_wp2_with fail
  go_loopw [4] (fun i wr => ∃ n : Nat, n ≤ 11 ∧ i = .int .i64 n ∧ (∀ i, i < n → dg t i = 0) ∧ Still w1 wr) (fun i _ => 11 - (intOf i).toNat)
  case atStart => exact ⟨0, by omega, rfl, by omega, by (repeat (first | (with_reducible exact Kept.refl _ _) | (with_reducible refine Kept.drewN ?_ _) | (with_reducible refine Kept.drew ?_) | (with_reducible refine Kept.put ?_ _ _) | (with_reducible refine Kept.alloc ?_ _)))⟩
  case round =>
    obtain ⟨n, hn, rfl, ht, hs⟩ := hrel
    have HT := Lib.hid ht
    clear ht
    by_cases hlt : n < 11
    · have q1 : wr.cell? ⟨b1, o1 + n, none⟩ = some (.int .i64 (dg t n)) := by exact (World.cell?_of_block (a := ⟨b1, o1 + n, none⟩) (hs.block b1 hb1 (fun f => f))).trans (G1.out n (by omega))
      obtain ⟨x, hx⟩ : ∃ x, x = dg t n := ⟨_, rfl⟩
      rw [← hx] at q1
      have HGX := Lib.hid hx
      clear hx
      by_cases he : x = 0
      · subst he
        go_wp2
        go_roundw
        case rel => exact ⟨n + 1, by omega, by go_num, fun i hi => (by rcases Nat.lt_or_ge i n with h | h; exact HT.out i h; obtain rfl : i = n := (by omega); exact HGX.out.symm), by exact hs⟩
        case measure => simp [intOf]; omega
      · have hq : (x == 0) = false := by simpa using he
        go_wp2
        go_ret
        exact ⟨⟨n, ⟨by omega, HT.out, fun _ => by rw [← HGX.out]; exact he⟩, rfl⟩, below_still bel hs (Nat.le_refl _)⟩
    · obtain rfl : n = 11 := by omega
      go_wp2
      go_ret
      exact ⟨⟨11, ⟨by omega, HT.out, by omega⟩, rfl⟩, below_still bel hs (Nat.le_refl _)⟩
end Go.Proofs.YthinhbaklcijmaaDoor
