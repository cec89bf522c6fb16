/-
  What stands here: what the functions of a level do. Under no condition but that the world holds it.
-/
import Derived.Test.YthamdbfilpegjaaLevelState
namespace Go.Proofs.Ythamdbfilpegjaa
set_option linter.unusedVariables false
set_option linter.unusedSimpArgs false
open Go.RowKit Go.Proofs
theorem LW_t.kept3 {s : LS} {S : Nat → Prop} {W W' : World} (h : LW_t s W) (k : Kept S W W') (hS : ∀ x, (s.kd x = 1 ∨ s.kd x = 2 ∨ s.kd x = 3) → ¬ S x) : LW_t s W' :=
  ⟨h.inv, fun x hx => (h.homes x hx).kept k (hS x (by omega)), fun x hx => (h.nodes x hx).kept k (hS x (by omega)), fun x hx => (h.lists x hx).kept k (hS x (by omega)), fun x hx => h.fresh x (by have := k.size; omega)⟩
/-- a level: its block, its slots' lists -/
structure LvB_t (s : LS) (v : Nat) (sl : Nat → Nat) (W : World) : Prop where
  kv : s.kd v = 4
  blk : ∃ (c : Array Value) (u : Nat), Blk W v c 126 ∧ (∀ k, k < 64 → c[k]? = some (.pointer (some ⟨sl k, 0, none⟩))) ∧ c[64]? = some (.int .u64 u) ∧ c[65]? = some (.int .i64 (tot fun k => (s.sq (sl k)).length)) ∧ UsedOk u (fun k => s.sq (sl k))
  kl : ∀ k, k < 64 → s.kd (sl k) = 1
  inj : ∀ k k', k < 64 → k' < 64 → sl k = sl k' → k = k'
theorem LvB_t.lt {s : LS} {v : Nat} {sl : Nat → Nat} {W : World} (h : LvB_t s v sl W) : v < W.heap.size := by
  obtain ⟨c, u, b, _⟩ := h.blk
  exact b.lt
theorem LvB_t.carry {s s' : LS} {v : Nat} {sl : Nat → Nat} {S : Nat → Prop} {W W' : World} (h : LvB_t s v sl W) (k : Kept S W W') (hS : ¬ S v) (hv : s'.kd v = s.kd v) (hk : ∀ k, k < 64 → s'.kd (sl k) = s.kd (sl k)) (hq : ∀ k, k < 64 → s'.sq (sl k) = s.sq (sl k)) : LvB_t s' v sl W' := by
  obtain ⟨c, u, b, h1, h2, h3, h4⟩ := h.blk
  have e : tot (fun k => (s'.sq (sl k)).length) = tot (fun k => (s.sq (sl k)).length) := tot_congr fun k hk => by rw [hq k hk]
  exact ⟨hv.trans h.kv, ⟨c, u, b.kept k hS, h1, h2, by rw [e]; exact h3, h4.same fun k hk => by rw [hq k hk]⟩, fun k h9 => (hk k h9).trans (h.kl k h9), h.inj⟩
theorem LvB_t.still {s : LS} {v : Nat} {sl : Nat → Nat} {W W' : World} (h : LvB_t s v sl W) (k : Still W W') : LvB_t s v sl W' := h.carry k (fun f => f) rfl (fun _ _ => rfl) (fun _ _ => rfl)
theorem lvslot_t (v : Nat) (k : Int) (w : World) : Calls Try.prog 64 #[.pointer (some ⟨v, 0, none⟩), .int .i64 k] w fun e w' => e = .returned (.int .i64 (if 0 ≤ k ∧ k < 64 then 0 else 4)) ∧ w = w' := by
  by_cases h : 0 ≤ k ∧ k < 64
  · obtain ⟨h1, h2⟩ := h
    rw [if_pos ⟨h1, h2⟩]
    go_enter Try.func64, Try.ntmps64
    go_wp2
    go_ret
    exact ⟨rfl, rfl⟩
  · rw [if_neg h]
    by_cases h1 : 0 ≤ k
    · have h2 : ¬ k < 64 := fun h9 => h ⟨h1, h9⟩
      clear h
      go_enter Try.func64, Try.ntmps64
      go_wp2
      go_ret
      exact ⟨rfl, rfl⟩
    · clear h
      go_enter Try.func64, Try.ntmps64
      go_wp2
      go_ret
      exact ⟨rfl, rfl⟩
theorem lvslot_nil_t (k : Int) (w : World) : Calls Try.prog 64 #[.pointer none, .int .i64 k] w fun e w' => e = .returned (.int .i64 6) ∧ w = w' := by
  go_enter Try.func64, Try.ntmps64
  go_wp2
  go_ret
  exact ⟨rfl, rfl⟩
theorem lvput_nil_t (k : Int) (p : Option Addr) (w : World) : Calls Try.prog 60 #[.pointer none, .int .i64 k, .pointer p] w fun e w' => e = .returned (.int .i64 6) ∧ w = w' := by
  go_enter Try.func60, Try.ntmps60
  go_wp2_with fail
  refine (lvslot_nil_t k w).mono ?_
  rintro e w1 ⟨rfl, rfl⟩
  go_wp2_with fail
  go_ret
  exact ⟨rfl, rfl⟩
theorem lvput_range_t (v : Nat) (k : Int) (p : Option Addr) (w : World) (hk : ¬ (0 ≤ k ∧ k < 64)) : Calls Try.prog 60 #[.pointer (some ⟨v, 0, none⟩), .int .i64 k, .pointer p] w fun e w' => e = .returned (.int .i64 4) ∧ w = w' := by
  go_enter Try.func60, Try.ntmps60
  go_wp2_with fail
  refine (lvslot_t v k w).mono ?_
  rintro e w1 ⟨rfl, rfl⟩
  rw [if_neg hk]
  go_wp2_with fail
  go_ret
  exact ⟨rfl, rfl⟩
theorem lvput_no_t (s : LS) (v : Nat) (sl : Nat → Nat) (k : Nat) (p : Option Addr) (E : Int) (hE : E ≠ 0) (w : World) (h : LvB_t s v sl w) (hk : k < 64)
    (hput : Calls Try.prog 59 #[.pointer (some ⟨sl k, 0, none⟩), .pointer p] w fun e w' => e = .returned (.int .i64 E) ∧ w = w') :
    Calls Try.prog 60 #[.pointer (some ⟨v, 0, none⟩), .int .i64 (k : Int), .pointer p] w fun e w' => e = .returned (.int .i64 E) ∧ w = w' := by
  obtain ⟨c, u, b, h1, h2, h3, h4⟩ := h.blk
  have c1 : w.cell? ⟨v, k, none⟩ = some (.pointer (some ⟨sl k, 0, none⟩)) := (b.cell k).trans (h1 k hk)
  have HP := Lib.hid hput
  have hE' : (E == 0) = false := by rw [beq_eq_false_iff_ne]; exact hE
  clear h1 h2 h3 h4 hput b h
  go_enter Try.func60, Try.ntmps60
  go_wp2_with fail
  refine (lvslot_t v k w).mono ?_
  rintro e w1 ⟨rfl, rfl⟩
  rw [if_pos (by omega)]
  go_wp2_with fail
  refine HP.out.mono ?_
  rintro e w1 ⟨rfl, rfl⟩
  go_wp2_with fail
  go_ret
  exact ⟨rfl, rfl⟩
set_option maxHeartbeats 1000000 in
theorem lvput_t (s : LS) (v : Nat) (sl : Nat → Nat) (k x : Nat) (w : World) (h : LW_t s w) (b : LvB_t s v sl w) (hk : k < 64) (hx : s.kd x = 2) (hno : ∀ l', s.kd l' = 1 → x ∉ s.sq l') (hbig : tot (fun k => (s.sq (sl k)).length) < 1000000) :
    Calls Try.prog 60 #[.pointer (some ⟨v, 0, none⟩), .int .i64 (k : Int), .pointer (some ⟨x, 0, none⟩)] w fun e w' => e = .returned (.int .i64 0) ∧ Kept (fun y => s.kd y = 1 ∨ s.kd y = 2 ∨ y = v) w w' ∧ ∃ s', LW_t s' w' ∧ LvB_t s' v sl w' ∧ s'.kd = s.kd ∧ s'.sq = upd s.sq (sl k) (s.sq (sl k) ++ [x]) ∧ LV s' = LV s := by
  have hle : (s.sq (sl k)).length ≤ tot (fun k => (s.sq (sl k)).length) := le_tot (f := fun k => (s.sq (sl k)).length) hk
  have hh : (s.nd x).home = none := by
    rcases h.inv.own x hx with h1 | ⟨l', h1, h2⟩
    · exact h1
    · exact absurd h2 (hno l' h1)
  obtain ⟨c, u, bv, h1, h2, h3, h4⟩ := b.blk
  have c1 : w.cell? ⟨v, k, none⟩ = some (.pointer (some ⟨sl k, 0, none⟩)) := (bv.cell k).trans (h1 k hk)
  have hsz : 65 < c.size := by obtain ⟨h9, _⟩ := Array.getElem?_eq_some_iff.1 h3; exact h9
  have hvl : v ≠ sl k := fun e => by have := b.kl k hk; rw [← e, b.kv] at this; omega
  have hvx : v ≠ x := fun e => by rw [← e, b.kv] at hx; omega
  have HL := Lib.hid h
  have HB := Lib.hid b
  have HC := Lib.hid h1
  have HU := Lib.hid h4
  clear h b h1 h4 hno
  go_enter Try.func60, Try.ntmps60
  go_wp2_with fail
  refine (lvslot_t v k w).mono ?_
  rintro e w1 ⟨rfl, rfl⟩
  rw [if_pos (by omega)]
  go_wp2_with fail
  refine (lput_t s w HL.out (sl k) x (HB.out.kl k hk) hx hh (by omega)).mono ?_
  rintro e w1 ⟨rfl, hw1, k1⟩
  have bv1 := bv.kept k1 (by rw [HB.out.kv]; omega)
  have d2 : w1.cell? ⟨v, 65, none⟩ = some (.int .i64 (tot fun k => (s.sq (sl k)).length)) := (bv1.cell 65).trans h3
  have f2 := bv1.free 65
  have bv2 := bv1.set 65 (.int .i64 ((tot fun k => (s.sq (sl k)).length) + 1))
  have d3 : (w1.setCell ⟨v, 65, none⟩ (.int .i64 ((tot fun k => (s.sq (sl k)).length) + 1))).cell? ⟨v, 64, none⟩ = some (.int .u64 u) := (bv2.cell 64).trans (by rw [Array.getElem?_setIfInBounds_ne (by omega)]; exact h2)
  have f3 := bv2.free 64
  have H1 := Lib.hid hw1
  have K1 := Lib.hid k1
  have hu := HU.out.1
  generalize hN : (tot fun k => (s.sq (sl k)).length) = N at *
  clear bv c1 hw1 k1
  go_wp2_with fail
  refine (with_any u hu k _).mono ?_
  rintro e w2 ⟨rfl, rfl⟩
  go_wp2_with fail
  go_ret
  have kk : Kept (fun y => s.kd y = 1 ∨ s.kd y = 2 ∨ y = v) w ((w1.setCell ⟨v, 65, none⟩ (.int .i64 (N + 1))).setCell ⟨v, 64, none⟩ (.int .u64 (withN u k))) :=
    ((K1.out.mono (fun y _ h => by omega)).setCell (fun _ => .inr (.inr rfl)) _).setCell (fun _ => .inr (.inr rfl)) _
  refine ⟨rfl, kk, s.put (sl k) x, ?_, ?_, rfl, rfl, LS.put_val _ _ _⟩
  · exact H1.out.kept3 (S := fun y => y = v) ((Kept.setCell (S := fun y => y = v) (Kept.refl _ _) (fun _ => rfl) _).setCell (fun _ => rfl) _) (fun y hy e => by
      have hy' : s.kd y = 1 ∨ s.kd y = 2 ∨ s.kd y = 3 := hy
      rw [e, HB.out.kv] at hy'; omega)
  · have hsq : ∀ j, j < 64 → j ≠ k → (s.put (sl k) x).sq (sl j) = s.sq (sl j) := fun j hj e => upd_ne _ _ (fun e9 => e (HB.out.inj _ _ hj hk e9))
    have hsk : (s.put (sl k) x).sq (sl k) = s.sq (sl k) ++ [x] := upd_same _ _ _
    have ht := tot_one (f := fun j => ((s.put (sl k) x).sq (sl j)).length) (g := fun j => (s.sq (sl j)).length) hk (fun j hj e => by rw [hsq j hj e])
    simp only [hsk, List.length_append, List.length_singleton] at ht
    refine ⟨HB.out.kv, ⟨_, withN u k, bv2.set 64 _, fun j hj => ?_, ?_, ?_, HU.out.put hk (by rw [hsk]; simp) hsq⟩, HB.out.kl, HB.out.inj⟩
    · rw [Array.getElem?_setIfInBounds_ne (by omega), Array.getElem?_setIfInBounds_ne (by omega)]; exact HC.out j hj
    · rw [Array.getElem?_setIfInBounds_self_of_lt (by simpa using by omega)]
    · rw [Array.getElem?_setIfInBounds_ne (by omega), Array.getElem?_setIfInBounds_self_of_lt (by omega), ← hN] at *
      rw [show (tot fun k_1 => ((s.put (sl k) x).sq (sl k_1)).length) = (tot fun k => (s.sq (sl k)).length) + 1 by omega]; rfl
theorem lvrem_nil_t (k : Int) (p : Option Addr) (w : World) : Calls Try.prog 66 #[.pointer none, .int .i64 k, .pointer p] w fun e w' => e = .returned (.int .i64 6) ∧ w = w' := by
  go_enter Try.func66, Try.ntmps66
  go_wp2_with fail
  refine (lvslot_nil_t k w).mono ?_
  rintro e w1 ⟨rfl, rfl⟩
  go_wp2_with fail
  go_ret
  exact ⟨rfl, rfl⟩
theorem lvrem_range_t (v : Nat) (k : Int) (p : Option Addr) (w : World) (hk : ¬ (0 ≤ k ∧ k < 64)) : Calls Try.prog 66 #[.pointer (some ⟨v, 0, none⟩), .int .i64 k, .pointer p] w fun e w' => e = .returned (.int .i64 4) ∧ w = w' := by
  go_enter Try.func66, Try.ntmps66
  go_wp2_with fail
  refine (lvslot_t v k w).mono ?_
  rintro e w1 ⟨rfl, rfl⟩
  rw [if_neg hk]
  go_wp2_with fail
  go_ret
  exact ⟨rfl, rfl⟩
theorem lvrem_no_t (s : LS) (v : Nat) (sl : Nat → Nat) (k : Nat) (p : Option Addr) (E : Int) (hE : E ≠ 0) (w : World) (h : LvB_t s v sl w) (hk : k < 64)
    (hput : Calls Try.prog 63 #[.pointer (some ⟨sl k, 0, none⟩), .pointer p] w fun e w' => e = .returned (.int .i64 E) ∧ Still w w') :
    Calls Try.prog 66 #[.pointer (some ⟨v, 0, none⟩), .int .i64 (k : Int), .pointer p] w fun e w' => e = .returned (.int .i64 E) ∧ Still w w' := by
  obtain ⟨c, u, b, h1, h2, h3, h4⟩ := h.blk
  have c1 : w.cell? ⟨v, k, none⟩ = some (.pointer (some ⟨sl k, 0, none⟩)) := (b.cell k).trans (h1 k hk)
  have HP := Lib.hid hput
  have hE' : (E == 0) = false := by rw [beq_eq_false_iff_ne]; exact hE
  clear h1 h2 h3 h4 hput b h
  go_enter Try.func66, Try.ntmps66
  go_wp2_with fail
  refine (lvslot_t v k w).mono ?_
  rintro e w1 ⟨rfl, rfl⟩
  rw [if_pos (by omega)]
  go_wp2_with fail
  refine HP.out.mono ?_
  rintro e w1 ⟨rfl, k1⟩
  go_wp2_with fail
  go_ret
  exact ⟨rfl, k1⟩
theorem LvB_t.outw {s : LS} {v : Nat} {sl : Nat → Nat} {W W' : World} (h : LvB_t s v sl W) {k x u' : Nat} {c : Array Value} {u : Nat} (hk : k < 64) (hm : x ∈ s.sq (sl k)) (hnd : (s.sq (sl k)).Nodup) (b : Blk W' v c 126) (h1 : ∀ k, k < 64 → c[k]? = some (.pointer (some ⟨sl k, 0, none⟩))) (h2 : c[64]? = some (.int .u64 u')) (h3 : c[65]? = some (.int .i64 ((tot fun k => (s.sq (sl k)).length) - 1)))
    (hu : UsedOk u (fun k => s.sq (sl k))) (h9 : (s.sq (sl k)).erase x = [] ∧ u' = woN u k ∨ (s.sq (sl k)).erase x ≠ [] ∧ u' = u) : LvB_t (s.out (sl k) x) v sl W' := by
  have hsq : ∀ j, j < 64 → j ≠ k → (s.out (sl k) x).sq (sl j) = s.sq (sl j) := fun j hj e => upd_ne _ _ (fun e9 => e (h.inj _ _ hj hk e9))
  have hsk : (s.out (sl k) x).sq (sl k) = (s.sq (sl k)).erase x := upd_same _ _ _
  have ht := tot_one (f := fun j => ((s.out (sl k) x).sq (sl j)).length) (g := fun j => (s.sq (sl j)).length) hk (fun j hj e => by rw [hsq j hj e])
  simp only [hsk, List.length_erase_of_mem hm] at ht
  have hpos : 0 < (s.sq (sl k)).length := List.length_pos_of_mem hm
  have hle : (s.sq (sl k)).length ≤ tot (fun k => (s.sq (sl k)).length) := le_tot (f := fun k => (s.sq (sl k)).length) hk
  refine ⟨h.kv, ⟨c, u', b, h1, h2, ?_, ?_⟩, h.kl, h.inj⟩
  · rw [h3, show ((tot fun k_1 => ((s.out (sl k) x).sq (sl k_1)).length : Nat) : Int) = ((tot fun k => (s.sq (sl k)).length : Nat) : Int) - 1 by omega]
  · rcases h9 with ⟨h9, rfl⟩ | ⟨h9, rfl⟩
    · exact hu.out hk (by rw [hsk]; exact h9) hsq
    · refine hu.same fun j hj => ?_
      by_cases e : j = k
      · subst e
        rw [hsk]
        exact ⟨fun _ => h9, fun _ e => by rw [e] at hm; cases hm⟩
      · rw [hsq j hj e]
set_option maxHeartbeats 1000000 in
theorem lvrem_t (s : LS) (v : Nat) (sl : Nat → Nat) (k x : Nat) (w : World) (h : LW_t s w) (b : LvB_t s v sl w) (hk : k < 64) (hm : x ∈ s.sq (sl k)) (hbig : tot (fun k => (s.sq (sl k)).length) < 1000000) :
    Calls Try.prog 66 #[.pointer (some ⟨v, 0, none⟩), .int .i64 (k : Int), .pointer (some ⟨x, 0, none⟩)] w fun e w' => e = .returned (.int .i64 0) ∧ Kept (fun y => s.kd y = 1 ∨ s.kd y = 2 ∨ y = v) w w' ∧ LW_t (s.out (sl k) x) w' ∧ LvB_t (s.out (sl k) x) v sl w' := by
  have hle : (s.sq (sl k)).length ≤ tot (fun k => (s.sq (sl k)).length) := le_tot (f := fun k => (s.sq (sl k)).length) hk
  have hpos : 0 < (s.sq (sl k)).length := List.length_pos_of_mem hm
  have hx := (h.inv.mem (sl k) x (b.kl k hk) hm).1
  obtain ⟨c, u, bv, h1, h2, h3, h4⟩ := b.blk
  have c1 : w.cell? ⟨v, k, none⟩ = some (.pointer (some ⟨sl k, 0, none⟩)) := (bv.cell k).trans (h1 k hk)
  have hsz : 65 < c.size := by obtain ⟨h9, _⟩ := Array.getElem?_eq_some_iff.1 h3; exact h9
  have HL := Lib.hid h
  have HB := Lib.hid b
  have HC := Lib.hid h1
  have HU := Lib.hid h4
  have HM := Lib.hid hm
  clear h b h1 h4 hm
  go_enter Try.func66, Try.ntmps66
  go_wp2_with fail
  refine (lvslot_t v k w).mono ?_
  rintro e w1 ⟨rfl, rfl⟩
  rw [if_pos (by omega)]
  go_wp2_with fail
  refine (lunlink_t s w HL.out (sl k) x (HB.out.kl k hk) hx HM.out (by omega)).mono ?_
  rintro e w1 ⟨rfl, hw1, k1⟩
  have bv1 := bv.kept k1 (by rw [HB.out.kv]; omega)
  have d2 : w1.cell? ⟨v, 65, none⟩ = some (.int .i64 (tot fun k => (s.sq (sl k)).length)) := (bv1.cell 65).trans h3
  have f2 := bv1.free 65
  obtain ⟨N, hN⟩ : ∃ N : Nat, N = tot fun k => (s.sq (sl k)).length := ⟨_, rfl⟩
  rw [← hN] at d2 hle hbig
  have bv2 := bv1.set 65 (.int .i64 ((N : Int) - 1))
  have e3 : (c.setIfInBounds 65 (.int .i64 ((N : Int) - 1)))[64]? = some (.int .u64 u) := by rw [Array.getElem?_setIfInBounds_ne (by omega)]; exact h2
  have d3 : (w1.setCell ⟨v, 65, none⟩ (.int .i64 ((N : Int) - 1))).cell? ⟨v, 64, none⟩ = some (.int .u64 u) := (bv2.cell 64).trans e3
  have e1 : ∀ j, j < 64 → (c.setIfInBounds 65 (.int .i64 ((N : Int) - 1)))[j]? = some (.pointer (some ⟨sl j, 0, none⟩)) := fun j hj => by rw [Array.getElem?_setIfInBounds_ne (by omega)]; exact HC.out j hj
  have d1 : (w1.setCell ⟨v, 65, none⟩ (.int .i64 ((N : Int) - 1))).cell? ⟨v, k, none⟩ = some (.pointer (some ⟨sl k, 0, none⟩)) := (bv2.cell k).trans (e1 k hk)
  have e5 : (c.setIfInBounds 65 (.int .i64 ((N : Int) - 1)))[65]? = some (.int .i64 ((N : Int) - 1)) := by rw [Array.getElem?_setIfInBounds_self_of_lt (by omega)]
  have f3 := bv2.free 64
  have k2 : Kept (fun y => y = v) w1 (w1.setCell ⟨v, 65, none⟩ (.int .i64 ((N : Int) - 1))) := Kept.setCell (S := fun y => y = v) (Kept.refl _ _) (fun _ => rfl) _
  have hw2 := hw1.kept3 k2 (fun y hy e => by
      have hy' : s.kd y = 1 ∨ s.kd y = 2 ∨ s.kd y = 3 := hy
      rw [e, HB.out.kv] at hy'; omega)
  have kk := (k1.mono (T := fun y => s.kd y = 1 ∨ s.kd y = 2 ∨ y = v) (fun y _ h => by omega)).step k2 (fun y _ h => .inr (.inr h))
  have KK := Lib.hid kk
  have H2 := Lib.hid hw2
  have E1 := Lib.hid e1
  have E3 := Lib.hid e3
  have E5 := Lib.hid e5
  have HN := Lib.hid hN
  have hu := HU.out.1
  have hnd := Lib.hid (HL.out.inv.nodup (sl k) (HB.out.kl k hk))
  clear bv c1 hw1 k1 k2 hw2 kk e1 e3 e5 hN bv1
  go_wp2_with fail
  generalize hw3 : w1.setCell ⟨v, 65, none⟩ (.int .i64 ((N : Int) - 1)) = w3 at *
  refine (llen_t _ _ H2.out (sl k) (HB.out.kl k hk)).mono ?_
  rintro e w4 ⟨rfl, rfl⟩
  rw [show (s.out (sl k) x).sq (sl k) = (s.sq (sl k)).erase x from upd_same _ _ _]
  clear hw3
  by_cases he : (s.sq (sl k)).erase x = []
  · rw [he]
    go_wp2_with fail
    refine (without_any u hu k _).mono ?_
    rintro e w5 ⟨rfl, rfl⟩
    go_wp2_with fail
    go_ret
    have k5 : Kept (fun y => y = v) w3 (w3.setCell ⟨v, 64, none⟩ (.int .u64 (woN u k))) := Kept.setCell (S := fun y => y = v) (Kept.refl _ _) (fun _ => rfl) _
    refine ⟨rfl, KK.out.step k5 (fun y _ h => .inr (.inr h)), H2.out.kept3 k5 (fun y hy e => by
      have hy' : s.kd y = 1 ∨ s.kd y = 2 ∨ s.kd y = 3 := hy
      rw [e, HB.out.kv] at hy'; omega), HB.out.outw hk HM.out hnd.out (bv2.set 64 _) (fun j hj => ?_) ?_ ?_ HU.out (.inl ⟨he, rfl⟩)⟩
    · rw [Array.getElem?_setIfInBounds_ne (by omega)]; exact E1.out j hj
    · rw [Array.getElem?_setIfInBounds_self_of_lt (by simpa using by omega)]
    · rw [Array.getElem?_setIfInBounds_ne (by omega), ← HN.out]; exact E5.out
  · have hlen : ((((s.sq (sl k)).erase x).length : Int) == 0) = false := by
      rw [beq_eq_false_iff_ne]
      have := List.length_pos_iff.2 he
      omega
    go_wp2_with fail
    go_ret
    exact ⟨rfl, KK.out, H2.out, HB.out.outw hk HM.out hnd.out bv2 E1.out E3.out (by rw [← HN.out]; exact E5.out) HU.out (.inr ⟨he, rfl⟩)⟩
theorem lvtake_nil_t (k : Int) (w : World) : Calls Try.prog 51 #[.pointer none, .int .i64 k] w fun e w' => e = .returned (.slice none 0 0) ∧ w = w' := by
  go_enter Try.func51, Try.ntmps51
  go_wp2_with fail
  refine (lvslot_nil_t k w).mono ?_
  rintro e w1 ⟨rfl, rfl⟩
  go_wp2_with fail
  go_ret
  exact ⟨rfl, rfl⟩
theorem lvtake_range_t (v : Nat) (k : Int) (w : World) (hk : ¬ (0 ≤ k ∧ k < 64)) : Calls Try.prog 51 #[.pointer (some ⟨v, 0, none⟩), .int .i64 k] w fun e w' => e = .returned (.slice none 0 0) ∧ w = w' := by
  go_enter Try.func51, Try.ntmps51
  go_wp2_with fail
  refine (lvslot_t v k w).mono ?_
  rintro e w1 ⟨rfl, rfl⟩
  rw [if_neg hk]
  go_wp2_with fail
  go_ret
  exact ⟨rfl, rfl⟩
theorem infoNode_t : (Try.prog.info? 103).map (fun i => (i.zero, i.size, i.bytes)) = some (some (.pointer none), 1, 8) := by kernel_rfl
set_option maxHeartbeats 1000000 in
theorem lvtake_t (s : LS) (v : Nat) (sl : Nat → Nat) (k : Nat) (w : World) (h : LW_t s w) (b : LvB_t s v sl w) (hk : k < 64) (hbig : tot (fun k => (s.sq (sl k)).length) < 100000) :
    Calls Try.prog 51 #[.pointer (some ⟨v, 0, none⟩), .int .i64 (k : Int)] w fun e w' => (∃ r, e = .returned r ∧ w'.ownsRow w.heap.size 103 1 r (s.sq (sl k)).length (ptrs (s.sq (sl k)))) ∧ Kept (fun y => s.kd y = 1 ∨ s.kd y = 2 ∨ y = v) w w' ∧
      ∃ s', LW_t s' w' ∧ LvB_t s' v sl w' ∧ s'.kd = s.kd ∧ s'.sq = upd s.sq (sl k) [] ∧ LV s' = LV s := by
  obtain ⟨i0, hi, hz0, hz1, hz2⟩ := info_parts infoNode_t
  have hle : (s.sq (sl k)).length ≤ tot (fun k => (s.sq (sl k)).length) := le_tot (f := fun k => (s.sq (sl k)).length) hk
  obtain ⟨c, u, bv, h1, h2, h3, h4⟩ := b.blk
  have c1 : w.cell? ⟨v, k, none⟩ = some (.pointer (some ⟨sl k, 0, none⟩)) := (bv.cell k).trans (h1 k hk)
  have HL := Lib.hid h
  have HB := Lib.hid b
  generalize hxs : s.sq (sl k) = xs at *
  have HX := Lib.hid hxs
  clear h b h1 h2 h3 h4 hxs
  go_enter Try.func51, Try.ntmps51
  go_wp2_with fail
  refine (lvslot_t v k w).mono ?_
  rintro e w1 ⟨rfl, rfl⟩
  rw [if_pos (by omega)]
  go_wp2_with fail
  refine (lfirst_t s w HL.out (sl k) (HB.out.kl k hk)).mono ?_
  rintro e w1 ⟨rfl, rfl⟩
  rw [HX.out]
  go_wp2_with fail
  go_loopw [5, 6] (fun ov nv wr => ∃ (pre rest : List Nat) (s' : LS), xs = pre ++ rest ∧ nv = ptrO (hd rest none) ∧ wr.ownsRow w.heap.size 103 1 ov pre.length (ptrs pre) ∧ LW_t s' wr ∧ LvB_t s' v sl wr ∧ s'.kd = s.kd ∧ s'.sq = upd s.sq (sl k) rest ∧ LV s' = LV s ∧ Kept (fun y => s.kd y = 1 ∨ s.kd y = 2 ∨ y = v) w wr) (fun ov _ _ => xs.length - lenOf ov)
  case atStart => exact ⟨[], xs, s, rfl, rfl, World.ownsRow_nil _ _ _ _, HL.out, HB.out, rfl, by rw [← HX.out, upd_id], rfl, Kept.refl _ _⟩
  case round =>
    obtain ⟨pre, rest, s', hx, rfl, ho, hl, hb, hkd, hsq, hv, hkk⟩ := hrel
    have HO := Lib.hid ho
    have HL' := Lib.hid hl
    have HB' := Lib.hid hb
    have HF := Lib.hid (show s'.kd = s.kd ∧ s'.sq = upd s.sq (sl k) rest ∧ LV s' = LV s from ⟨hkd, hsq, hv⟩)
    have HK := Lib.hid hkk
    have HXX := Lib.hid hx
    have hz := hkk.size
    have hlen : pre.length + rest.length = xs.length := by rw [hx, List.length_append]
    clear ho hl hb hkd hsq hv hkk hx
    cases rest with
    | nil =>
      rw [show ptrO (hd [] none) = .pointer none from rfl]
      go_wp2_with fail
      go_ret
      have e : pre = xs := by rw [HXX.out, List.append_nil]
      rw [← e]
      exact ⟨⟨_, rfl, HO.out⟩, HK.out, s', HL'.out, HB'.out, HF.out⟩
    | cons x rest =>
      rw [show ptrO (hd (x :: rest) none) = .pointer (some ⟨x, 0, none⟩) from rfl]
      have hsk : s'.sq (sl k) = x :: rest := by rw [HF.out.2.1, upd_same]
      have hm : x ∈ s'.sq (sl k) := by rw [hsk]; simp
      have ht : tot (fun j => (s'.sq (sl j)).length) ≤ tot (fun j => (s.sq (sl j)).length) := by
        have := tot_one (f := fun j => (s'.sq (sl j)).length) (g := fun j => (s.sq (sl j)).length) hk (fun j hj e => by rw [HF.out.2.1, upd_ne _ _ (fun e9 => e (HB.out.inj _ _ hj hk e9))])
        simp only [hsk, HX.out] at this
        simp only [List.length_cons] at hlen this
        omega
      have HM := Lib.hid hm
      have HS := Lib.hid hsk
      simp only [List.length_cons] at hlen
      clear hm hsk
      have hpl : pre.length ≤ 100000 := by omega
      go_wp2_with fail
      refine (lvrem_t s' v sl k x wr HL'.out HB'.out hk HM.out (by omega)).mono ?_
      rintro e w2 ⟨rfl, k2, l2, b2⟩
      have HL2 := Lib.hid l2
      have HB2 := Lib.hid b2
      have kd2 : (s'.out (sl k) x).kd = s.kd := HF.out.1
      have k2' : Kept (fun y => s.kd y = 1 ∨ s.kd y = 2 ∨ y = v) wr w2 := k2.mono fun y _ h9 => by rw [HF.out.1] at h9; exact h9
      have hlow : ∀ y, (s.kd y = 1 ∨ s.kd y = 2 ∨ y = v) → y < w.heap.size := fun y h9 => by
        rcases Nat.lt_or_ge y w.heap.size with h8 | h8
        · exact h8
        · have h7 := HL.out.fresh y h8
          have := HB.out.kv
          rcases h9 with h9 | h9 | h9
          · omega
          · omega
          · rw [h9] at h7; omega
      have ho2 := owns_kept HO.out k2' (fun b hb _ h9 => by have := hlow b h9; omega)
      have hoa : (w2.alloc (.cells #[.pointer (some ⟨x, 0, none⟩)] 103)).ownsRow w.heap.size 103 1 u5 pre.length (ptrs pre) := owns_kept2 ho2 ((Kept.refl (fun _ => False) _).alloc _) (fun _ _ f => f)
      have hz2' := k2.size
      have hbz : w.heap.size ≤ (w2.alloc (.cells #[.pointer (some ⟨x, 0, none⟩)] 103)).heap.size := by simp; omega
      have K2 := Lib.hid (HK.out.step k2' (fun i _ h => h))
      have HLo := Lib.hid hlow
      have hdv := (HL'.out.inv.nodup (sl k) (by rw [HF.out.1]; exact HB.out.kl k hk))
      have HND := Lib.hid hdv
      clear k2 k2' l2 b2 kd2 hlow ho2 hdv
      go_wp2_with (first | (at_builtin; refine wpList_append _ rfl _ _ 109 rfl w.heap.size 103 i0 (.pointer none) 1 8 Try.underlying109 hi hz0 hz1 hz2 rfl (by decide) _ _ _ rfl (hoa) ⟨w2.heap.size, 0, none⟩ 1 1 [.pointer (some ⟨x, 0, none⟩)] rfl rfl (by intro j u hj; match j, hj with | 0, hj => simp at hj; subst hj; first | (simp [Addr.add]; done) | exact (Blk.newAt _ _ _ (by simp)).cell 0) (by intro u hu; simp at hu; subst hu; rfl) (by unfold maxLen; omega) (by omega) (by first | omega | (simp; omega) | simp) ?_) | fail)
      intro ov w3 hap
      have k3 : Kept (fun y => w.heap.size ≤ y) w2 w3 := hap.kept (Kept.refl _ w2) (fun b _ hb => owns_block hoa b hb)
      have hnk : ∀ y, s.kd y ≠ 0 → ¬ w.heap.size ≤ y := fun y hy h9 => hy (HL.out.fresh y h9)
      have hl3 := HL2.out.kept k3 (fun y hy => hnk y (by have h9 : s'.kd y ≠ 0 := hy; rwa [HF.out.1] at h9))
      have hb3 := HB2.out.carry (s' := s'.out (sl k) x) k3 (hnk v (by rw [HB.out.kv]; omega)) rfl (fun _ _ => rfl) (fun _ _ => rfl)
      have R3 := Lib.hid hap.owns
      have KK3 := Lib.hid (show Kept (fun y => s.kd y = 1 ∨ s.kd y = 2 ∨ y = v) w w3 from K2.out.step k3 (fun i hi h => absurd h (by omega)))
      have HL3 := Lib.hid hl3
      have HB3 := Lib.hid hb3
      clear hap hoa k3 hnk hl3 hb3
      obtain ⟨c', u', bv', g1, g2, g3, g4⟩ := HB3.out.blk
      have c3 : w3.cell? ⟨v, k, none⟩ = some (.pointer (some ⟨sl k, 0, none⟩)) := (bv'.cell k).trans (g1 k hk)
      have hq3 : (s'.out (sl k) x).sq (sl k) = rest := by
        show upd s'.sq (sl k) ((s'.sq (sl k)).erase x) (sl k) = _
        rw [upd_same, HS.out, List.erase_cons_head]
      have HQ3 := Lib.hid hq3
      clear bv' g1 g2 g3 g4 hq3
      go_wp2_with fail
      refine (lfirst_t _ _ HL3.out (sl k) (by show s'.kd (sl k) = 1; rw [HF.out.1]; exact HB.out.kl k hk)).mono ?_
      rintro e w4 ⟨rfl, rfl⟩
      rw [HQ3.out]
      go_wp2_with fail
      go_roundw
      case rel =>
        refine ⟨pre ++ [x], rest, s'.out (sl k) x, by rw [HXX.out, List.append_assoc]; rfl, rfl, ?_, HL3.out, HB3.out, HF.out.1, ?_, by rw [LS.out_val]; exact HF.out.2.2, KK3.out⟩
        · rw [List.length_append, List.length_singleton, show ptrs (pre ++ [x]) = ptrs pre ++ [.pointer (some ⟨x, 0, none⟩)] by simp [ptrs]]
          exact R3.out
        · show upd s'.sq (sl k) ((s'.sq (sl k)).erase x) = _
          rw [HS.out, List.erase_cons_head, HF.out.2.1]
          funext y
          by_cases e : y = sl k
          · rw [e, upd_same, upd_same]
          · rw [upd_ne _ _ e, upd_ne _ _ e, upd_ne _ _ e]
      case measure =>
        obtain ⟨a1, q1, e1⟩ := owns_slice HO.out
        obtain ⟨a2, q2, e2⟩ := owns_slice R3.out
        simp only [e1, e2, lenOf]
        omega

end Go.Proofs.Ythamdbfilpegjaa
