/-
  What stands here: all slots of a word and the least one from one on, by the document; all slots by the program. Under the condition that the library's table is as its initialiser lays it.
-/
import Derived.Test.YtpgkfmfdkbhljaaDoorBitsLeast
import Derived.Test.YtpgkfmfdkbhljaaDoorBitsFns
namespace Go.Proofs.YtpgkfmfdkbhljaaDoor
set_option linter.unusedVariables false
set_option linter.unusedSimpArgs false
open Go.RowKit Go.Proofs
attribute [local go_sem] Oper.semAt_some

theorem infoInt : (Tryd.prog.info? 3).map (fun i => (i.zero, i.size, i.bytes)) = some (some (.int .i64 0), 1, 8) := by kernel_rfl
def upto (m k : Nat) : List Nat := (List.range k).filter fun i => m.testBit i
theorem upto_succ (m k : Nat) : upto m (k + 1) = if m.testBit k = true then upto m k ++ [k] else upto m k := by
  unfold upto
  rw [List.range_succ, List.filter_append]
  by_cases h : m.testBit k = true
  · rw [if_pos h]; simp [h]
  · rw [if_neg h]; simp [h]
theorem upto_len (m k : Nat) : (upto m k).length ≤ k := by unfold upto; exact Nat.le_trans (List.length_filter_le _ _) (by simp)
abbrev ints (l : List Nat) : List Int := l.map fun (i : Nat) => (i : Int)
abbrev vals (l : List Nat) : List Value := l.map fun (i : Nat) => Value.int .i64 i
theorem vals_ints (l : List Nat) : (ints l).map (Value.int .i64) = vals l := by simp

set_option maxHeartbeats 1000000 in
theorem refall_any (m : Nat) (hm : m < 18446744073709551616) (w : World) :
    Calls Tryd.prog 16 #[.int .u64 m] w fun e w' => (∃ v, e = .returned v ∧ IRow (w.heap.size ≤ ·) w' v (ints (slots m))) ∧ Below w.heap.size w w' := by
  obtain ⟨i0, hi, hz0, hz1, hz2⟩ := info_parts infoInt
  go_enter Tryd.func16, Tryd.ntmps16
  go_wp2
  go_loopw [3, 4] (fun v i wr => ∃ k : Nat, k ≤ 64 ∧ i = .int .i64 k ∧ wr.ownsRow w.heap.size 3 1 v (upto m k).length (vals (upto m k)) ∧ Below w.heap.size w wr) (fun _ i _ => 64 - (intOf i).toNat)
  case atStart => exact ⟨0, by omega, rfl, World.ownsRow_nil _ _ _ _, Below.refl _ _⟩
  case round =>
    obtain ⟨k, hk, rfl, hown, hbel⟩ := hrel
    have hsz := hbel.size
    by_cases h : k < 64
    · have hh := refhas_any m hm k wr
      have hb : hasB m k = m.testBit k := by unfold hasB; rw [show decide ((0 : Int) ≤ k ∧ (k : Int) < 64) = true by simp; omega, Bool.true_and, Int.toNat_natCast]
      rw [hb] at hh
      have hlen := upto_len m k
      have hsu := upto_succ m k
      obtain ⟨t, ht⟩ : ∃ t, t = m.testBit k := ⟨_, rfl⟩
      rw [← ht] at hh hsu
      obtain ⟨l, hl⟩ : ∃ l, l = upto m k := ⟨_, rfl⟩
      rw [← hl] at hown hlen hsu
      have HS := Lib.hid hsu
      clear ht hl hb hsu
      cases t
      · go_wp2_with fail
        refine hh.mono ?_
        rintro e w1 ⟨rfl, rfl⟩
        go_wp2_with fail
        go_roundw
        case rel => exact ⟨k + 1, by omega, by go_num, by have h9 : upto m (k + 1) = l := (by simpa using HS.out); rw [h9]; exact hown, hbel⟩
        case measure => simp [intOf]; omega
      · go_wp2_with fail
        refine hh.mono ?_
        rintro e w1 ⟨rfl, rfl⟩
        go_wp2_with (first | (at_builtin; refine wpList_append_own _ rfl _ _ 31 rfl w.heap.size 3 i0 (.int .i64 0) 1 8 Tryd.underlying31 hi hz0 hz1 hz2 rfl (by decide) _ _ _ rfl (hown.alloc _) ⟨wr.heap.size, 0, none⟩ 1 1 [.int .i64 k] rfl rfl (by intro j u hj; match j, hj with | 0, hj => simp at hj; subst hj; first | (simp [Addr.add]; done) | exact (Blk.newAt _ _ _ (by simp)).cell 0) (by intro u hu; simp at hu; subst hu; rfl) (by unfold maxLen; omega) (by omega) (by first | omega | (simp; omega) | simp) ?_) | fail)
        intro v' w1 hown' hgrow _
        go_wp2
        go_roundw
        case rel => exact ⟨k + 1, by omega, by go_num, by have h9 : upto m (k + 1) = l ++ [k] := (by simpa using HS.out); rw [h9, List.length_append]; simpa [vals] using hown', below_append hbel hown hgrow (Nat.le_refl _) (Nat.le_refl _)⟩
        case measure => simp [intOf]; omega
    · obtain rfl : k = 64 := by omega
      go_wp2
      go_ret
      have hr := VRow.of_owns hown
      rw [← vals_ints] at hr
      exact ⟨⟨_, rfl, hr⟩, hbel⟩

theorem fromL_at {l : List Nat} {k : Nat} {s : Int} (hk : k < l.length) (h : ∀ j, j < k → ¬ s ≤ (l.getD j 0 : Int)) (hx : s ≤ (l.getD k 0 : Int)) : fromL l s = (l.getD k 0 : Int) := by
  have e : l.getD k 0 = l[k] := by rw [List.getD_eq_getElem?_getD, List.getElem?_eq_getElem hk]; rfl
  rw [e] at hx ⊢
  refine fromL_some (p := l.take k) (x := l[k]) ⟨l.drop (k + 1), ?_⟩ (fun y hy => ?_) hx
  · rw [← List.take_succ_eq_append_getElem hk, List.take_append_drop]
  · obtain ⟨j, hj, rfl⟩ := List.getElem_of_mem hy
    rw [List.length_take] at hj
    have := h j (by omega)
    rw [List.getD_eq_getElem?_getD, List.getElem?_eq_getElem (by omega)] at this
    rw [List.getElem_take]; exact this
set_option maxHeartbeats 1000000 in
theorem reffrom_any (m : Nat) (hm : m < 18446744073709551616) (s : Int) (w : World) :
    Calls Tryd.prog 9 #[.int .u64 m, .int .i64 s] w fun e w' => e = .returned (.int .i64 (fromL (slots m) s)) ∧ Below w.heap.size w w' := by
  obtain ⟨z, hz⟩ : ∃ z, z = fromL (slots m) s := ⟨_, rfl⟩
  rw [← hz]
  have HZ := Lib.hid hz
  clear hz
  go_enter Tryd.func9, Tryd.ntmps9
  go_wp2_with fail
  refine (refall_any m hm w).mono ?_
  rintro e w1 ⟨⟨v, rfl, hr⟩, k1⟩
  obtain ⟨l, hl⟩ : ∃ l, l = slots m := ⟨_, rfl⟩
  rw [← hl] at hr HZ
  have h64 : l.length ≤ 64 := by rw [hl]; exact upto_len m 64
  clear hl
  obtain ⟨a, cap, rfl⟩ := VRow.len hr
  rw [List.length_map, List.length_map] at hr ⊢
  obtain ⟨-, -, hc⟩ := hr.cells
  have HC := Lib.hid hc
  obtain ⟨L, hL⟩ : ∃ L, L = l.length := ⟨_, rfl⟩
  rw [← hL] at h64 ⊢
  have HL := Lib.hid hL
  clear hr hc hL
  go_wp2_with fail
  go_loop [6] (fun i => ∃ k : Nat, k ≤ L ∧ i = .int .i64 k ∧ ∀ j, j < k → ¬ s ≤ (l.getD j 0 : Int)) (fun i => L - (intOf i).toNat)
  case atStart => exact ⟨0, by omega, rfl, by omega⟩
  case round =>
    obtain ⟨k, hk, rfl, hall⟩ := hrel
    have HA := Lib.hid hall
    clear hall
    by_cases hlt : k < L
    · obtain ⟨b, o, rfl, hb, hq, hcc⟩ := HC.out (by rw [List.length_map, ← HL.out]; omega)
      have hx := hcc k (by rw [List.length_map, ← HL.out]; omega)
      have e1 : (ints l).getD k 0 = (l.getD k 0 : Int) := by
        rw [List.getD_eq_getElem?_getD, List.getElem?_map, List.getD_eq_getElem?_getD, List.getElem?_eq_getElem (by rw [← HL.out]; exact hlt)]; rfl
      rw [e1] at hx
      obtain ⟨y, hy⟩ : ∃ y, y = (l.getD k 0 : Int) := ⟨_, rfl⟩
      rw [← hy] at hx
      have HY := Lib.hid hy
      clear hcc e1 hy
      by_cases hge : s ≤ y
      · go_wp2
        go_ret
        exact ⟨ret_int (by rw [HZ.out, HY.out]; exact (fromL_at (by rw [← HL.out]; exact hlt) (fun j hj => by have := HA.out j hj; omega) (by rw [← HY.out]; exact hge)).symm), k1⟩
      · go_wp2
        go_round
        case rel => exact ⟨k + 1, by omega, by go_num, fun j hj => (by rcases Nat.lt_or_ge j k with h | h; (have := HA.out j h; omega); obtain rfl : j = k := (by omega); rw [← HY.out]; exact hge)⟩
        case measure => simp [intOf]; omega
    · go_wp2
      go_ret
      refine ⟨ret_int ?_, k1⟩
      rw [HZ.out]
      refine (fromL_none fun y hy => ?_).symm
      obtain ⟨j, hj, rfl⟩ := List.getElem_of_mem hy
      have := HA.out j (by have := HL.out; omega)
      rw [List.getD_eq_getElem?_getD, List.getElem?_eq_getElem hj] at this
      simp only [Option.getD_some] at this
      omega
end Go.Proofs.YtpgkfmfdkbhljaaDoor
