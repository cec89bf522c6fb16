/-
  What stands here: the walk of BitsSteps. Under the condition that the library's table is as its initialiser lays it.
-/
import Derived.Test.YtpgkfmfdkbhljaaDoorBitsAlive
import Derived.Test.YtpgkfmfdkbhljaaDoorBitsColl
import Derived.Test.YtpgkfmfdkbhljaaDoorTextLast
namespace Go.Proofs.YtpgkfmfdkbhljaaDoor
set_option linter.unusedVariables false
set_option linter.unusedSimpArgs false
open Go.RowKit Go.Proofs

/-- the k-th slot; -1: none -/
def nth (l : List Nat) (k : Nat) : Int := match l[k]? with
  | some x => x
  | none => -1
theorem nth_at {l : List Nat} {k : Nat} (h : k < l.length) : nth l k = (l.getD k 0 : Int) := by
  unfold nth; rw [List.getD_eq_getElem?_getD, List.getElem?_eq_getElem h]; rfl
theorem nth_end {l : List Nat} {k : Nat} (h : l.length ≤ k) : nth l k = -1 := by
  unfold nth; rw [List.getElem?_eq_none h]
theorem lt_at {l : List Nat} (hs : l.Pairwise (· < ·)) {j k : Nat} (h : j < k) (hk : k < l.length) : l.getD j 0 < l.getD k 0 := by
  have := List.pairwise_iff_getElem.1 hs j k (by omega) hk h
  rw [List.getD_eq_getElem?_getD, List.getD_eq_getElem?_getD, List.getElem?_eq_getElem hk, List.getElem?_eq_getElem (by omega)]
  exact this
theorem from_0 (l : List Nat) : fromL l 0 = nth l 0 := by
  by_cases h : 0 < l.length
  · rw [nth_at h]; exact fromL_at h (by omega) (by omega)
  · rw [nth_end (by omega)]; exact fromL_none fun y hy => by have := List.length_pos_of_mem hy; omega
theorem from_same {l : List Nat} (hs : l.Pairwise (· < ·)) {k : Nat} (hk : k < l.length) : fromL l (l.getD k 0 : Int) = (l.getD k 0 : Int) :=
  fromL_at hk (fun j hj => by have := lt_at hs hj hk; omega) (by omega)
theorem from_next {l : List Nat} (hs : l.Pairwise (· < ·)) {k : Nat} (hk : k < l.length) : fromL l ((l.getD k 0 : Int) + 1) = nth l (k + 1) := by
  by_cases h : k + 1 < l.length
  · rw [nth_at h]
    refine fromL_at h (fun j hj => ?_) (by have := lt_at hs (show k < k + 1 by omega) h; omega)
    rcases Nat.lt_or_ge j k with h1 | h1
    · have := lt_at hs h1 hk; omega
    · obtain rfl : j = k := by omega
      omega
  · rw [nth_end (by omega)]
    refine fromL_none fun y hy => ?_
    obtain ⟨j, hj, rfl⟩ := List.getElem_of_mem hy
    have e : l.getD j 0 = l[j] := by rw [List.getD_eq_getElem?_getD, List.getElem?_eq_getElem hj]; rfl
    rcases Nat.lt_or_ge j k with h1 | h1
    · have := lt_at hs h1 hk; omega
    · obtain rfl : j = k := by omega
      omega

set_option maxHeartbeats 2000000 in
theorem bitsSteps_walk (a0 : Int) (w : World) (w0 : (Lit.int .u64 a0).wf = true) (hT : Tab w) :
    Calls Tryd.prog 5 #[.int .u64 a0] w fun e w' => e = .returned (.bool true) ∧ Below w.heap.size w w' := by
  have hb := bd_u64 w0
  obtain ⟨m, rfl⟩ : ∃ m : Nat, a0 = m := ⟨a0.toNat, by omega⟩
  have hm : m < 18446744073709551616 := by omega
  have hpos := hT.lt
  clear w0 hb
  have st : ∀ (A B : World), Below w.heap.size w A → Below A.heap.size A B → Below w.heap.size w B := fun A B h k => h.trans (k.mono h.size)
  have hF := fun (s : Int) w => from_any m hm s w
  have hR := fun (s : Int) w => round_any m hm s w
  have hA := all_any m hm
  have hs := slots_sorted m
  have h64 : (slots m).length ≤ 64 := upto_len m 64
  have hlt : ∀ k, k < (slots m).length → (slots m).getD k 0 < 64 ∧ hasB m ((slots m).getD k 0 : Nat) = true := fun k hk => by
    have hmem : (slots m).getD k 0 ∈ slots m := by rw [List.getD_eq_getElem?_getD, List.getElem?_eq_getElem hk]; exact List.getElem_mem _
    obtain ⟨h1, h2⟩ := mem_slots.1 hmem
    refine ⟨h1, ?_⟩
    unfold hasB
    rw [Int.toNat_natCast, h2, Bool.and_true]; exact decide_eq_true ⟨by omega, by omega⟩
  obtain ⟨l, hl⟩ : ∃ l, l = slots m := ⟨_, rfl⟩
  unfold roundL at hR
  rw [← hl] at hs h64 hlt hA
  simp only [← hl] at hF hR
  clear hl
  have h0 := from_0 l
  obtain ⟨L, hL⟩ : ∃ L, L = l.length := ⟨_, rfl⟩
  have HL := Lib.hid hL
  have HLT := Lib.hid hlt
  have HS := Lib.hid hs
  have HR := Lib.hid hR
  have HF := Lib.hid hF
  rw [← hL] at h64
  clear hL hlt hs hR hF
  have HF0 := HF.out 0
  rw [h0] at HF0
  obtain ⟨z0, hz0⟩ : ∃ z, z = nth l 0 := ⟨_, rfl⟩
  rw [← hz0] at HF0
  have HZ0 := Lib.hid hz0
  have H0 := Lib.hid h0
  clear h0 hz0
  go_enter Tryd.func5, Tryd.ntmps5
  go_wp2_with fail
  refine (alive_any w hT).mono ?_
  rintro e w1 ⟨rfl, k1⟩
  go_wp2_with fail
  refine (hA w1 (hT.below k1 hpos)).mono ?_
  rintro e w2 ⟨⟨v, rfl, hr⟩, k2⟩
  have k2' := st _ _ k1 k2
  obtain ⟨a, cap, rfl⟩ := VRow.len hr
  rw [List.length_map, List.length_map, ← HL.out] at hr ⊢
  obtain ⟨-, -, hc⟩ := hr.cells
  rw [List.length_map, ← HL.out] at hc
  have HC := Lib.hid hc
  clear hr hc
  go_wp2_with fail
  refine (HF0 w2 (hT.below k2' hpos)).mono ?_
  rintro e w3 ⟨rfl, k3⟩
  have k3' := st _ _ k2' k3
  go_wp2_with fail
  go_loopw [5, 6] (fun at_ i wr => ∃ k : Nat, k ≤ L ∧ i = .int .i64 k ∧ at_ = .int .i64 (nth l k) ∧ Below w.heap.size w wr ∧ Below w2.heap.size w2 wr) (fun _ i _ => L - (intOf i).toNat)
  case atStart => exact ⟨0, by omega, rfl, by rw [HZ0.out], k3', k3⟩
  case round =>
    obtain ⟨k, hk, rfl, rfl, hbel, hbel2⟩ := hrel
    have hTr := hT.below hbel hpos
    by_cases hlk : k < L
    · obtain ⟨b, o, rfl, hb, hq, hcc⟩ := HC.out (by omega)
      have c0 := hcc 0 (by omega)
      have ck := hcc k hlk
      have e0 : (ints l).getD 0 0 = nth l 0 := by rw [nth_at (by rw [← HL.out]; omega), List.getD_eq_getElem?_getD, List.getElem?_map, List.getD_eq_getElem?_getD, List.getElem?_eq_getElem (by rw [← HL.out]; omega)]; rfl
      have ek : (ints l).getD k 0 = nth l k := by rw [nth_at (by rw [← HL.out]; omega), List.getD_eq_getElem?_getD, List.getElem?_map, List.getD_eq_getElem?_getD, List.getElem?_eq_getElem (by rw [← HL.out]; omega)]; rfl
      rw [e0, ← HZ0.out] at c0
      rw [ek] at ck
      have hnk := nth_at (l := l) (k := k) (by rw [← HL.out]; exact hlk)
      obtain ⟨h63, hhas⟩ := HLT.out k (by rw [← HL.out]; exact hlk)
      have hsame := from_same HS.out (k := k) (by rw [← HL.out]; exact hlk)
      have hnext := from_next HS.out (k := k) (by rw [← HL.out]; exact hlk)
      rw [← hnk] at hhas hsame hnext
      have hn0 : 0 ≤ nth l k ∧ nth l k < 64 := by rw [hnk]; omega
      have hcm := has_any m hm (nth l k)
      rw [hhas] at hcm
      have hrm := HR.out (nth l k)
      simp only [hsame, if_pos hn0.1] at hrm
      have hfm := HF.out (nth l k + 1)
      have hrm2 := HR.out (nth l k + 1)
      simp only [hnext, H0.out, ← HZ0.out] at hrm2
      rw [hnext] at hfm
      have g0 := (hbel2.cell (p := ⟨b, o + 0, none⟩) hb).trans c0
      have gk := (hbel2.cell (p := ⟨b, o + k, none⟩) hb).trans ck
      obtain ⟨x, hx⟩ : ∃ x, x = nth l k := ⟨_, rfl⟩
      obtain ⟨y, hy⟩ : ∃ y, y = nth l (k + 1) := ⟨_, rfl⟩
      rw [← hx] at hcm hrm hfm hrm2 hn0 gk ck ⊢
      rw [← hy] at hfm hrm2
      obtain ⟨hn0a, hn0b⟩ := hn0
      have HY := Lib.hid hy
      have HRM := Lib.hid hrm
      have HFM := Lib.hid hfm
      have HRM2 := Lib.hid hrm2
      have HCM := Lib.hid hcm
      clear hcc e0 ek hnk h63 hhas hsame hnext hx hy hrm hfm hrm2 hcm
      go_wp2_with fail
      refine (HCM.out _).mono ?_
      rintro e w4 ⟨rfl, rfl⟩
      go_wp2_with fail
      refine (HRM.out _ hTr).mono ?_
      rintro e w5 ⟨rfl, k5⟩
      have k5' := st _ _ hbel k5
      have k52 := hbel2.trans (k5.mono hbel2.size)
      go_wp2_with fail
      refine (HFM.out _ (hT.below k5' hpos)).mono ?_
      rintro e w6 ⟨rfl, k6⟩
      have k6' := st _ _ k5' k6
      have k62 := k52.trans (k6.mono k52.size)
      have g0' := (k62.cell (p := ⟨b, o + 0, none⟩) hb).trans c0
      by_cases hneg : y < 0
      · have hrm3 := HRM2.out
        simp only [if_neg (show ¬ 0 ≤ y by omega)] at hrm3
        have HRM3 := Lib.hid hrm3
        clear hrm3
        go_wp2_with fail
        refine wp_region_text ([4], [9]) [b] (by kernel_rfl) (by kernel_rfl) (cellsB_cons (cells_of_cell g0') cellsB_nil) (by simp [segs, isEff, isLoad, askOps, asks, eqOrNe, isNil]; rfl) ?_
        refine segs_go stay_drew (by simp [isLoad]) ?_
        go_wp2_with fail
        refine (HRM3.out _ (hT.below k6'.drew hpos)).mono ?_
        rintro e w7 ⟨rfl, k7⟩
        have k7' := st _ _ k6'.drew k7
        have k72 := k62.drew.trans (k7.mono k62.size)
        have g0'' := (k72.cell (p := ⟨b, o + 0, none⟩) hb).trans c0
        have g0c : w7.cell? ⟨b, o, none⟩ = some (.int .i64 z0) := g0''
        have hst7 : StayB [b] w6 w7 := stay_drew.kept (kept_of_below k7) (fun x hx => by simp only [List.mem_singleton] at hx; subst hx; exact ⟨lt_of_cell g0', by have := lt_of_cell g0'; show ¬ w6.heap.size ≤ x; simp only at this; omega⟩)
        go_wp2_with fail
        refine segs_go hst7 (by simp [isLoad]) ?_
        go_wp2_with fail
        refine segs_load hst7 (fun _ => (by exact ⟨b, _, rfl, by simp⟩)) ?_
        go_wp2_with fail
        refine segs_nil ?_
        go_wp2_with fail
        go_roundw
        case rel => exact ⟨k + 1, by omega, by go_num, by rw [HY.out], k7', k72⟩
        case measure => simp [intOf]; omega
      · go_wp2_with fail
        refine wp_region_text ([4], [9]) [b] (by kernel_rfl) (by kernel_rfl) (cellsB_cons (cells_of_cell g0') cellsB_nil) (by simp [segs, isEff, isLoad, askOps, asks, eqOrNe, isNil]; rfl) ?_
        refine segs_go stay_drew (by simp [isLoad]) ?_
        go_wp2_with fail
        refine segs_go stay_drew (by simp [isLoad]) ?_
        go_wp2_with fail
        refine segs_load stay_drew (fun h => by simp [Region.wanted, go_sem] at h) ?_
        go_wp2_with fail
        refine segs_nil ?_
        go_wp2_with fail
        go_roundw
        case rel => exact ⟨k + 1, by omega, by go_num, by rw [HY.out], k6'.drew, k62.drew⟩
        case measure => simp [intOf]; omega
    · obtain rfl : k = L := by omega
      rw [nth_end (by rw [← HL.out]; exact Nat.le_refl _)]
      go_wp2_with fail
      go_ret
      exact ⟨rfl, hbel⟩
end Go.Proofs.YtpgkfmfdkbhljaaDoor
