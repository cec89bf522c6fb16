/-
  What stands here: the walk of RingAlone. Under no condition but that its arguments fit their types.
-/
import Derived.Test.YtegkijlgbkedmaaRingAlive
namespace Go.Proofs.Ytegkijlgbkedmaa
set_option linter.unusedVariables false
set_option linter.unusedSimpArgs false
open Go.RowKit Go.Proofs

/-- all that is taken is published -/
structure AloneR (room : Nat) (r : RS) : Prop where
  n : r.N = room
  full : ∀ q, r.h ≤ q → q < r.t → r.pub q = true
  strs : ∀ q, ∃ v, r.val q = .string v
theorem AloneR.pop {room : Nat} {r : RS} (h : AloneR room r) : AloneR room r.pop := ⟨h.n, fun q h1 h2 => h.full q (by have : r.h + 1 ≤ q := h1; omega) h2, h.strs⟩
theorem AloneR.put {room : Nat} {r : RS} (h : AloneR room r) (v : ByteArray) : AloneR room (r.more.publish r.t (.string v)) := by
  refine ⟨h.n, fun q h1 h2 => ?_, fun q => ?_⟩
  · show (if q = r.t then true else r.pub q) = true
    by_cases e : q = r.t
    · rw [if_pos e]
    · rw [if_neg e]
      have h1' : r.h ≤ q := h1
      have h2' : q < r.t + 1 := h2
      exact h.full q h1' (by omega)
  · show ∃ x, (if q = r.t then Value.string v else r.val q) = _
    by_cases e : q = r.t
    · exact ⟨v, by rw [if_pos e]⟩
    · obtain ⟨x, hx⟩ := h.strs q; exact ⟨x, by rw [if_neg e, hx]⟩
abbrev zs : Value := .string ⟨#[]⟩
def AloneI (room most b sb : Nat) (W : World) : Prop := ∃ r, AloneR room r ∧ r.t ≤ most ∧ RingI (.string ⟨#[]⟩) b sb 80 82 r W

set_option maxRecDepth 100000 in
set_option maxHeartbeats 4000000 in
theorem ringAlone_walk (a0 : Int) (a1 : Option Addr) (len1 cap1 : Nat) (z1 : List Int) (w : World) (w0 : (Lit.int .u8 a0).wf = true) (w1 : IsRow .u8 w a1 len1 cap1 z1) :
    Calls Try.prog 5 #[.int .u8 a0, .slice a1 len1 cap1] w fun e w' => e = .returned (.bool true) ∧ Below w.heap.size w w' := by
  have h0 := bd_u8 w0
  have hle := w1.le
  unfold maxLen at hle
  have HA := Lib.hid w1
  clear w0 w1
  by_cases h100 : 100 < len1
  · go_enter Try.func5, Try.ntmps5
    go_wp2_with fail
    refine (alive_any _).mono ?_
    rintro e w1 ⟨rfl, k1⟩
    go_wp2_with fail
    go_ret
    exact ⟨rfl, k1⟩
  · obtain ⟨room, hroom⟩ : ∃ n : Nat, (n : Int) = 1 + a0 % 64 := ⟨(1 + a0 % 64).toNat, by omega⟩
    have hr1 : 1 ≤ room := by omega
    have hr64 : room ≤ 64 := by omega
    have HR := Lib.hid hroom
    clear hroom
    go_enter Try.func5, Try.ntmps5
    go_wp2_with fail
    refine (alive_any _).mono ?_
    rintro e w1 ⟨rfl, k1⟩
    go_wp2_with fail
    rw [← HR.out]
    refine (new_s room hr1 hr64 w1).mono ?_
    rintro e w2 ⟨b, sb, rfl, hI, k2, hb, hsb⟩
    have hlt := hI.lt
    have hz1 := k1.size
    have hk2 : Below w.heap.size w w2 := k1.trans (k2.mono k1.size)
    have HI : Hid (AloneI room 0 b sb w2) := Lib.hid ⟨_, ⟨rfl, fun q h1 h2 => by simp only at h1 h2; omega, fun _ => ⟨_, rfl⟩⟩, Nat.le_refl _, hI⟩
    have hbs := hI.ne
    clear hI k2
    go_wp2_with fail
    go_loopw [8] (fun i wr => ∃ k : Nat, k ≤ len1 ∧ i = .int .i64 k ∧ AloneI room k b sb wr ∧ Below w.heap.size w wr) (fun i _ => len1 - (intOf i).toNat)
    case atStart => exact ⟨0, by omega, rfl, HI.out, hk2⟩
    case round =>
      obtain ⟨k, hk, rfl, hT, hbel⟩ := hrel
      by_cases hlk : k < len1
      · obtain ⟨ab, ao, rfl, hab, hac⟩ := HA.out.at_ (by omega)
        obtain ⟨y, hy⟩ : ∃ y, y = z1.getD k 0 := ⟨_, rfl⟩
        have hcell := hac k hlk
        rw [← hy] at hcell
        have hyb : 0 ≤ y ∧ y < 256 := by
          rw [hy]
          rcases HA.out with ⟨h, _⟩ | ⟨x, _, hl, _, hzl, _, hw⟩
          · cases h
          · have hm : z1.getD k 0 ∈ z1 := by
              rw [List.getD_eq_getElem?_getD, List.getElem?_eq_getElem (by omega)]
              exact List.getElem_mem _
            exact bd_u8 (hw _ hm)
        clear hy hac
        have HT := Lib.hid hT
        clear hT
        obtain ⟨wo, rfl⟩ : ∃ wo : World, wo = wr := ⟨_, rfl⟩
        go_wp2_with fail
        go_loopw [9] (fun j wr => ∃ j' : Nat, j = .int .i64 j' ∧ j' ≤ 4 ∧ AloneI room k b sb wr ∧ Below w.heap.size w wr) (fun j _ => 4 - (intOf j).toNat)
        case atStart => exact ⟨0, rfl, by omega, HT.out, hbel⟩
        case round =>
          obtain ⟨j, rfl, hj, hT2, hbel2⟩ := hrel
          obtain ⟨r, hR, hrt, hI⟩ := hT2
          have ok := hI.ok
          have c1 := (hbel2.cell (p := ⟨ab, ao + k, none⟩) hab).trans hcell
          have HRR := Lib.hid hR
          have HI2 := Lib.hid hI
          clear hR hI
          by_cases hc1 : (j : Int) < y % 4
          · have hpp := Lib.hid (pop_s _ HI2.out HRR.out.strs)
            go_wp2_with fail
            refine hpp.out.mono ?_
            rintro e w4 ⟨rfl, hI4, k4⟩
            have hT4 : AloneI room k b sb w4 := by
              refine ⟨_, ?_, ?_, hI4⟩
              · split
                · exact HRR.out.pop
                · exact HRR.out
              · split
                · exact hrt
                · exact hrt
            have HT4 := Lib.hid hT4
            have hb4 := below_step hbel2 k4 (Nat.le_refl _) (fun i hi h => by omega)
            clear hI4 k4 hT4
            go_wp2_with fail
            go_roundw
            case rel => exact ⟨j + 1, by go_num, by omega, HT4.out, hb4⟩
            case measure => simp [intOf]; omega
          · go_wp2_with fail
            refine (len_s _ HI2.out).mono ?_
            rintro e w4 ⟨rfl, hI4, k4⟩
            have HI4 := Lib.hid hI4
            have hb4 := below_step hbel2 k4 (Nat.le_refl _) (fun i hi h => by omega)
            have hht := ok.ht
            have hro := ok.room
            have hbig := ok.big
            have HN := Lib.hid HRR.out.n
            have hro' : r.t ≤ r.h + room := by rw [← HN.out]; exact hro
            clear hI4 k4 hro
            by_cases hfull : r.t = r.h + room
            · have hfb : (((r.t : Int) - r.h) == room) = true := by rw [beq_iff_eq]; omega
              have HF : Hid (¬ r.t < r.h + r.N) := Lib.hid (by rw [HN.out]; omega)
              clear hfull
              go_wp2_with fail
              refine (begin_s b _).mono ?_
              rintro e w5 ⟨rfl, k5, t5⟩
              have hlt4 := HI4.out.lt
              have hz4 := hb4.size
              generalize ht : w4.heap.size = tk at *
              have HI5 := Lib.hid (HI4.out.still k5)
              have HT5 := Lib.hid t5
              have hb5 := below_still hb4 k5 (Nat.le_refl _)
              clear t5 k5
              go_wp2_with fail
              have s1 := stepped_s _ HI5.out HT5.out (by omega) (by omega) ⟨Nat.zero_le _, by simp, fun _ h => by simp at h⟩ (by omega)
              rw [step_1] at s1
              refine s1.mono ?_
              rintro e w6 ⟨rfl, h6, t6, k6⟩
              have HI6 := Lib.hid h6
              have HT6 := Lib.hid t6
              have hb6 := below_step hb5 k6 (Nat.le_refl _) (fun i hi h => by omega)
              clear s1 h6 t6 k6
              go_wp2_with fail
              have s2 := stepped_s _ HI6.out HT6.out (by omega) (by omega) ⟨Nat.le_refl _, by simp, fun _ h => by simp at h⟩ (by omega)
              rw [step_2full ok HF.out] at s2
              refine s2.mono ?_
              rintro e w7 ⟨rfl, h7, t7, k7⟩
              have HI7 := Lib.hid h7
              have HT7 := Lib.hid t7
              have hb7 := below_step hb6 k7 (Nat.le_refl _) (fun i hi h => by omega)
              clear s2 h7 t7 k7
              go_wp2_with fail
              have s3 := stepped_s _ HI7.out HT7.out (by omega) (by omega) ⟨Nat.le_refl _, by simp, fun h _ => by simp at h⟩ (by omega)
              rw [step_end _ _ (by simp)] at s3
              refine s3.mono ?_
              rintro e w8 ⟨rfl, h8, t8, k8⟩
              have HI8 := Lib.hid h8
              have HT8 := Lib.hid t8
              have hb8 := below_step hb7 k8 (Nat.le_refl _) (fun i hi h => by omega)
              clear s3 h8 t8 k8
              go_wp2_with fail
              refine (fill_no_s _ _ HT8.out (.inl (by simp))).mono ?_
              rintro e w9 ⟨rfl, rfl⟩
              go_wp2_with fail
              go_roundw
              case rel => exact ⟨k + 1, by omega, by go_num, ⟨r, HRR.out, by omega, HI8.out⟩, hb8⟩
              case measure => simp [intOf]; omega
            · have hfb : (((r.t : Int) - r.h) == room) = false := by rw [beq_eq_false_iff_ne]; omega
              have HF : Hid (r.t < r.h + r.N) := Lib.hid (by rw [HN.out]; omega)
              clear hfull
              go_wp2_with fail
              refine (begin_s b _).mono ?_
              rintro e w5 ⟨rfl, k5, t5⟩
              have hlt4 := HI4.out.lt
              have hz4 := hb4.size
              generalize ht : w4.heap.size = tk at *
              have HI5 := Lib.hid (HI4.out.still k5)
              have HT5 := Lib.hid t5
              have hb5 := below_still hb4 k5 (Nat.le_refl _)
              clear t5 k5
              go_wp2_with fail
              have s1 := stepped_s _ HI5.out HT5.out (by omega) (by omega) ⟨Nat.zero_le _, by simp, fun _ h => by simp at h⟩ (by omega)
              rw [step_1] at s1
              refine s1.mono ?_
              rintro e w6 ⟨rfl, h6, t6, k6⟩
              have HI6 := Lib.hid h6
              have HT6 := Lib.hid t6
              have hb6 := below_step hb5 k6 (Nat.le_refl _) (fun i hi h => by omega)
              clear s1 h6 t6 k6
              go_wp2_with fail
              have s2 := stepped_s _ HI6.out HT6.out (by omega) (by omega) ⟨Nat.le_refl _, by simp, fun _ h => by simp at h⟩ (by omega)
              rw [step_2 ok HF.out] at s2
              refine s2.mono ?_
              rintro e w7 ⟨rfl, h7, t7, k7⟩
              have HI7 := Lib.hid h7
              have HT7 := Lib.hid t7
              have hb7 := below_step hb6 k7 (Nat.le_refl _) (fun i hi h => by omega)
              clear s2 h7 t7 k7
              go_wp2_with fail
              have s3 := stepped_s _ HI7.out HT7.out (by omega) (by omega) ⟨Nat.le_refl _, by simp, fun _ _ => HF.out⟩ (by omega)
              rw [step_3] at s3
              refine s3.mono ?_
              rintro e w8 ⟨rfl, h8, t8, k8⟩
              have HI8 := Lib.hid h8
              have HT8 := Lib.hid t8
              have hb8 := below_step hb7 k8 (Nat.le_refl _) (fun i hi h => by omega)
              clear s3 h8 t8 k8
              go_wp2_with fail
              have s4 := stepped_s _ HI8.out HT8.out (by omega) (by omega) ⟨Nat.le_succ _, by simp, fun h _ => by simp at h⟩ (by show r.t + 1 + 1 < _; omega)
              rw [step_end _ _ (by simp)] at s4
              refine s4.mono ?_
              rintro e w9 ⟨rfl, h9, t9, k9⟩
              have HI9 := Lib.hid h9
              have HT9 := Lib.hid t9
              have hb9 := below_step hb8 k9 (Nat.le_refl _) (fun i hi h => by omega)
              clear s4 h9 t9 k9
              go_wp2_with fail
              refine (fill_s _ _ HI9.out HT9.out (by omega) (by omega) rfl rfl (by show r.h ≤ r.t; exact ok.ht) (by show r.t < r.t + 1; omega)).mono ?_
              rintro e w10 ⟨rfl, h10, t10, k10⟩
              have HI10 := Lib.hid h10
              have HT10 := Lib.hid t10
              have hb10 := below_step hb9 k10 (Nat.le_refl _) (fun i hi h => by omega)
              clear h10 t10 k10
              go_wp2_with fail
              refine (fill_no_s _ _ HT10.out (.inr rfl)).mono ?_
              rintro e w11 ⟨rfl, rfl⟩
              go_wp2_with fail
              go_roundw
              case rel => exact ⟨k + 1, by omega, by go_num, ⟨_, HRR.out.put _, by show r.t + 1 ≤ k + 1; omega, HI10.out⟩, hb10⟩
              case measure => simp [intOf]; omega
      · go_wp2_with fail
        go_ret
        exact ⟨rfl, hbel⟩
end Go.Proofs.Ytegkijlgbkedmaa
