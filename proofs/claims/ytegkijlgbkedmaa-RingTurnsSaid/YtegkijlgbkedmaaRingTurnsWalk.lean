/-
  What stands here: the walk of RingTurns. Under no condition but that its arguments fit their types.
-/
import Derived.Test.YtegkijlgbkedmaaRingAlive
namespace Go.Proofs.Ytegkijlgbkedmaa
set_option linter.unusedVariables false
set_option linter.unusedSimpArgs false
open Go.RowKit Go.Proofs

/-- the ring and a ticket of its own behind so many steps -/
def afterS (r : RS) : Nat → RS × TS
  | 0 => (r, ⟨0, 0, 0, false⟩)
  | 1 => (r, ⟨r.t, 1, 0, false⟩)
  | 2 => (r, ⟨r.t, 2, 0, false⟩)
  | _ => (r.more, ⟨r.t, 0, 2, false⟩)
theorem afterS_step {r : RS} (ok : r.Ok) (h : r.t < r.h + r.N) {s : Nat} (hs : s < 3) : stepK (afterS r s).1 (afterS r s).2 = afterS r (s + 1) := by
  match s, hs with
  | 0, _ => exact step_1 r 0 false
  | 1, _ => exact step_2 ok h false
  | 2, _ => exact step_3 r false
theorem afterS_ok {r : RS} (h : r.t < r.h + r.N) {s : Nat} (hs : s < 3) : TickOk (afterS r s).1 (afterS r s).2 ∧ (afterS r s).1.t ≤ r.t + 1 := by
  match s, hs with
  | 0, _ => exact ⟨⟨Nat.zero_le _, by simp [afterS], fun _ h => by simp [afterS] at h⟩, by simp [afterS]⟩
  | 1, _ => exact ⟨⟨Nat.le_refl _, by simp [afterS], fun _ h => by simp [afterS] at h⟩, by simp [afterS]⟩
  | 2, _ => exact ⟨⟨Nat.le_refl _, by simp [afterS], fun _ _ => h⟩, by simp [afterS]⟩

/-- the ring behind so many puts and pops -/
structure TurnsR (room put got : Nat) (r : RS) : Prop where
  n : r.N = room
  t : r.t = put
  h : r.h = got
  full : ∀ q, got ≤ q → q < put → r.pub q = true ∧ r.val q = .int .i64 q
  ints : ∀ q, ∃ v, r.val q = .int .i64 v
theorem TurnsR.put {room put got : Nat} {r : RS} (h : TurnsR room put got r) : TurnsR room (put + 1) got (r.more.publish r.t (.int .i64 put)) := by
  obtain ⟨n, t, hh, full, ints⟩ := h
  refine ⟨n, by show r.t + 1 = _; rw [t], hh, fun q h1 h2 => ?_, fun q => ?_⟩
  · show (if q = r.t then true else r.pub q) = true ∧ (if q = r.t then Value.int .i64 put else r.val q) = _
    by_cases e : q = r.t
    · rw [if_pos e, if_pos e, e, t]; exact ⟨rfl, rfl⟩
    · rw [if_neg e, if_neg e]; exact full q h1 (by omega)
  · show ∃ v, (if q = r.t then Value.int .i64 put else r.val q) = _
    by_cases e : q = r.t
    · exact ⟨put, by rw [if_pos e]⟩
    · obtain ⟨v, hv⟩ := ints q; exact ⟨v, by rw [if_neg e, hv]⟩
theorem TurnsR.pop {room put got : Nat} {r : RS} (h : TurnsR room put got r) : TurnsR room put (got + 1) r.pop := by
  obtain ⟨n, t, hh, full, ints⟩ := h
  exact ⟨n, t, by show r.h + 1 = _; rw [hh], fun q h1 h2 => full q (by omega) h2, ints⟩
abbrev z0 : Value := .int .i64 0
def TurnsI (room put got b sb : Nat) (W : World) : Prop := ∃ r, TurnsR room put got r ∧ RingI (.int .i64 0) b sb 68 70 r W

set_option maxRecDepth 100000 in
set_option maxHeartbeats 4000000 in
theorem ringTurns_walk (a0 : Int) (a1 : Option Addr) (len1 cap1 : Nat) (z1 : List Int) (w : World) (w0 : (Lit.int .u8 a0).wf = true) (w1 : IsRow .u8 w a1 len1 cap1 z1) :
    Calls Try.prog 7 #[.int .u8 a0, .slice a1 len1 cap1] w fun e w' => e = .returned (.bool true) ∧ Below w.heap.size w w' := by
  have h0 := bd_u8 w0
  have hle := w1.le
  unfold maxLen at hle
  have HA := Lib.hid w1
  clear w0 w1
  by_cases h100 : 100 < len1
  · go_enter Try.func7, Try.ntmps7
    go_wp2_with fail
    refine (alive_any _).mono ?_
    rintro e w1 ⟨rfl, k1⟩
    go_wp2_with fail
    go_ret
    exact ⟨rfl, k1⟩
  · obtain ⟨room, hroom⟩ : ∃ n : Nat, (n : Int) = 1 + a0 % 64 := ⟨(1 + a0 % 64).toNat, by omega⟩
    have hr1 : 1 ≤ room := by omega
    have hr64 : room ≤ 64 := by omega
    have HR := Lib.hid hroom
    clear hroom
    go_enter Try.func7, Try.ntmps7
    go_wp2_with fail
    refine (alive_any _).mono ?_
    rintro e w1 ⟨rfl, k1⟩
    go_wp2_with fail
    rw [← HR.out]
    refine (new_i room hr1 hr64 w1).mono ?_
    rintro e w2 ⟨b, sb, rfl, hI, k2, hb, hsb⟩
    have hlt := hI.lt
    have hz1 := k1.size
    have hk2 : Below w.heap.size w w2 := k1.trans (k2.mono k1.size)
    have HI : Hid (TurnsI room 0 0 b sb w2) := Lib.hid ⟨_, ⟨rfl, rfl, rfl, by omega, fun _ => ⟨0, rfl⟩⟩, hI⟩
    have hbs := hI.ne
    clear hI k2
    go_wp2_with fail
    go_loopw [8, 9, 10] (fun pu go i wr => ∃ put got k : Nat, k ≤ len1 ∧ pu = .int .i64 put ∧ go = .int .i64 got ∧ i = .int .i64 k ∧ put ≤ 70 * k ∧ TurnsI room put got b sb wr ∧ Below w.heap.size w wr) (fun _ _ i _ => len1 - (intOf i).toNat)
    case atStart => exact ⟨0, 0, 0, by omega, rfl, rfl, rfl, by omega, HI.out, hk2⟩
    case round =>
      obtain ⟨put, got, k, hk, rfl, rfl, rfl, hput, hT, hbel⟩ := hrel
      by_cases hlk : k < len1
      · obtain ⟨ab, ao, rfl, hab, hac⟩ := HA.out.at_ (by omega)
        obtain ⟨y, hy⟩ : ∃ y, y = z1.getD k 0 := ⟨_, rfl⟩
        have hcell := hac k hlk
        rw [← hy] at hcell
        have hyb : 0 ≤ y ∧ y < 256 := by
          rw [hy]
          rcases HA.out with ⟨h, _⟩ | ⟨x, _, hl, _, hzl, _, hw⟩
          · cases h
          · have hm : z1.getD k 0 ∈ z1 := by
              rw [List.getD_eq_getElem?_getD, List.getElem?_eq_getElem (by omega)]
              exact List.getElem_mem _
            exact bd_u8 (hw _ hm)
        clear hy hac
        have HT := Lib.hid hT
        clear hT
        obtain ⟨wo, rfl⟩ : ∃ wo : World, wo = wr := ⟨_, rfl⟩
        go_wp2_with fail
        go_loopw [8, 11] (fun pu j wr => ∃ put' j' : Nat, pu = .int .i64 put' ∧ j = .int .i64 j' ∧ put' ≤ 70 * k + j' ∧ j' ≤ 70 ∧ TurnsI room put' got b sb wr ∧ Below w.heap.size w wr) (fun _ j _ => 70 - (intOf j).toNat)
        case atStart => exact ⟨put, 0, rfl, rfl, by omega, by omega, HT.out, hbel⟩
        case round =>
          obtain ⟨put', j, rfl, rfl, hpj, hj, hT2, hbel2⟩ := hrel
          obtain ⟨r, hR, hI⟩ := hT2
          have ok := hI.ok
          have hRt := hR.t
          have hRh := hR.h
          have hRn := hR.n
          have hgp : got ≤ put' := by have := ok.ht; omega
          have HRR := Lib.hid hR
          have HI2 := Lib.hid hI
          have HRt := Lib.hid hRt
          have HRh := Lib.hid hRh
          have HRn := Lib.hid hRn
          have c1 := (hbel2.cell (p := ⟨ab, ao + k, none⟩) hab).trans hcell
          clear hR hI hRt hRh hRn
          by_cases hc1 : (j : Int) < y % 70
          · by_cases hc2 : (put' : Int) - got < room
            · go_wp2_with fail
              refine (begin_i b _).mono ?_
              rintro e w3 ⟨rfl, k3, t3⟩
              have hI3 := HI2.out.still k3
              have hb3 := below_still hbel2 k3 (Nat.le_refl _)
              have hltI := HI2.out.lt
              have hzr := hbel2.size
              generalize ht : wr.heap.size = tk at *
              have HI3 := Lib.hid hI3
              have HT3 := Lib.hid t3
              clear hI3 t3 k3
              go_wp2_with fail
              go_loopw [13] (fun s wr => ∃ s' : Nat, s' ≤ 3 ∧ s = .int .i64 s' ∧ RingI (.int .i64 0) b sb 68 70 (afterS r s').1 wr ∧ Blk wr tk (tickC b (afterS r s').2) 73 ∧ Below w.heap.size w wr) (fun s _ => 3 - (intOf s).toNat)
              case atStart => exact ⟨0, by omega, rfl, HI3.out, HT3.out, hb3⟩
              case round =>
                obtain ⟨s', hs', rfl, hIs, hTs, hbs'⟩ := hrel
                have HIs := Lib.hid hIs
                have HTs := Lib.hid hTs
                clear hIs hTs
                by_cases hs3 : s' < 3
                · have hroom' : r.t < r.h + r.N := by rw [HRt.out, HRh.out, HRn.out]; omega
                  obtain ⟨o1, o2⟩ := afterS_ok hroom' hs3
                  have hst := stepped_i _ HIs.out HTs.out (by omega) (by omega) o1 (by have := HRt.out; omega)
                  rw [afterS_step ok hroom' hs3] at hst
                  have HST := Lib.hid hst
                  clear hst o1 o2 hroom'
                  go_wp2_with fail
                  refine HST.out.mono ?_
                  rintro e w4 ⟨rfl, hI4, hT4, k4⟩
                  have HI4 := Lib.hid hI4
                  have HT4 := Lib.hid hT4
                  have hb4 := below_step hbs' k4 (Nat.le_refl _) (fun i hi h => by omega)
                  clear hI4 hT4 k4
                  go_wp2_with fail
                  go_roundw
                  case rel => exact ⟨s' + 1, by omega, by go_num, HI4.out, HT4.out, hb4⟩
                  case measure => simp [intOf]; omega
                · obtain rfl : s' = 3 := by omega
                  have hfl := fill_i (put' : Int) _ HIs.out HTs.out (by omega) (by omega) rfl rfl (by show r.h ≤ r.t; exact ok.ht) (by show r.t < r.t + 1; omega)
                  have HFL := Lib.hid hfl
                  clear hfl
                  go_wp2_with fail
                  refine HFL.out.mono ?_
                  rintro e w4 ⟨rfl, hI4, hT4, k4⟩
                  have HI4 := Lib.hid hI4
                  have hb4 := below_step hbs' k4 (Nat.le_refl _) (fun i hi h => by omega)
                  clear hI4 hT4 k4
                  go_wp2_with fail
                  go_roundw
                  case rel => exact ⟨put' + 1, j + 1, by go_num, by go_num, by omega, by omega, ⟨_, HRR.out.put, HI4.out⟩, hb4⟩
                  case measure => simp [intOf]; omega
            · have hc2' := hc2
              clear hc2'
              have hput' : put' ≤ 70 * k + 70 := by omega
              have HS := Lib.hid (⟨r, HRR.out, HI2.out⟩ : TurnsI room put' got b sb wr)
              clear hpj HRR HI2 ok
              go_wp2_with fail
              clear hc1
              obtain ⟨wo2, hwo⟩ : ∃ wo2 : World, wo2 = wr := ⟨_, rfl⟩
              subst hwo
              go_loopw [9, 14] (fun go j wr => ∃ got' j' : Nat, go = .int .i64 got' ∧ j = .int .i64 j' ∧ j' ≤ 70 ∧ TurnsI room put' got' b sb wr ∧ Below w.heap.size w wr) (fun _ j _ => 70 - (intOf j).toNat)
              case atStart => exact ⟨got, 0, rfl, rfl, by omega, HS.out, hbel2⟩
              case round =>
                obtain ⟨got', j2, rfl, rfl, hj2, hT3, hbel3⟩ := hrel
                obtain ⟨r3, hR3, hI3⟩ := hT3
                have ok3 := hI3.ok
                have hRt3 := hR3.t
                have hRh3 := hR3.h
                have hgp3 : got' ≤ put' := by have := ok3.ht; omega
                have HR3 := Lib.hid hR3
                have HI3 := Lib.hid hI3
                have HRt3 := Lib.hid hRt3
                have HRh3 := Lib.hid hRh3
                have c2 := (hbel3.cell (p := ⟨ab, ao + k, none⟩) hab).trans hcell
                clear hR3 hI3 hRt3 hRh3
                by_cases hd1 : (j2 : Int) < y / 4 % 70
                · by_cases hd2 : got' < put'
                  · have hf := HR3.out.full got' (Nat.le_refl _) hd2
                    have hrd : r3.ready = true := by unfold RS.ready; rw [HRh3.out]; exact hf.1
                    have hpp := pop_i _ HI3.out HR3.out.ints
                    rw [hrd] at hpp
                    simp only [if_true] at hpp
                    rw [HRh3.out, hf.2] at hpp
                    have HPP := Lib.hid hpp
                    clear hpp hrd hf
                    go_wp2_with fail
                    refine HPP.out.mono ?_
                    rintro e w4 ⟨rfl, hI4, k4⟩
                    have HI4 := Lib.hid hI4
                    have hb4 := below_step hbel3 k4 (Nat.le_refl _) (fun i hi h => by omega)
                    clear hI4 k4
                    go_wp2_with fail
                    go_roundw
                    case rel => exact ⟨got' + 1, j2 + 1, by go_num, by go_num, by omega, ⟨_, HR3.out.pop, HI4.out⟩, hb4⟩
                    case measure => simp [intOf]; omega
                  · go_wp2_with fail
                    refine (len_i _ HI3.out).mono ?_
                    rintro e w4 ⟨rfl, hI4, k4⟩
                    have HI4 := Lib.hid hI4
                    have hb4 := below_step hbel3 k4 (Nat.le_refl _) (fun i hi h => by omega)
                    clear hI4 k4
                    rw [HRt3.out, HRh3.out]
                    go_wp2_with fail
                    go_roundw
                    case rel => exact ⟨put', got', k + 1, by omega, rfl, rfl, by go_num, by omega, ⟨_, HR3.out, HI4.out⟩, hb4⟩
                    case measure => simp [intOf]; omega
                · go_wp2_with fail
                  refine (len_i _ HI3.out).mono ?_
                  rintro e w4 ⟨rfl, hI4, k4⟩
                  have HI4 := Lib.hid hI4
                  have hb4 := below_step hbel3 k4 (Nat.le_refl _) (fun i hi h => by omega)
                  clear hI4 k4
                  rw [HRt3.out, HRh3.out]
                  go_wp2_with fail
                  go_roundw
                  case rel => exact ⟨put', got', k + 1, by omega, rfl, rfl, by go_num, by omega, ⟨_, HR3.out, HI4.out⟩, hb4⟩
                  case measure => simp [intOf]; omega
          · have hput' : put' ≤ 70 * k + 70 := by omega
            have HS := Lib.hid (⟨r, HRR.out, HI2.out⟩ : TurnsI room put' got b sb wr)
            clear hpj HRR HI2 ok
            go_wp2_with fail
            clear hc1
            obtain ⟨wo2, hwo⟩ : ∃ wo2 : World, wo2 = wr := ⟨_, rfl⟩
            subst hwo
            go_loopw [9, 14] (fun go j wr => ∃ got' j' : Nat, go = .int .i64 got' ∧ j = .int .i64 j' ∧ j' ≤ 70 ∧ TurnsI room put' got' b sb wr ∧ Below w.heap.size w wr) (fun _ j _ => 70 - (intOf j).toNat)
            case atStart => exact ⟨got, 0, rfl, rfl, by omega, HS.out, hbel2⟩
            case round =>
              obtain ⟨got', j2, rfl, rfl, hj2, hT3, hbel3⟩ := hrel
              obtain ⟨r3, hR3, hI3⟩ := hT3
              have ok3 := hI3.ok
              have hRt3 := hR3.t
              have hRh3 := hR3.h
              have hgp3 : got' ≤ put' := by have := ok3.ht; omega
              have HR3 := Lib.hid hR3
              have HI3 := Lib.hid hI3
              have HRt3 := Lib.hid hRt3
              have HRh3 := Lib.hid hRh3
              have c2 := (hbel3.cell (p := ⟨ab, ao + k, none⟩) hab).trans hcell
              clear hR3 hI3 hRt3 hRh3
              by_cases hd1 : (j2 : Int) < y / 4 % 70
              · by_cases hd2 : got' < put'
                · have hf := HR3.out.full got' (Nat.le_refl _) hd2
                  have hrd : r3.ready = true := by unfold RS.ready; rw [HRh3.out]; exact hf.1
                  have hpp := pop_i _ HI3.out HR3.out.ints
                  rw [hrd] at hpp
                  simp only [if_true] at hpp
                  rw [HRh3.out, hf.2] at hpp
                  have HPP := Lib.hid hpp
                  clear hpp hrd hf
                  go_wp2_with fail
                  refine HPP.out.mono ?_
                  rintro e w4 ⟨rfl, hI4, k4⟩
                  have HI4 := Lib.hid hI4
                  have hb4 := below_step hbel3 k4 (Nat.le_refl _) (fun i hi h => by omega)
                  clear hI4 k4
                  go_wp2_with fail
                  go_roundw
                  case rel => exact ⟨got' + 1, j2 + 1, by go_num, by go_num, by omega, ⟨_, HR3.out.pop, HI4.out⟩, hb4⟩
                  case measure => simp [intOf]; omega
                · go_wp2_with fail
                  refine (len_i _ HI3.out).mono ?_
                  rintro e w4 ⟨rfl, hI4, k4⟩
                  have HI4 := Lib.hid hI4
                  have hb4 := below_step hbel3 k4 (Nat.le_refl _) (fun i hi h => by omega)
                  clear hI4 k4
                  rw [HRt3.out, HRh3.out]
                  go_wp2_with fail
                  go_roundw
                  case rel => exact ⟨put', got', k + 1, by omega, rfl, rfl, by go_num, by omega, ⟨_, HR3.out, HI4.out⟩, hb4⟩
                  case measure => simp [intOf]; omega
              · go_wp2_with fail
                refine (len_i _ HI3.out).mono ?_
                rintro e w4 ⟨rfl, hI4, k4⟩
                have HI4 := Lib.hid hI4
                have hb4 := below_step hbel3 k4 (Nat.le_refl _) (fun i hi h => by omega)
                clear hI4 k4
                rw [HRt3.out, HRh3.out]
                go_wp2_with fail
                go_roundw
                case rel => exact ⟨put', got', k + 1, by omega, rfl, rfl, by go_num, by omega, ⟨_, HR3.out, HI4.out⟩, hb4⟩
                case measure => simp [intOf]; omega
      · go_wp2_with fail
        go_ret
        exact ⟨rfl, hbel⟩
end Go.Proofs.Ytegkijlgbkedmaa
