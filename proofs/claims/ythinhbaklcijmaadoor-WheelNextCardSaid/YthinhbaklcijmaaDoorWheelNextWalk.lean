/-
  What stands here: the walk of WheelNext. Under the condition that the library's table is as its initialiser lays it.
-/
import Derived.Test.YthinhbaklcijmaaDoorWheelMinOne
namespace Go.Proofs.YthinhbaklcijmaaDoor
set_option linter.unusedVariables false
set_option linter.unusedSimpArgs false
open Go.RowKit Go.Proofs
set_option maxHeartbeats 4000000 in
set_option maxRecDepth 100000 in
theorem wheelNext_walk (a0 : Int) (a1 : Option Addr) (len1 cap1 : Nat) (z1 : List Int) (w : World) (w0 : (Lit.int .u64 a0).wf = true) (w1 : IsRow .u16 w a1 len1 cap1 z1) (hT : Tab w) :
    Calls Tryd.prog 3 #[.int .u64 a0, .slice a1 len1 cap1] w fun e w' => e = .returned (.bool true) ∧ Below w.heap.size w w' := by
  have h0 := bd_u64 w0
  have hle1 := w1.le
  unfold maxLen at hle1
  have HA := Lib.hid w1
  have HT := Lib.hid hT
  have hTl := hT.lt
  clear w0 w1 hT
  obtain ⟨N0, rfl⟩ : ∃ N0 : Nat, a0 = N0 := ⟨a0.toNat, by omega⟩
  by_cases h60 : 60 < len1
  · as_aux_lemma =>
      go_enter Tryd.func3, Tryd.ntmps3
      go_wp2_with fail
      refine (alive_any _).mono ?_
      rintro e w1 ⟨rfl, k1⟩
      go_wp2_with fail
      go_ret
      exact ⟨rfl, k1⟩
  by_cases h00 : len1 = 0
  · as_aux_lemma =>
      subst h00
      go_enter Tryd.func3, Tryd.ntmps3
      go_wp2_with fail
      refine (alive_any _).mono ?_
      rintro e w1 ⟨rfl, k1⟩
      go_wp2_with fail
      go_ret
      exact ⟨rfl, k1⟩
  have hb0 : ((len1 : Int) == 0) = false := by rw [beq_eq_false_iff_ne]; omega
  by_cases hbig : 18446744073709351615 < N0
  · as_aux_lemma =>
      have hb1 : decide ((18446744073709351615 : Int) < (N0 : Int)) = true := decide_eq_true (by omega)
      go_enter Tryd.func3, Tryd.ntmps3
      go_wp2_with fail
      refine (alive_any _).mono ?_
      rintro e w1 ⟨rfl, k1⟩
      go_wp2_with fail
      go_ret
      exact ⟨rfl, k1⟩
  have hb1 : decide ((18446744073709351615 : Int) < (N0 : Int)) = false := decide_eq_false (by omega)
  have hlen : 0 < len1 := by omega
  obtain ⟨ab, ao, rfl, hab, hac⟩ := HA.out.at_ hlen
  have HC := Lib.hid (show ∀ W, Below w.heap.size w W → ∀ j, j < len1 → W.cell? ⟨ab, ao + j, none⟩ = some (.int .u16 (z1.getD j 0)) from fun W hW j hj => (hW.cell (p := ⟨ab, ao + j, none⟩) hab).trans (hac j hj))
  obtain ⟨u0, hu0⟩ : ∃ u : Nat, z1.getD 0 0 = u := ⟨(z1.getD 0 0).toNat, by have := get_u16 HA.out.wf 0; omega⟩
  have hu02 : u0 < 65536 := by have := get_u16 HA.out.wf 0; omega
  have HU0 := Lib.hid hu0
  clear hac hu0
  go_enter Tryd.func3, Tryd.ntmps3
  go_wp2_with fail
  refine (alive_any _).mono ?_
  rintro e w1 ⟨rfl, k1⟩
  go_wp2_with fail
  refine (xnew_e N0 (by omega) w w1 k1).mono ?_
  rintro r w2 ⟨v, s, lv, sl, bd, S, rfl, x2, n2, p2, k2, z2', y2⟩
  have X2 := Lib.hid x2
  have c0 : w2.cell? ⟨ab, ao, none⟩ = some (.int .u16 (u0 : Int)) := by have := HC.out w2 x2.bel 0 hlen; rwa [Nat.add_zero, HU0.out] at this
  have hc2 : nAll S.pl = 0 := nAll_none p2
  have ST2 := Lib.hid (show ∀ e, ¬ Stands S.pl e from fun e ⟨q, _, he⟩ => by rw [p2 q] at he; cases he)
  have HN2 := Lib.hid n2
  clear x2 n2 p2 k2 z2' y2 k1
  go_wp2_with fail
  go_loopw [6, 7] (fun lv9 i wr => ∃ (j L : Nat) (s : LS) (S : WSt), j ≤ len1 ∧ i = .int .i64 j ∧ lv9 = .int .u16 L ∧ L < 65536 ∧ WX_e s v lv sl bd S w wr ∧ nAll S.pl = j ∧ S.now = N0 ∧ (∀ e, Stands S.pl e → N0 + 1 + L ≤ S.due e) ∧ (1 ≤ j → ∃ e, Stands S.pl e ∧ S.due e = N0 + 1 + L) ∧ (j = 0 → L = u0)) (fun _ i _ => len1 - (intOf i).toNat)
  case atStart => exact ⟨0, u0, s, S, Nat.zero_le _, rfl, rfl, hu02, X2.out, hc2, HN2.out, fun e he => absurd he (ST2.out e), fun h9 => by omega, fun _ => rfl⟩
  case round =>
    obtain ⟨j, L, s1, S1, hj, rfl, rfl, hL, hX, hcnt, hnow, hlb, hex, hj0⟩ := hrel
    have X := Lib.hid hX
    have HN := Lib.hid hnow
    have LB := Lib.hid hlb
    have EX := Lib.hid hex
    have J0 := Lib.hid hj0
    have hbel := hX.bel
    clear hX hnow hlb hex hj0
    by_cases hjl : j < len1
    · have c1 := HC.out wr hbel j hjl
      obtain ⟨u, hu⟩ : ∃ u : Nat, z1.getD j 0 = u := ⟨(z1.getD j 0).toNat, by have := get_u16 HA.out.wf j; omega⟩
      have hu2 : u < 65536 := by have := get_u16 HA.out.wf j; omega
      have HU := Lib.hid hu
      rw [hu] at c1
      clear hu hbel
      go_wp2_with fail
      refine (xins2_e X.out (by omega) _ (N0 + 1 + u) (by omega) (by rw [HN.out]; omega) (by omega) _).mono ?_
      rintro r w4 ⟨rfl, s4, S4, x4, i4⟩
      have c1' : w4.cell? ⟨ab, ao + j, none⟩ = some (.int .u16 (u : Int)) := by have := HC.out w4 x4.bel j hjl; rwa [HU.out] at this
      have X4 := Lib.hid x4
      have hmin : min (L : Int) (u : Int) = ((min L u : Nat) : Int) := by omega
      have hL' : min L u < 65536 := by omega
      have hdo : ∀ e, Stands S1.pl e → S4.due e = S1.due e := fun e he => by
        rw [i4.due, upd_ne _ _ (fun e9 : e = wr.heap.size => i4.no (by rw [← e9]; exact he))]
      have F4 := Lib.hid (show nAll S4.pl = j + 1 ∧ S4.now = N0 ∧ (∀ e, Stands S4.pl e → N0 + 1 + min L u ≤ S4.due e) ∧ (∃ e, Stands S4.pl e ∧ S4.due e = N0 + 1 + min L u) from by
        refine ⟨by rw [i4.cnt, hcnt], i4.now.trans HN.out, fun e he => ?_, ?_⟩
        · rcases (i4.st e).1 he with h1 | h1
          · rw [hdo e h1]; have := LB.out e h1; omega
          · rw [h1, i4.due, upd_same]; omega
        · by_cases hlu : 1 ≤ j ∧ L ≤ u
          · obtain ⟨e, he, hd⟩ := EX.out hlu.1
            exact ⟨e, (i4.st e).2 (.inl he), by rw [hdo e he, hd]; omega⟩
          · refine ⟨_, (i4.st _).2 (.inr rfl), ?_⟩
            rw [i4.due, upd_same]
            by_cases h9 : j = 0
            · have h8 := J0.out h9
              have h7 := HU.out
              have h6 := HU0.out
              rw [h9] at h7
              omega
            · omega)
      clear x4 i4 hdo c1
      go_wp2_with fail
      go_roundw
      case rel => exact ⟨j + 1, min L u, s4, S4, by omega, by go_num, rfl, hL', X4.out, F4.out.1, F4.out.2.1, F4.out.2.2.1, fun _ => F4.out.2.2.2, fun h9 => by omega⟩
      case measure => simp [intOf]; omega
    · obtain rfl : j = len1 := by omega
      have hexx := EX.out (by omega)
      have EXX := Lib.hid hexx
      clear hexx hbel
      by_cases h5 : 5000 < L
      · go_wp2_with fail
        go_ret
        exact ⟨rfl, X.out.bel⟩
      · go_wp2_with fail
        go_loopw [8, 9, 10, 11, 12] (fun i _ _ _ _ wr => ∃ (t : Nat) (s : LS) (S : WSt), t ≤ L + 1 ∧ i = .int .i64 t ∧ WX_e s v lv sl bd S w wr ∧ nAll S.pl ≤ j ∧ (t ≤ L → S.now = N0 + t ∧ (∀ e, Stands S.pl e → N0 + 1 + L ≤ S.due e) ∧ ∃ e, Stands S.pl e ∧ S.due e = N0 + 1 + L)) (fun i _ _ _ _ _ => L + 1 - (intOf i).toNat)
        case atStart => exact ⟨0, s1, S1, by omega, rfl, X.out, by omega, fun _ => ⟨HN.out, LB.out, EXX.out⟩⟩
        case round =>
          obtain ⟨t, s2, S2, ht, rfl, hX2, hcnt2, hf2⟩ := hrel
          have XX := Lib.hid hX2
          have TW := Lib.hid (HT.out.below hX2.bel hTl)
          have F2 := Lib.hid hf2
          clear hX2 hf2
          by_cases htl : t ≤ L
          · obtain ⟨f1, f2, f3⟩ := F2.out htl
            have F1 := Lib.hid f1
            have FL := Lib.hid f2
            have FE := Lib.hid f3
            clear f1 f2 f3
            go_wp2_with fail
            refine (xnext_e XX.out TW.out (by omega) (by obtain ⟨e, he, _⟩ := FE.out; exact ⟨e, he⟩)).mono ?_
            rintro r w4 ⟨L2, rfl, ⟨e2, he2, hd2⟩, hm2, bel4⟩
            have hL2 : L2 = N0 + 1 + L := by
              obtain ⟨e, he, hd⟩ := FE.out
              have h1 := hm2 e he
              have h2 := FL.out e2 he2
              omega
            have hL2I : (L2 : Int) = (N0 : Int) + 1 + (L : Int) := by omega
            rw [hL2I]
            have X4 := Lib.hid (XX.out.below bel4)
            clear hL2 hL2I he2 hd2 hm2 bel4
            go_wp2_with fail
            refine (xadv_e X4.out (by omega) (by rw [F1.out]; omega)).mono ?_
            rintro r w5 ⟨s5, S5, es, R, rfl, x5, a5⟩
            have X5 := Lib.hid x5
            obtain ⟨ra, rc, rfl⟩ := a5.row.len
            rw [ptrs_len]
            have hes : (0 < es.length) ↔ t = L := by
              constructor
              · intro h9
                obtain ⟨e, he⟩ := List.exists_mem_of_length_pos h9
                obtain ⟨h1, h2⟩ := (a5.mem e).1 he
                have h3 := FL.out e h1
                have h4 := F1.out
                omega
              · intro h9
                obtain ⟨e, he, hd⟩ := FE.out
                exact List.length_pos_of_mem ((a5.mem e).2 ⟨he, by rw [hd, F1.out]; omega⟩)
            have F5 := Lib.hid (show nAll S5.pl ≤ j ∧ (t + 1 ≤ L → S5.now = N0 + (t + 1) ∧ (∀ e, Stands S5.pl e → N0 + 1 + L ≤ S5.due e) ∧ ∃ e, Stands S5.pl e ∧ S5.due e = N0 + 1 + L) from by
              refine ⟨by have := a5.cnt; omega, fun h9 => ⟨by rw [a5.now, F1.out]; omega, fun e he => by rw [a5.due]; exact FL.out e ((a5.st e).1 he).1, ?_⟩⟩
              obtain ⟨e, he, hd⟩ := FE.out
              exact ⟨e, (a5.st e).2 ⟨he, by rw [hd, F1.out]; omega⟩, by rw [a5.due, hd]⟩)
            clear x5 a5
            by_cases htL : t = L
            · have hp := hes.2 htL
              have hb9 : ((t : Int) == (L : Int)) = true := by rw [beq_iff_eq]; omega
              have HTL := Lib.hid htL
              clear hes htL
              generalize es.length = el at *
              go_wp2_with fail
              go_roundw
              case rel => exact ⟨t + 1, s5, S5, by omega, by go_num, X5.out, F5.out.1, F5.out.2⟩
              case measure => simp [intOf]; omega
            · have hp : es.length = 0 := by
                rcases Nat.eq_zero_or_pos es.length with h9 | h9
                · exact h9
                · exact absurd (hes.1 h9) htL
              have hb9 : ((t : Int) == (L : Int)) = false := by rw [beq_eq_false_iff_ne]; omega
              rw [hp]
              clear hes htL hp
              go_wp2_with fail
              go_roundw
              case rel => exact ⟨t + 1, s5, S5, by omega, by go_num, X5.out, F5.out.1, F5.out.2⟩
              case measure => simp [intOf]; omega
          · obtain rfl : t = L + 1 := by omega
            go_wp2_with fail
            go_ret
            exact ⟨rfl, XX.out.bel⟩
end Go.Proofs.YthinhbaklcijmaaDoor
