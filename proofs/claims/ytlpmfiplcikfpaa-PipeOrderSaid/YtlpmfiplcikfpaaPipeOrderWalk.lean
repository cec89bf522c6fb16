/-
  What stands here: the walk of PipeOrder. Under no condition but that its arguments fit their types.
-/
import Derived.Test.YtlpmfiplcikfpaaPipeLaw
namespace Go.Proofs.Ytlpmfiplcikfpaa
set_option linter.unusedVariables false
set_option linter.unusedSimpArgs false
open Go.RowKit Go.Proofs

set_option maxHeartbeats 4000000 in
set_option maxRecDepth 100000 in
theorem pipeOrder_walk (a0 : Int) (a1 : Option Addr) (len1 cap1 : Nat) (f1_0 : Nat → Bool) (w : World) (w0 : (Lit.int .u8 a0).wf = true) (w1 : (len1 ≤ cap1 ∧ cap1 ≤ maxLen) ∧ (0 < len1 → ∃ b o, a1 = some ⟨b, o, none⟩ ∧ b < w.heap.size ∧ ∀ i, i < len1 → w.cell? ⟨b, o + i, none⟩ = some (.bool (f1_0 i)))) :
    Calls Try.prog 3 #[.int .u8 a0, .slice a1 len1 cap1] w fun e w' => e = .returned (.bool true) ∧ Below w.heap.size w w' := by
  obtain ⟨⟨hle1, hle⟩, hacts⟩ := w1
  unfold maxLen at hle
  have HR := Lib.hid hacts
  have hb0 := bd_u8 w0
  clear hacts w0
  by_cases h100 : 200 < len1
  · go_enter Try.func3, Try.ntmps3
    go_wp2_with fail
    refine (alive_any w).mono ?_
    rintro e w1 ⟨rfl, k1⟩
    go_wp2_with fail
    go_ret
    exact ⟨rfl, k1⟩
  go_enter Try.func3, Try.ntmps3
  go_wp2_with fail
  refine (alive_any w).mono ?_
  rintro e w1 ⟨rfl, k1⟩
  obtain ⟨N, hN⟩ : ∃ N : Nat, (N : Int) = 1 + a0 % 16 := ⟨(1 + a0 % 16).toNat, by have := Int.emod_nonneg a0 (show (16 : Int) ≠ 0 by omega); omega⟩
  have hN1 : 1 ≤ N := by have := Int.emod_nonneg a0 (show (16 : Int) ≠ 0 by omega); omega
  have hN16 : N ≤ 16 := by have := Int.emod_lt_of_pos a0 (show (0 : Int) < 16 by omega); omega
  have HN := Lib.hid hN
  clear hN
  go_wp2_with fail
  rw [← HN.out]
  refine (pb_new k1 N hN1 hN16).mono ?_
  rintro e w2 ⟨p, c, l, rfl, h2⟩
  have H2 := Lib.hid h2
  clear h2 k1
  go_wp2_with fail
  go_loopw [8, 9, 10] (fun pv gv i wr => ∃ k P G mx : Nat, k ≤ len1 ∧ i = .int .i64 k ∧ pv = .int .i64 P ∧ gv = .int .i64 G ∧ G ≤ P ∧ P ≤ k ∧ mx ≤ 1000 ∧ PB w.heap.size p c l N (zr G (P - G)) mx false w wr) (fun _ _ i _ => len1 - (intOf i).toNat)
  case atStart => exact ⟨0, 0, 0, 0, Nat.zero_le _, rfl, rfl, rfl, Nat.le_refl _, Nat.le_refl _, by omega, H2.out⟩
  case round =>
    obtain ⟨k, P, G, mx, hk, rfl, rfl, rfl, hGP, hPk, hmx, hS⟩ := hrel
    have S := Lib.hid hS
    have hbel := hS.bel
    clear hS H2
    by_cases hkl : k < len1
    · obtain ⟨ab, ao, ha, hab, hac⟩ := HR.out (by omega)
      have q0 := hac k hkl
      have hix := run_indexAt_at (P := Try.prog) (t := 22) (cap := cap1) (s := 1) ha Try.underlying22 (fun _ => by kernel_rfl) hkl
      rw [Nat.mul_one] at hix
      have e0 := (hbel.cell (p := ⟨ab, ao + k, none⟩) hab).trans q0
      clear hac ha q0 hbel
      generalize f1_0 k = b at *
      go_upto_if 48 with fail
      go_cut [8, 9] from 48 to 91 (fun pv gv wx => ∃ P G D mx : Nat, pv = .int .i64 P ∧ gv = .int .i64 G ∧ (P : Int) - (G : Int) = D ∧ P ≤ k + 1 ∧ mx ≤ 1000 ∧ PB w.heap.size p c l N (zr G D) mx false w wx)
      case first =>
        as_aux_lemma =>
          cases b with
          | true =>
            have hz9 : zr (G : Int) (P - G) ++ [(P : Int)] = zr G (P - G + 1) := by
              have := zr_push G (P - G)
              rwa [show (G : Int) + ((P - G : Nat) : Int) = P by omega] at this
            have hput := S.out.put (P : Int) (by rw [zr_len]; omega) (by omega)
            rw [hz9, zr_len] at hput
            have HP := Lib.hid hput
            clear hz9 hput
            obtain ⟨D, hD⟩ : ∃ D, D = P - G := ⟨_, rfl⟩
            rw [← hD] at HP
            have hD1 : (P : Int) + 1 - (G : Int) = D + 1 := by omega
            have HD := Lib.hid hD
            clear hD
            by_cases hND : N ≤ D
            · have hdec : decide (N ≤ D) = true := decide_eq_true hND
              have hdec2 : decide ((N : Int) < (D : Int) + 1) = true := decide_eq_true (by omega)
              go_wp2_with fail
              refine HP.out.mono ?_
              rintro e w3 ⟨rfl, h3⟩
              rw [hdec]
              have H3 := Lib.hid h3
              clear h3
              go_wp2_with fail
              go_meet
              case rel => exact ⟨P + 1, G, D + 1, _, by go_num, rfl, by omega, by omega, by omega, H3.out⟩
            · have hdec : decide (N ≤ D) = false := decide_eq_false hND
              have hdec2 : decide ((N : Int) < (D : Int) + 1) = false := decide_eq_false (by omega)
              go_wp2_with fail
              refine HP.out.mono ?_
              rintro e w3 ⟨rfl, h3⟩
              rw [hdec]
              have H3 := Lib.hid h3
              clear h3
              go_wp2_with fail
              go_meet
              case rel => exact ⟨P + 1, G, D + 1, _, by go_num, rfl, by omega, by omega, by omega, H3.out⟩
          | false =>
            by_cases hG : G < P
            · have hz9 : zr (G : Int) (P - G) = (G : Int) :: zr ((G + 1 : Nat) : Int) (P - G - 1) := by
                rw [show P - G = (P - G - 1) + 1 by omega, zr_cons]
                simp
              have S2 := S.out
              rw [hz9] at S2
              have htk := S2.take (by rw [zr_len]; omega)
              have HTK := Lib.hid htk
              clear S2 htk hz9
              go_wp2_with fail
              refine HTK.out.mono ?_
              rintro e w3 ⟨rfl, h3⟩
              have H3 := Lib.hid h3
              clear h3
              go_wp2_with fail
              go_meet
              case rel => exact ⟨P, G + 1, P - G - 1, _, rfl, by go_num, by omega, by omega, hmx, H3.out⟩
            · have hz9 : P = G := by omega
              subst hz9
              have S2 := S.out
              rw [Nat.sub_self, zr_zero] at S2
              have htk := S2.take_none
              have HTK := Lib.hid htk
              have HS2 := Lib.hid S2
              clear S2 htk
              go_wp2_with fail
              refine HTK.out.mono ?_
              rintro e w3 ⟨rfl, rfl⟩
              go_wp2_with fail
              go_meet
              case rel => exact ⟨P, P, 0, _, rfl, rfl, by omega, by omega, hmx, HS2.out⟩
      case rest =>
        obtain ⟨P', G', D, mx', rfl, rfl, hD, hP', hmx', hS'⟩ := hcut
        have S2 := Lib.hid hS'
        have hl := S2.out.len (by rw [zr_len]; omega)
        rw [zr_len] at hl
        have HL := Lib.hid hl
        have hDk : D ≤ 1000 := by omega
        clear hS' S hl
        go_wp2_with fail
        refine HL.out.mono ?_
        rintro e w3 ⟨rfl, h3⟩
        have H3 := Lib.hid h3
        have hsp := H3.out.spilled
        rw [zr_len] at hsp
        have HSP := Lib.hid hsp
        clear h3 hsp
        obtain ⟨Q, hQ⟩ : ∃ Q, Q = D - N := ⟨_, rfl⟩
        rw [← hQ] at HSP
        by_cases hQ0 : 0 < Q
        · have hDQ : (D : Int) - (Q : Int) = N := by omega
          have HQ := Lib.hid hQ
          clear hQ
          go_wp2_with fail
          refine HSP.out.mono ?_
          rintro e w4 ⟨rfl, rfl⟩
          have hl2 := H3.out.len (by rw [zr_len]; omega)
          rw [zr_len] at hl2
          have HL2 := Lib.hid hl2
          clear hl2
          have hd9 : decide ((N : Int) < (N : Int)) = false := decide_eq_false (by omega)
          go_wp2_with fail
          refine HL2.out.mono ?_
          rintro e w5 ⟨rfl, h5⟩
          have H5 := Lib.hid h5
          have hsp := H5.out.spilled
          rw [zr_len, ← HQ.out] at hsp
          have HSP5 := Lib.hid hsp
          clear h5 hsp
          go_wp2_with fail
          refine HSP5.out.mono ?_
          rintro e w6 ⟨rfl, rfl⟩
          have hl6 := H5.out.len (by rw [zr_len]; omega)
          rw [zr_len] at hl6
          have HL6 := Lib.hid hl6
          clear hl6
          go_wp2_with fail
          refine HL6.out.mono ?_
          rintro e w7 ⟨rfl, h7⟩
          have H7 := Lib.hid h7
          have hsp := H7.out.spilled
          rw [zr_len, ← HQ.out] at hsp
          have HSP7 := Lib.hid hsp
          clear h7 hsp
          go_wp2_with fail
          refine HSP7.out.mono ?_
          rintro e w8 ⟨rfl, rfl⟩
          go_wp2_with fail
          go_roundw
          case rel => exact ⟨k + 1, P', G', mx', by omega, by go_num, rfl, rfl, by omega, hP', hmx', by rw [show P' - G' = D by omega]; exact H7.out⟩
          case measure => simp [intOf]; omega
        · obtain rfl : Q = 0 := by omega
          have hle9 : decide (N < D) = false := decide_eq_false (by omega)
          have HQ := Lib.hid hQ
          clear hQ
          go_wp2_with fail
          refine HSP.out.mono ?_
          rintro e w4 ⟨rfl, rfl⟩
          have hl6 := H3.out.len (by rw [zr_len]; omega)
          rw [zr_len] at hl6
          have HL6 := Lib.hid hl6
          clear hl6
          go_wp2_with fail
          refine HL6.out.mono ?_
          rintro e w7 ⟨rfl, h7⟩
          have H7 := Lib.hid h7
          have hsp := H7.out.spilled
          rw [zr_len, ← HQ.out] at hsp
          have HSP7 := Lib.hid hsp
          clear h7 hsp
          go_wp2_with fail
          refine HSP7.out.mono ?_
          rintro e w8 ⟨rfl, rfl⟩
          go_wp2_with fail
          go_roundw
          case rel => exact ⟨k + 1, P', G', mx', by omega, by go_num, rfl, rfl, by omega, hP', hmx', by rw [show P' - G' = D by omega]; exact H7.out⟩
          case measure => simp [intOf]; omega
    · obtain rfl : k = len1 := by omega
      have hsh := S.out.toShut
      have HSH := Lib.hid hsh
      clear hbel hsh
      go_wp2_with fail
      refine HSH.out.mono ?_
      rintro e w3 ⟨rfl, h3⟩
      have hcl := h3.closed
      rw [zr_len] at hcl
      have hcl' : (true && decide (P - G = 0)) = decide ((G : Int) = (P : Int)) := by
        rw [Bool.true_and, decide_eq_decide]; omega
      rw [hcl'] at hcl
      have HCL := Lib.hid hcl
      have H3 := Lib.hid h3
      clear h3 hcl hcl'
      go_wp2_with fail
      refine HCL.out.mono ?_
      rintro e w4 ⟨rfl, rfl⟩
      have hbq : decide ((G : Int) = (P : Int)) = ((G : Int) == (P : Int)) := rfl
      go_wp2_with fail
      clear hbq HCL HSH S
      go_loopw [9] (fun gv wr => ∃ G D : Nat, gv = .int .i64 G ∧ (P : Int) - (G : Int) = D ∧ PB w.heap.size p c l N (zr G D) mx true w wr) (fun gv _ => P - (intOf gv).toNat)
      case atStart => exact ⟨G, P - G, rfl, by omega, H3.out⟩
      case round =>
        obtain ⟨G', D, rfl, hD, hS'⟩ := hrel
        have S2 := Lib.hid hS'
        clear hS' H3
        cases D with
        | zero =>
          obtain rfl : G' = P := by omega
          have hps := S2.out.put_shut 1
          have hcl := S2.out.closed
          have hln := S2.out.len (by rw [zr_len]; omega)
          rw [zr_len] at hcl hln
          have HPS := Lib.hid hps
          have HCL := Lib.hid hcl
          have HLN := Lib.hid hln
          clear hps hcl hln
          go_wp2_with fail
          refine HPS.out.mono ?_
          rintro e w5 ⟨rfl, rfl⟩
          go_wp2_with fail
          refine HCL.out.mono ?_
          rintro e w5 ⟨rfl, rfl⟩
          go_wp2_with fail
          refine HLN.out.mono ?_
          rintro e w6 ⟨rfl, h6⟩
          have H6 := Lib.hid h6.bel
          clear h6
          go_wp2_with fail
          go_ret
          exact ⟨rfl, H6.out⟩
        | succ D =>
          have htk := S2.out
          rw [zr_cons] at htk
          have ht2 := htk.take (by rw [zr_len]; omega)
          have HTK := Lib.hid ht2
          clear htk ht2
          go_wp2_with fail
          refine HTK.out.mono ?_
          rintro e w5 ⟨rfl, h5⟩
          have H5 := Lib.hid h5
          clear h5
          go_wp2_with fail
          go_roundw
          case rel => exact ⟨G' + 1, D, by go_num, by omega, by rw [show ((G' + 1 : Nat) : Int) = (G' : Int) + 1 by omega]; exact H5.out⟩
          case measure => simp [intOf]; omega
end Go.Proofs.Ytlpmfiplcikfpaa
