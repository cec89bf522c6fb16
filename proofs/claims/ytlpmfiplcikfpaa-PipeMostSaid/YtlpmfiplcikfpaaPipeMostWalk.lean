/-
  What stands here: the walk of PipeMost. Under no condition but that its arguments fit their types.
-/
import Derived.Test.YtlpmfiplcikfpaaPipeLaw2
namespace Go.Proofs.Ytlpmfiplcikfpaa
set_option linter.unusedVariables false
set_option linter.unusedSimpArgs false
open Go.RowKit Go.Proofs

set_option maxHeartbeats 4000000 in
set_option maxRecDepth 100000 in
theorem pipeMost_walk (a0 : Int) (a1 : Option Addr) (len1 cap1 : Nat) (f1_0 : Nat → Bool) (w : World) (w0 : (Lit.int .u8 a0).wf = true) (w1 : (len1 ≤ cap1 ∧ cap1 ≤ maxLen) ∧ (0 < len1 → ∃ b o, a1 = some ⟨b, o, none⟩ ∧ b < w.heap.size ∧ ∀ i, i < len1 → w.cell? ⟨b, o + i, none⟩ = some (.bool (f1_0 i)))) :
    Calls Try.prog 4 #[.int .u8 a0, .slice a1 len1 cap1] w fun e w' => e = .returned (.bool true) ∧ Below w.heap.size w w' := by
  obtain ⟨⟨hle1, hle⟩, hacts⟩ := w1
  unfold maxLen at hle
  have HR := Lib.hid hacts
  have hb0 := bd_u8 w0
  clear hacts w0
  by_cases h100 : 200 < len1
  · go_enter Try.func4, Try.ntmps4
    go_wp2_with fail
    refine (alive_any w).mono ?_
    rintro e w1 ⟨rfl, k1⟩
    go_wp2_with fail
    go_ret
    exact ⟨rfl, k1⟩
  go_enter Try.func4, Try.ntmps4
  go_wp2_with fail
  refine (alive_any w).mono ?_
  rintro e w1 ⟨rfl, k1⟩
  obtain ⟨N, hN⟩ : ∃ N : Nat, (N : Int) = 1 + a0 % 16 := ⟨(1 + a0 % 16).toNat, by have := Int.emod_nonneg a0 (show (16 : Int) ≠ 0 by omega); omega⟩
  have hN1 : 1 ≤ N := by have := Int.emod_nonneg a0 (show (16 : Int) ≠ 0 by omega); omega
  have hN16 : N ≤ 16 := by have := Int.emod_lt_of_pos a0 (show (0 : Int) < 16 by omega); omega
  have HN := Lib.hid hN
  clear hN
  go_wp2_with fail
  rw [← HN.out]
  refine (pb_new k1 N hN1 hN16).mono ?_
  rintro e w2 ⟨p, c, l, rfl, h2⟩
  have H2 := Lib.hid h2
  clear h2 k1
  go_wp2_with fail
  go_loopw [7, 8] (fun sv iv wr => ∃ (k M : Nat) (xs : List Int), k ≤ len1 ∧ iv = .int .i64 k ∧ sv = .int .i64 M ∧ xs.length ≤ k ∧ M ≤ 1000 ∧ xs.length - N ≤ M ∧ PB w.heap.size p c l N xs M false w wr) (fun _ iv _ => len1 - (intOf iv).toNat)
  case atStart => exact ⟨0, 0, [], Nat.zero_le _, rfl, rfl, Nat.le_refl _, by omega, by simp, H2.out⟩
  case round =>
    obtain ⟨k, M, xs, hk, rfl, rfl, hxk, hM, hxM, hS⟩ := hrel
    have S := Lib.hid hS
    have hbel := hS.bel
    clear hS H2
    by_cases hkl : k < len1
    · obtain ⟨ab, ao, ha, hab, hac⟩ := HR.out (by omega)
      have q0 := hac k hkl
      have hix := run_indexAt_at (P := Try.prog) (t := 22) (cap := cap1) (s := 1) ha Try.underlying22 (fun _ => by kernel_rfl) hkl
      rw [Nat.mul_one] at hix
      have e0 := (hbel.cell (p := ⟨ab, ao + k, none⟩) hab).trans q0
      clear hac ha q0 hbel
      generalize f1_0 k = b at *
      go_upto_if 37 with fail
      go_cut [] from 37 to 42 (fun wx => ∃ (xs' : List Int) (M' : Nat), M' = max M (xs'.length - N) ∧ xs'.length ≤ k + 1 ∧ M' ≤ 1000 ∧ PB w.heap.size p c l N xs' M' false w wx)
      case first =>
        as_aux_lemma =>
          cases b with
          | true =>
            have hput := Lib.hid (S.out.put (k : Int) (by omega) (by omega))
            go_wp2_with fail
            refine hput.out.mono ?_
            rintro e w3 ⟨rfl, h3⟩
            have H3 := Lib.hid h3
            clear h3
            go_wp2_with fail
            go_meet
            case rel => exact ⟨xs ++ [(k : Int)], _, by rw [List.length_append, List.length_singleton], by rw [List.length_append, List.length_singleton]; omega, by omega, H3.out⟩
          | false =>
            cases xs with
            | nil =>
              have htk := Lib.hid S.out.take_none
              go_wp2_with fail
              refine htk.out.mono ?_
              rintro e w3 ⟨rfl, rfl⟩
              go_wp2_with fail
              go_meet
              case rel => exact ⟨[], M, by simp, by simp, hM, S.out⟩
            | cons x rest =>
              simp only [List.length_cons] at hxk hxM
              have htk := Lib.hid (S.out.take (by omega))
              go_wp2_with fail
              refine htk.out.mono ?_
              rintro e w3 ⟨rfl, h3⟩
              have H3 := Lib.hid h3
              clear h3
              go_wp2_with fail
              go_meet
              case rel => exact ⟨rest, M, by omega, by omega, hM, H3.out⟩
      case rest =>
        obtain ⟨ys, M', hM', hyk, hMb, hS'⟩ := hcut
        have S2 := Lib.hid hS'
        have hsp := Lib.hid hS'.spilled
        have hms := Lib.hid hS'.most
        have hal := Lib.hid (hS'.all (by omega))
        clear hS' S
        obtain ⟨q, hq⟩ : ∃ q, q = ys.length - N := ⟨_, rfl⟩
        rw [← hq] at hsp hM'
        have HQ := Lib.hid hq
        clear hq
        obtain ⟨Y, hY⟩ : ∃ Y, Y = ys.length := ⟨_, rfl⟩
        have HY := Lib.hid hY
        rw [← hY] at hyk hal
        clear hY
        by_cases hmq : M < q
        · obtain rfl : M' = q := by omega
          clear hM'
          go_wp2_with fail
          refine hsp.out.mono ?_
          rintro e w4 ⟨rfl, rfl⟩
          go_wp2_with fail
          refine hms.out.mono ?_
          rintro e w4 ⟨rfl, rfl⟩
          go_wp2_with fail
          refine hal.out.mono ?_
          rintro e w5 ⟨⟨v5, rfl, ho5⟩, h5, _⟩
          obtain ⟨a5, c5, rfl⟩ := owns_slice ho5
          have hl5 := h5.len (by rw [← HY.out]; omega)
          rw [← HY.out] at hl5
          have HL5 := Lib.hid hl5
          clear ho5 h5 hl5
          go_wp2_with fail
          refine HL5.out.mono ?_
          rintro e w6 ⟨rfl, h6⟩
          have H6 := Lib.hid h6
          clear h6
          go_wp2_with fail
          go_roundw
          case rel => exact ⟨k + 1, M', ys, by omega, by go_num, rfl, by rw [← HY.out]; omega, hMb, by rw [← HQ.out]; omega, H6.out⟩
          case measure => simp [intOf]; omega

        · obtain rfl : M' = M := by omega
          clear hM'
          go_wp2_with fail
          refine hsp.out.mono ?_
          rintro e w4 ⟨rfl, rfl⟩
          go_wp2_with fail
          refine hms.out.mono ?_
          rintro e w4 ⟨rfl, rfl⟩
          go_wp2_with fail
          refine hal.out.mono ?_
          rintro e w5 ⟨⟨v5, rfl, ho5⟩, h5, _⟩
          obtain ⟨a5, c5, rfl⟩ := owns_slice ho5
          have hl5 := h5.len (by rw [← HY.out]; omega)
          rw [← HY.out] at hl5
          have HL5 := Lib.hid hl5
          clear ho5 h5 hl5
          go_wp2_with fail
          refine HL5.out.mono ?_
          rintro e w6 ⟨rfl, h6⟩
          have H6 := Lib.hid h6
          clear h6
          go_wp2_with fail
          go_roundw
          case rel => exact ⟨k + 1, M', ys, by omega, by go_num, rfl, by rw [← HY.out]; omega, hMb, by rw [← HQ.out]; omega, H6.out⟩
          case measure => simp [intOf]; omega

    · obtain rfl : k = len1 := by omega
      go_wp2_with fail
      go_ret
      exact ⟨rfl, hbel⟩
end Go.Proofs.Ytlpmfiplcikfpaa
