/-
  What stands here: the walk of ShardQueues. Under no condition.
-/
import Derived.Test.YthamdbfilpegjaaShardQ
import Derived.Test.YthamdbfilpegjaaShardFns
import Derived.Deep.QuietTactic
import Derived.BigQuiet
import Derived.Deep.CutBlock
import Derived.Deep.CutRange
namespace Go.Proofs.Ythamdbfilpegjaa
set_option linter.unusedVariables false
set_option linter.unusedSimpArgs false
open Go.RowKit Go.Proofs
set_option maxHeartbeats 4000000 in
set_option maxRecDepth 100000 in
theorem shardQueues_walk (a0 : Int) (a1 : Option Addr) (len1 cap1 : Nat) (f1_0 : Nat → Int) (f1_1 : Nat → Int) (f1_2 : Nat → Int) (f1_3 : Nat → Int) (f1_4 : Nat → Int) (a2 : Int) (w : World) (w0 : (Lit.int .u8 a0).wf = true) (w1 : (len1 ≤ cap1 ∧ cap1 ≤ maxLen) ∧ (0 < len1 → ∃ b o, a1 = some ⟨b, o, none⟩ ∧ b < w.heap.size ∧ ∀ i, i < len1 → w.cell? ⟨b, o + i * 5, none⟩ = some (.int .u64 (f1_0 i)) ∧ (Lit.int .u64 (f1_0 i)).wf = true ∧ w.cell? ⟨b, o + i * 5 + 1, none⟩ = some (.int .i64 (f1_1 i)) ∧ (Lit.int .i64 (f1_1 i)).wf = true ∧ w.cell? ⟨b, o + i * 5 + 2, none⟩ = some (.int .u64 (f1_2 i)) ∧ (Lit.int .u64 (f1_2 i)).wf = true ∧ w.cell? ⟨b, o + i * 5 + 3, none⟩ = some (.int .u64 (f1_3 i)) ∧ (Lit.int .u64 (f1_3 i)).wf = true ∧ w.cell? ⟨b, o + i * 5 + 4, none⟩ = some (.int .u64 (f1_4 i)) ∧ (Lit.int .u64 (f1_4 i)).wf = true)) (w2 : (Lit.int .u8 a2).wf = true) :
    Calls Try.prog 4 #[.int .u8 a0, .slice a1 len1 cap1, .int .u8 a2] w fun e w' => e = .returned (.bool true) ∧ Below w.heap.size w w' := by
  have hle0 : len1 ≤ 9223372036854775807 := by have := w1.1; unfold maxLen at this; omega
  have HA := Lib.hid w1.2
  have h0 := bd_u8 w0
  have hq := bd_u8 w2
  clear w0 w1 w2
  obtain ⟨m0, rfl⟩ : ∃ m0 : Nat, a0 = m0 := ⟨a0.toNat, by omega⟩
  obtain ⟨who, rfl⟩ : ∃ who : Nat, a2 = who := ⟨a2.toNat, by omega⟩
  by_cases h100 : 100 < len1
  · as_aux_lemma =>
      go_enter Try.func4, Try.ntmps4
      go_wp2_with fail
      refine (alive_any _).mono ?_
      rintro e w1 ⟨rfl, k1⟩
      go_wp2_with fail
      go_ret
      exact ⟨rfl, k1⟩
  obtain ⟨F, hF⟩ : ∃ F : Nat → TaskV, F = fun q => ⟨f1_0 q, f1_1 q, f1_2 q, f1_3 q, f1_4 q⟩ := ⟨_, rfl⟩
  obtain ⟨N, hN⟩ : ∃ N : Nat, (N : Int) = 1 + (m0 : Int) % 64 := ⟨1 + m0 % 64, by omega⟩
  have hN1 : 1 ≤ N ∧ N ≤ 64 := by omega
  have HF := Lib.hid hF
  clear hF
  go_enter Try.func4, Try.ntmps4
  go_wp2_with fail
  refine (alive_any _).mono ?_
  rintro e w1 ⟨rfl, k1⟩
  go_wp2_with fail
  rw [← hN]
  refine (qnew N hN1.1 hN1.2 F w w1 k1).mono ?_
  rintro e w2 ⟨s, r, sb, l, v, ls, lv, sl, bd, S, rfl, x2, n2, p2⟩
  have E2 := Lib.hid x2
  have P2 := Lib.hid (And.intro n2 p2)
  clear x2 n2 p2 k1 hN
  go_wp2_with fail
  refine (qlock E2.out).mono ?_
  rintro e w3 ⟨rfl, k3⟩
  have E3 := Lib.hid (E2.out.still k3)
  clear k3
  go_wp2_with fail
  go_loopw [10, 11, 12, 13, 14] (fun pv iv _ _ _ wr => ∃ (j p : Nat), j ≤ len1 ∧ iv = .int .i64 j ∧ pv = .int .i64 p ∧ p ≤ j ∧ p ≤ N ∧ QX ls v lv sl bd S s r sb l (RSq N 0 p F) none 0 w wr) (fun _ iv _ _ _ _ => len1 - (intOf iv).toNat)
  case atStart => exact ⟨0, 0, Nat.zero_le _, rfl, rfl, Nat.le_refl _, Nat.zero_le _, E3.out⟩
  case round =>
    obtain ⟨j, p, hj, rfl, rfl, hpj, hpN, hE⟩ := hrel
    have E := Lib.hid hE
    clear hE
    by_cases hjl : j < len1
    · go_wp2_with fail
      refine (qbegin E.out).mono ?_
      rintro e w4 ⟨tk, htk, rfl, k4, b4⟩
      have G := Lib.hid (E.out.tg htk)
      have E4 := Lib.hid (E.out.still k4)
      clear k4 htk
      go_wp2_with fail
      refine (qstep E4.out G.out b4 ⟨Nat.zero_le _, Nat.zero_le _, fun _ h => by cases h⟩ (by show p + 1 < _; omega) (step1 _)).mono ?_
      rintro e w5 ⟨rfl, x5, b5⟩
      have E5 := Lib.hid x5
      clear x5 b4
      go_wp2_with fail
      by_cases hful : p = N
      · subst hful
        refine (qstep E5.out G.out b5 ⟨Nat.le_refl _, by show 1 ≤ 2; omega, fun _ h => by cases h⟩ (by show p + 1 < _; omega) (step2_full p F)).mono ?_
        rintro e w6 ⟨rfl, x6, b6⟩
        have E6 := Lib.hid x6
        clear x6 b5 b6
        have hnq : ∀ W, (binOp .neq 4 (.bool true) (.bool true)).run Try.prog W = .ok (.bool false) W := fun W => by kernel_rfl
        go_wp2_with fail
        go_roundw
        case rel => exact ⟨j + 1, p, hjl, by go_num, rfl, by omega, by omega, E6.out⟩
        case measure => simp [intOf]; omega
      · have hlt : p < N := by omega
        refine (qstep E5.out G.out b5 ⟨Nat.le_refl _, by show 1 ≤ 2; omega, fun _ h => by cases h⟩ (by show p + 1 < _; omega) (step2_room F hlt)).mono ?_
        rintro e w6 ⟨rfl, x6, b6⟩
        have E6 := Lib.hid x6
        clear x6 b5
        have hnq : ∀ W, (binOp .neq 4 (.bool false) (.bool false)).run Try.prog W = .ok (.bool false) W := fun W => by kernel_rfl
        have hnqt : ∀ W, (binOp .neq 4 (.bool true) (.bool true)).run Try.prog W = .ok (.bool false) W := fun W => by kernel_rfl
        have hpn : ((p : Int) == (N : Int)) = false := by rw [beq_eq_false_iff_ne]; omega
        go_wp2_with fail
        refine (qstep E6.out G.out b6 ⟨Nat.le_refl _, by show 2 ≤ 2; omega, fun _ _ => by show p < 0 + N; omega⟩ (by show p + 1 < _; omega) (step3 N p F)).mono ?_
        rintro e w7 ⟨rfl, x7, b7⟩
        have E7 := Lib.hid x7
        clear x7 b6
        go_wp2_with fail
        refine (qready E7.out).mono ?_
        rintro e w8 ⟨rfl, k8, x8⟩
        have b8 := b7.kept k8 (fun h9 => h9.elim G.out.2.2.2.2.1 G.out.2.2.2.2.2)
        have E8 := Lib.hid x8
        have B8 := Lib.hid b8
        clear x8 b7 b8 k8
        obtain ⟨b, o, ha1, hb, hc⟩ := HA.out (by omega)
        subst ha1
        obtain ⟨a0, -, a1, -, a2, -, a3, -, a4, -⟩ := hc p (by omega)
        have cell : ∀ (i : Nat) (v : Value), w.cell? ⟨b, i, none⟩ = some v → w8.cell? ⟨b, i, none⟩ = some v := fun i v h => (E8.out.x.x.bel.cell (p := ⟨b, i, none⟩) hb).trans h
        have c0 := cell _ _ a0
        have c1 := cell _ _ a1
        have c2 := cell _ _ a2
        have c3 := cell _ _ a3
        have c4 := cell _ _ a4
        have hpl : p < len1 := by omega
        have hfv : (F p).v = .agg #[.int .u64 (f1_0 p), .int .i64 (f1_1 p), .int .u64 (f1_2 p), .int .u64 (f1_3 p), .int .u64 (f1_4 p)] := by rw [HF.out, TaskV.v]
        have HP := Lib.hid (qfill (F p) E8.out G.out B8.out rfl rfl (Nat.zero_le _) (show p < p + 1 by omega) (rsq_next N 0 p F))
        rw [hfv] at HP
        clear a0 a1 a2 a3 a4 cell hc hfv
        by_cases hp0 : 0 < p
        · have hr : (RSq N 0 p F).more.ready = true := decide_eq_true hp0
          rw [hr]
          clear hr
          go_wp2_with fail
          refine HP.out.mono ?_
          rintro e w9 ⟨rfl, x9⟩
          have E9 := Lib.hid x9
          clear x9
          go_wp2_with fail
          go_roundw
          case rel => exact ⟨j + 1, p + 1, hjl, by go_num, by go_num, by omega, hlt, E9.out⟩
          case measure => simp [intOf]; omega
        · have hr : (RSq N 0 p F).more.ready = false := decide_eq_false hp0
          rw [hr]
          clear hr
          go_wp2_with fail
          refine HP.out.mono ?_
          rintro e w9 ⟨rfl, x9⟩
          have E9 := Lib.hid x9
          clear x9
          go_wp2_with fail
          go_roundw
          case rel => exact ⟨j + 1, p + 1, hjl, by go_num, by go_num, by omega, hlt, E9.out⟩
          case measure => simp [intOf]; omega
    · obtain rfl : j = len1 := by omega
      have hsq : (((RSq N 0 p F).t : Int) - ((RSq N 0 p F).h : Int)) = p := by show ((p : Int) - ((0 : Nat) : Int)) = p; omega
      go_wp2_with fail
      refine (qwaiting E.out).mono ?_
      rintro e w4 ⟨rfl, x4⟩
      rw [hsq]
      have E4 := Lib.hid x4
      clear x4 hsq
      go_wp2_with fail
      refine (sharmed E4.out.x).mono ?_
      rintro e w5 ⟨rfl, k5⟩
      rw [nAll_none P2.out.2]
      have E5 := Lib.hid (E4.out.still k5)
      clear k5
      go_wp2_with fail
      refine (shnow E5.out.x).mono ?_
      rintro e w6 ⟨rfl, k6⟩
      rw [P2.out.1]
      have E6 := Lib.hid (E5.out.still k6)
      clear k6
      go_wp2_with fail
      go_loopw [15, 16, 17] (fun iv _ _ wr => ∃ q : Nat, q ≤ p ∧ iv = .int .i64 q ∧ QX ls v lv sl bd S s r sb l (RSq N q p F) none 0 w wr) (fun iv _ _ _ => p - (intOf iv).toNat)
      case atStart => exact ⟨0, Nat.zero_le _, rfl, E6.out⟩
      case round =>
        obtain ⟨q, hqp, rfl, hE7⟩ := hrel
        have E7 := Lib.hid hE7
        clear hE7
        by_cases hlt : q < p
        · have hfv : (F q).v = .agg #[.int .u64 (f1_0 q), .int .i64 (f1_1 q), .int .u64 (f1_2 q), .int .u64 (f1_3 q), .int .u64 (f1_4 q)] := by rw [HF.out, TaskV.v]
          have HP := Lib.hid (qpop (rs' := RSq N (q + 1) p F) E7.out (F q) 0 (fun W' k' => kpop_yes_t W' (E7.out.rk.still k') (decide_eq_true hlt) (F q) rfl))
          rw [hfv] at HP
          have hneq := fun W => neq_tsame (F q) W
          rw [hfv] at hneq
          clear hfv
          go_wp2_with fail
          refine HP.out.mono ?_
          rintro e w8 ⟨rfl, x8⟩
          have E8 := Lib.hid x8
          clear x8
          obtain ⟨w10, hw10⟩ : ∃ w10, w10 = w8.alloc (.cells #[.int .u64 (f1_0 q), .int .i64 (f1_1 q), .int .u64 (f1_2 q), .int .u64 (f1_3 q), .int .u64 (f1_4 q)] 31) := ⟨_, rfl⟩
          have k10 : Still w8 w10 := by rw [hw10]; exact (still_refl w8).alloc _
          have b10 : Blk w10 w8.heap.size #[.int .u64 (f1_0 q), .int .i64 (f1_1 q), .int .u64 (f1_2 q), .int .u64 (f1_3 q), .int .u64 (f1_4 q)] 31 := by rw [hw10]; exact Blk.new _ _ _
          obtain ⟨B, hB⟩ : ∃ B, B = w8.heap.size := ⟨_, rfl⟩
          rw [← hB] at b10
          have E10 := Lib.hid (E8.out.still k10)
          have B10 := Lib.hid b10
          go_upto_region 27 with fail
          rw [← hw10, ← hB]
          clear hw10 b10 k10 hB
          obtain ⟨b, o, ha1, hb, hc⟩ := HA.out (by omega)
          subst ha1
          obtain ⟨a0, -, a1, -, a2, -, a3, -, a4, -⟩ := hc q (by omega)
          have cell : ∀ (i : Nat) (v : Value), w.cell? ⟨b, i, none⟩ = some v → w10.cell? ⟨b, i, none⟩ = some v := fun i v h => (E10.out.x.x.bel.cell (p := ⟨b, i, none⟩) hb).trans h
          have c0 := cell _ _ a0
          have c1 := cell _ _ a1
          have c2 := cell _ _ a2
          have c3 := cell _ _ a3
          have c4 := cell _ _ a4
          have d0 : w10.cell? ⟨B, 0, none⟩ = some (.int .u64 (f1_0 q)) := B10.out.cell 0
          have d1 : w10.cell? ⟨B, 1, none⟩ = some (.int .i64 (f1_1 q)) := B10.out.cell 1
          have d2 : w10.cell? ⟨B, 2, none⟩ = some (.int .u64 (f1_2 q)) := B10.out.cell 2
          have d3 : w10.cell? ⟨B, 3, none⟩ = some (.int .u64 (f1_3 q)) := B10.out.cell 3
          have d4 : w10.cell? ⟨B, 4, none⟩ = some (.int .u64 (f1_4 q)) := B10.out.cell 4
          have hql : q < j := by omega
          clear a0 a1 a2 a3 a4 cell hc
          go_wp2_with fail
          go_quiet (fail)
          go_wp2_with fail
          go_roundw
          case rel => exact ⟨q + 1, by omega, by go_num, E10.out.still ((still_refl w10).drewN nq)⟩
          case measure => simp [intOf]; omega
        · obtain rfl : q = p := by omega
          have HP := Lib.hid (qpop (rs' := RSq N q q F) E7.out ⟨0, 0, 0, 0, 0⟩ 6 (fun W' k' => kpop_no_t W' (E7.out.rk.still k') (decide_eq_false hlt)))
          have hz : (⟨0, 0, 0, 0, 0⟩ : TaskV).v = .agg #[.int .u64 0, .int .i64 0, .int .u64 0, .int .u64 0, .int .u64 0] := rfl
          rw [hz] at HP
          clear hz
          go_wp2_with fail
          refine HP.out.mono ?_
          rintro e w8 ⟨rfl, x8⟩
          have E8 := Lib.hid x8
          clear x8
          obtain ⟨w10, hw10⟩ : ∃ w10, w10 = w8.alloc (.cells #[.int .u64 0, .int .i64 0, .int .u64 0, .int .u64 0, .int .u64 0] 31) := ⟨_, rfl⟩
          have k10 : Still w8 w10 := by rw [hw10]; exact (still_refl w8).alloc _
          have b10 : Blk w10 w8.heap.size #[.int .u64 0, .int .i64 0, .int .u64 0, .int .u64 0, .int .u64 0] 31 := by rw [hw10]; exact Blk.new _ _ _
          obtain ⟨B, hB⟩ : ∃ B, B = w8.heap.size := ⟨_, rfl⟩
          rw [← hB] at b10
          have E10 := Lib.hid (E8.out.still k10)
          have B10 := Lib.hid b10
          go_upto_region 30 with fail
          rw [← hw10, ← hB]
          clear hw10 b10 k10 hB
          have hrd : (RSq N q q F).ready = false := decide_eq_false hlt
          go_wp2_with fail
          refine (qready E10.out).mono ?_
          rintro e w11 ⟨rfl, -, x11⟩
          rw [hrd]
          have E11 := Lib.hid x11
          clear x11 hrd
          go_wp2_with fail
          refine (qlock E11.out).mono ?_
          rintro e w12 ⟨rfl, k12⟩
          have E12 := Lib.hid (E11.out.still k12)
          clear k12
          go_wp2_with fail
          refine (qtry (who : Int) E12.out ownOk_none (by omega) (by omega)).mono ?_
          rintro e w13 ⟨rfl, x13⟩
          have t1 : tryB none (who : Int) = true := by unfold tryB; rw [decide_eq_true (by omega)]; rfl
          have t2 : tryO none (who : Int) = some (who : Int) := by unfold tryO; rw [t1]; rfl
          have t3 : tryN none (who : Int) 0 = 1 := by unfold tryN; rw [t1]; rfl
          rw [t2, t3] at x13
          rw [t1]
          have E13 := Lib.hid x13
          clear x13 t1 t2 t3
          go_wp2_with fail
          refine (qlock E13.out).mono ?_
          rintro e w14 ⟨rfl, k14⟩
          have E14 := Lib.hid (E13.out.still k14)
          clear k14
          go_wp2_with fail
          refine (qtry ((who : Int) + 1) E14.out (ownOk_some (by omega)) (by omega) (by omega)).mono ?_
          rintro e w15 ⟨rfl, x15⟩
          have t1 : tryB (some (who : Int)) ((who : Int) + 1) = false := rfl
          have t2 : tryO (some (who : Int)) ((who : Int) + 1) = some (who : Int) := rfl
          have t3 : tryN (some (who : Int)) ((who : Int) + 1) 1 = 1 := rfl
          rw [t2, t3] at x15
          rw [t1]
          have E15 := Lib.hid x15
          clear x15 t1 t2 t3
          go_wp2_with fail
          refine (qlock E15.out).mono ?_
          rintro e w16 ⟨rfl, k16⟩
          have E16 := Lib.hid (E15.out.still k16)
          clear k16
          go_wp2_with fail
          refine (qleave (who : Int) E16.out (ownOk_some (by omega)) (by omega)).mono ?_
          rintro e w17 ⟨rfl, x17⟩
          have t1 : leaveV (some (who : Int)) (who : Int) = 0 := by unfold leaveV; rw [if_neg (by omega), if_pos rfl]
          rw [t1]
          have E17 := Lib.hid x17
          clear x17 t1
          go_wp2_with fail
          go_ret
          exact ⟨rfl, E17.out.x.x.bel⟩
end Go.Proofs.Ythamdbfilpegjaa
