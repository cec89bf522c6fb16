/-
  What stands here: the walk of CrewKeeps. Under no condition but that its arguments fit their types.
-/
import Derived.Test.YtbikganlloopbaaCrewSt
import Derived.Laws.AppendOwnNone
namespace Go.Proofs.Ytbikganlloopbaa
set_option linter.unusedVariables false
set_option linter.unusedSimpArgs false
open Go.RowKit Go.Proofs
theorem w64_nat (k : Nat) (h : k ≤ 1000) : wrap64 (k : Int) = k := wrap64_in _ (by omega) (by omega)
theorem lt_cast (a b : Nat) : decide ((a : Int) < (b : Int)) = decide (a < b) := decide_eq_decide.2 Int.ofNat_lt
theorem one_mod (k d : Nat) (h : 0 < d) : ∃ n : Nat, (1 : Int) + (k : Int) % (d : Int) = n ∧ 1 ≤ n ∧ n ≤ d := ⟨1 + k % d, rfl, Nat.le_add_right 1 _, by have := Nat.mod_lt k h; exact Nat.add_comm 1 (k % d) ▸ this⟩
theorem zero_mod (k d : Nat) (h : 0 < d) : ∃ n : Nat, (k : Int) % (d : Int) = n ∧ n < d := ⟨k % d, rfl, Nat.mod_lt k h⟩
set_option maxHeartbeats 8000000 in
set_option maxRecDepth 100000 in
theorem crewKeeps_walk (a0 : Int) (a1 : Int) (a2 : Int) (a3 : Option Addr) (len3 cap3 : Nat) (z3 : List Int) (w : World) (w0 : (Lit.int .u8 a0).wf = true) (w1 : (Lit.int .u8 a1).wf = true) (w2 : (Lit.int .u8 a2).wf = true) (w3 : IsRow .u8 w a3 len3 cap3 z3) :
    Calls Try.prog 6 #[.int .u8 a0, .int .u8 a1, .int .u8 a2, .slice a3 len3 cap3] w fun e w' => e = .returned (.bool true) ∧ Below w.heap.size w w' := by
  have h0 := bd_u8 w0
  have h1 := bd_u8 w1
  have h2 := bd_u8 w2
  clear w0 w1 w2
  obtain ⟨m0, rfl⟩ : ∃ m : Nat, a0 = m := ⟨a0.toNat, by omega⟩
  obtain ⟨m1, rfl⟩ : ∃ m : Nat, a1 = m := ⟨a1.toNat, by omega⟩
  obtain ⟨m2, rfl⟩ : ∃ m : Nat, a2 = m := ⟨a2.toNat, by omega⟩
  obtain ⟨n, hn, hn2⟩ := one_mod m0 4 (by decide)
  obtain ⟨N, hN, hN2⟩ := one_mod m1 16 (by decide)
  obtain ⟨q, hq, hq2⟩ := zero_mod m2 40 (by decide)
  have EN := Lib.hid hn
  have EM := Lib.hid hN
  have EQ := Lib.hid hq
  have hw0 : wrap64 (m0 : Int) = m0 := w64_nat m0 (by omega)
  have hw1 : wrap64 (m1 : Int) = m1 := w64_nat m1 (by omega)
  have hw2 : wrap64 (m2 : Int) = m2 := w64_nat m2 (by omega)
  have hwn : wrap64 (n : Int) = n := w64_nat n (Nat.le_trans hn2.2 (by decide))
  have hwN : wrap64 (N : Int) = N := w64_nat N (Nat.le_trans hN2.2 (by decide))
  clear hn hN hq
  have W3 := Lib.hid w3
  have hle3 : len3 ≤ 9223372036854775807 := w3.le
  clear w3
  have hzz : ∀ W : World, (zeroValue 74).run Try.prog W = .ok (.agg (Array.replicate 50 (.int .i64 0))) W := fun W => by kernel_rfl
  obtain ⟨Z, hZ⟩ : ∃ Z : Array Value, Z = Array.replicate 50 (.int .i64 0) := ⟨_, rfl⟩
  rw [← hZ] at hzz
  have HZ := Lib.hid hZ
  clear hZ
  obtain ⟨i0, hi9, hz90, hz91, hz92⟩ := info_parts infoFiring
  go_enter Try.func6, Try.ntmps6
  go_wp2_with fail
  refine (alive_any w).mono ?_
  rintro e w2 ⟨rfl, k2⟩
  have FR2 := Lib.hid (Fr.start k2)
  clear k2
  by_cases hbig : 300 < len3
  · have hd : decide ((300 : Int) < (len3 : Int)) = true := decide_eq_true (by exact_mod_cast hbig)
    go_wp2_with fail
    go_ret
    exact ⟨rfl, FR2.out.bel⟩
  have hd : decide ((300 : Int) < (len3 : Int)) = false := decide_eq_false (by exact_mod_cast hbig)
  go_wp2_with fail
  rw [show (1 : Int) + (m0 : Int) % 4 = (n : Int) from EN.out, show (1 : Int) + (m1 : Int) % 16 = (N : Int) from EM.out]
  clear EN EM h0 h1 hw0 hw1
  refine (cplain n N w2).mono ?_
  rintro e w3 ⟨rfl, k3⟩
  have fr3 := FR2.out.still k3
  go_wp2_with fail
  refine (cf_new w fr3 N n hN2 hn2).mono ?_
  rintro e w4 ⟨f, p, g, col4, rfl, fr4, cf4⟩
  have F4 := Lib.hid fr4
  have C4 := Lib.hid cf4
  clear fr4 cf4 fr3 k3
  go_wp2_with fail
  refine (cs_crew F4.out C4.out (m := n) rfl (Nat.lt_of_le_of_lt hn2.2 (by decide))).mono ?_
  rintro e w5 ⟨ks, lv, col5, rfl, hkl, cs5⟩
  obtain ⟨la, lc, rfl⟩ : ∃ a c, lv = .slice a n c := by
    obtain ⟨a, c, h, -⟩ := cs5.row
    exact ⟨a, c, by rw [h, ptrs_len, hkl]⟩
  have C5 := Lib.hid cs5
  have HKL := Lib.hid hkl
  have KP5 : Hid (Keeps n 0 ⟨[], [], fun _ => none, fun _ => 0, 0⟩) := Lib.hid ⟨by
    unfold CSt.all nums
    rw [held_nil (fun _ _ => rfl)]
    exact List.Perm.refl _, ⟨by rw [held_nil (fun _ _ => rfl)]; rfl, by rw [held_nil (fun _ _ => rfl)]; exact Nat.le_refl _, fun _ => ⟨Int.le_refl _, Int.le_refl _⟩⟩⟩
  clear cs5 hkl
  go_wp2_with fail
  have hrel0 : ∃ (colj : Nat → Nat) (s : CSt), CSs w.heap.size colj f p g N 0 (cfP N n) s ks (.slice la n lc) w w5 ∧ Keeps n 0 s := ⟨_, _, C5.out, KP5.out⟩
  have HREL0 := Lib.hid hrel0
  clear hrel0 C5 KP5
  go_loopw [13, 14] (fun pv iv wr => ∃ (put i : Nat) (colj : Nat → Nat) (s : CSt), pv = .int .i64 put ∧ iv = .int .i64 i ∧ i ≤ len3 + 1 ∧ put < 40 ∧ CSs w.heap.size colj f p g N put (cfP N n) s ks (.slice la n lc) w wr ∧ Keeps n put s ∧ (i = len3 + 1 → s.xs = [] ∧ ∀ j, j < n → s.hs j = none)) (fun _ iv _ => len3 + 1 - (intOf iv).toNat)
  case atStart =>
    obtain ⟨colj, s, hc, hk⟩ := HREL0.out
    exact ⟨0, 0, colj, s, rfl, rfl, Nat.zero_le _, by omega, hc, hk, fun h => by omega⟩
  case round =>
    clear HREL0
    obtain ⟨put, i, colj, s, rfl, rfl, hi, hput, hc, hk, hfin⟩ := hrel
    have CJ := Lib.hid hc
    have KJ := Lib.hid hk
    have FIN := Lib.hid hfin
    clear hc hk hfin
    by_cases hil : i ≤ len3
    · have hdl : decide ((i : Int) ≤ (len3 : Int)) = true := decide_eq_true (by omega)
      obtain ⟨z, hz⟩ : ∃ z : Nat, (z : Int) = z3.getD i 0 ∧ z < 256 := by
        by_cases hlt : i < z3.length
        · have h9 := bd_u8 (W3.out.wf (z3.getD i 0) (by rw [List.getD_eq_getElem?_getD, List.getElem?_eq_getElem hlt]; exact List.getElem_mem hlt))
          exact ⟨(z3.getD i 0).toNat, by omega, by omega⟩
        · exact ⟨0, by rw [List.getD_eq_getElem?_getD, List.getElem?_eq_none (by omega)]; rfl, by omega⟩
      obtain ⟨hz1, hz2⟩ := hz
      have hcz : i < len3 → ∃ b o, a3 = some ⟨b, o, none⟩ ∧ b < w.heap.size ∧ wr.cell? ⟨b, o + i, none⟩ = some (.int .u8 z) := fun h9 => by
        obtain ⟨b, o, ha, hb, hcc⟩ := W3.out.at_ (by omega)
        exact ⟨b, o, ha, hb, by rw [CJ.out.fr.cell hb, hcc i h9, hz1]⟩
      have HCZ := Lib.hid hcz
      clear hcz hz1
      obtain ⟨bt, hbt⟩ : ∃ bt : Bool, bt = decide (i < len3 ∧ z < 60 ∧ put < q) := ⟨_, rfl⟩
      have HBT := Lib.hid hbt
      clear hbt
      go_upto_region 16 with fail
      go_cut [78] from 60 to 78 (fun bv wx => wx = wr ∧ bv = .bool bt)
      case first =>
        by_cases h1 : i < len3
        · have hd1 : decide ((i : Int) < (len3 : Int)) = true := decide_eq_true (by omega)
          obtain ⟨b, o, rfl, hb, cz⟩ := HCZ.out h1
          by_cases h2 : z < 60
          · have hd2 : decide ((z : Int) < 60) = true := decide_eq_true (by omega)
            have HR := Lib.hid (show bt = decide (put < q) by rw [HBT.out]; simp [h1, h2])
            go_wp2_with fail
            go_meet
            case rel => exact ⟨rfl, by rw [HR.out, show (m2 : Int) % 40 = (q : Int) from EQ.out, lt_cast]⟩
          · have hd2 : decide ((z : Int) < 60) = false := decide_eq_false (by omega)
            have HR := Lib.hid (show bt = false by rw [HBT.out]; simp [h2])
            go_wp2_with fail
            go_meet
            case rel => exact ⟨rfl, by rw [HR.out]⟩
        · have hd1 : decide ((i : Int) < (len3 : Int)) = false := decide_eq_false (by omega)
          have HR := Lib.hid (show bt = false by rw [HBT.out]; simp [h1])
          go_wp2_with fail
          go_meet
          case rel => exact ⟨rfl, by rw [HR.out]⟩
      case rest =>
        obtain ⟨rfl, rfl⟩ := hcut
        go_upto_if 78 with fail
        go_cut [13] from 79 to 112 (fun pv wx => ∃ (put' : Nat) (col' : Nat → Nat) (s' : CSt), pv = .int .i64 put' ∧ put' < 40 ∧ CSs w.heap.size col' f p g N put' (cfP N n) s' ks (.slice la n lc) w wx ∧ Keeps n put' s' ∧ (i = len3 → s'.xs = [] ∧ ∀ j, j < n → s'.hs j = none))
        case first =>
          as_aux_lemma =>
            cases bt with
            | true =>
              have hC : i < len3 ∧ z < 60 ∧ put < q := by simpa using HBT.out.symm
              have hput2 : put < 39 := by omega
              have HI := Lib.hid hC.1
              clear hC
              go_wp2_with fail
              refine (cf_pipe CJ.out.st).mono ?_
              rintro e wp ⟨rfl, rfl⟩
              go_wp2_with fail
              refine (cs_put CJ.out (by omega) ⟨(put : Int) + 1, 1, 0, 0⟩).mono ?_
              rintro e wq ⟨rfl, colq, mq, cq⟩
              have CQ := Lib.hid cq
              clear mq cq
              go_wp2_with fail
              go_meet
              case rel => exact ⟨put + 1, colq, s.put ⟨(put : Int) + 1, 1, 0, 0⟩, by go_num, by omega, CQ.out, KJ.out.put rfl, fun h => by have := HI.out; omega⟩
            | false =>
              by_cases h1 : i < len3
              · have hd1 : decide ((i : Int) < (len3 : Int)) = true := decide_eq_true (by omega)
                obtain ⟨b, o, rfl, hb, cz⟩ := HCZ.out h1
                obtain ⟨j, hj⟩ : ∃ j, j = z % n := ⟨_, rfl⟩
                have hjn : j < n := by rw [hj]; exact Nat.mod_lt _ (by omega)
                have hzj : (z : Int) % (n : Int) = (j : Int) := by rw [hj]; rfl
                have hn0 : ((n : Int) == 0) = false := by rw [beq_eq_false_iff_ne]; omega
                obtain ⟨bl, ol, k, rfl, hbl, h5, hk, ck⟩ := CJ.out.at_ HKL.out.symm j hjn
                have HS := Lib.hid (css_step (B := put) CJ.out (by omega) (by omega) (by rw [HKL.out]; exact KJ.out.fits) hk)
                have HI := Lib.hid h1
                have HJN := Lib.hid hjn
                clear hj
                go_wp2_with fail
                refine HS.out.mono ?_
                rintro e wq ⟨rfl, colq, mq, cq⟩
                have CQ := Lib.hid cq
                clear mq cq
                go_wp2_with fail
                go_meet
                case rel => exact ⟨put, colq, s.step j, rfl, by omega, CQ.out, KJ.out.step HJN.out, fun h => by have := HI.out; omega⟩
              · obtain rfl : i = len3 := by omega
                have hd1 : decide ((i : Int) < (i : Int)) = false := decide_eq_false (by omega)
                have hrel1 : ∃ (col9 : Nat → Nat) (s9 : CSt), CSs w.heap.size col9 f p g N put (cfP N n) s9 ks (.slice la n lc) w wc ∧ Keeps n put s9 ∧ Last n 0 s9 := ⟨_, _, CJ.out, KJ.out, Last.start KJ.out (by omega)⟩
                have HREL1 := Lib.hid hrel1
                clear hrel1 CJ KJ
                go_wp2_with fail
                go_loopw [15] (fun kv wr => ∃ (k : Nat) (col9 : Nat → Nat) (s9 : CSt), kv = .int .i64 k ∧ k ≤ 200 ∧ CSs w.heap.size col9 f p g N put (cfP N n) s9 ks (.slice la n lc) w wr ∧ Keeps n put s9 ∧ Last n k s9) (fun kv _ => 200 - (intOf kv).toNat)
                case atStart =>
                  obtain ⟨col9, s9, c9, k9, l9⟩ := HREL1.out
                  exact ⟨0, col9, s9, rfl, by omega, c9, k9, l9⟩
                case round =>
                  clear HREL1
                  obtain ⟨k, col9, s9, rfl, hk200, c9, k9, l9⟩ := hrel
                  have C9 := Lib.hid c9
                  have K9 := Lib.hid k9
                  have L9 := Lib.hid l9
                  clear c9 k9 l9
                  by_cases hkl : k < 200
                  · obtain ⟨j, hj⟩ : ∃ j, j = k % n := ⟨_, rfl⟩
                    have hjn : j < n := by rw [hj]; exact Nat.mod_lt _ (by omega)
                    have hzj : (k : Int) % (n : Int) = (j : Int) := by rw [hj]; rfl
                    have hn0 : ((n : Int) == 0) = false := by rw [beq_eq_false_iff_ne]; omega
                    obtain ⟨bl, ol, kk, rfl, hbl, h5, hk, ck⟩ := C9.out.at_ HKL.out.symm j hjn
                    have HS := Lib.hid (css_step (B := put) C9.out (by omega) (by omega) (by rw [HKL.out]; exact K9.out.fits) hk)
                    have HJN := Lib.hid (And.intro hjn hj)
                    clear hj
                    go_wp2_with fail
                    refine HS.out.mono ?_
                    rintro e wq ⟨rfl, colq, mq, cq⟩
                    have CQ := Lib.hid cq
                    clear mq cq
                    go_wp2_with fail
                    go_roundw
                    case rel => exact ⟨k + 1, colq, s9.step j, by go_num, hkl, CQ.out, K9.out.step HJN.out.1, by rw [HJN.out.2]; exact L9.out.step (by omega)⟩
                    case measure => simp [intOf]; omega
                  · obtain rfl : k = 200 := by omega
                    go_wp2_with fail
                    go_meet
                    case rel => exact ⟨put, col9, s9, rfl, by omega, C9.out, K9.out, fun _ => L9.out.done (by omega) (by omega)⟩
        case rest =>
          as_aux_lemma =>
            obtain ⟨put', col', s', rfl, hput', hc', hk', hfin'⟩ := hcut
            clear CJ KJ FIN HCZ HBT
            obtain ⟨w1, hw1⟩ : ∃ w1, w1 = wc.alloc (.cells Z 74) := ⟨_, rfl⟩
            obtain ⟨S, hS⟩ : ∃ S, S = wc.heap.size := ⟨_, rfl⟩
            obtain ⟨col1, hcol1⟩ : ∃ col1, col1 = ext col' wc.heap.size 8 := ⟨_, rfl⟩
            have k1 : Still wc w1 := by rw [hw1]; exact (still_refl wc).alloc _
            have m1 : Move (fun _ => False) col' col1 wc w1 := by rw [hcol1]; exact Move.ext (k1.mono fun _ _ f => f.elim) 8
            have C1 := Lib.hid (hc'.move m1 (fun _ f => f.elim))
            have B1 : Hid (BlkC col1 8 w1 S Z 74) := Lib.hid ⟨by rw [hw1, hS]; exact Blk.new _ _ _, by rw [hcol1, hS]; exact ext_new _ (Nat.le_refl _)⟩
            have KK := Lib.hid hk'
            have FIN := Lib.hid hfin'
            have HW1 := Lib.hid hw1
            have HS := Lib.hid hS
            clear hc' hk' hfin' m1 k1 hw1 hS hcol1
            go_upto_region 26 with fail
            rw [← HW1.out, ← HS.out]
            clear hzz
            have hcnt := KK.out.fits.cnt
            go_cut [17] from 113 to 119 (fun av wx => ∃ (colq : Nat → Nat) (a : Option Addr) (c : Nat), av = .slice a (s'.xs.length + s'.logs.length) c ∧ CSs w.heap.size colq f p g N put' (cfP N n) s' ks (.slice la n lc) w wx ∧ BlkC colq 8 wx S Z 74 ∧ Owns colq 7 wx 40 4 (.slice a (s'.xs.length + s'.logs.length) c) (s'.xs.length + s'.logs.length) (cells4 (s'.xs ++ s'.logs)))
            case first =>
              as_aux_lemma =>
                go_wp2_with fail
                refine (cf_pipe C1.out.st).mono ?_
                rintro e wp ⟨rfl, rfl⟩
                go_wp2_with fail
                refine (cs_pall C1.out (by omega)).mono ?_
                rintro e w2 ⟨v1, col2, rfl, m2, c2, o2⟩
                obtain ⟨a1, cp1, rfl, -, -⟩ := o2.form
                have B2 := Lib.hid (B1.out.move m2 (by omega))
                have C2 := Lib.hid c2
                have O2 := Lib.hid o2
                clear m2 c2 o2
                go_wp2_with fail
                refine (cf_log C2.out.st).mono ?_
                rintro e wp ⟨rfl, rfl⟩
                go_wp2_with fail
                refine (cf_all C2.out.st (by omega)).mono ?_
                rintro e w3 ⟨v2, rfl, ho2, k3⟩
                have B3 := Lib.hid (B2.out.still k3)
                have C3 := Lib.hid (C2.out.still k3)
                have O3 := Lib.hid (O2.out.still k3)
                have hoa := O3.out.1
                clear k3
                obtain ⟨X, hX⟩ : ∃ X, X = s'.xs.length := ⟨_, rfl⟩
                obtain ⟨L, hL⟩ : ∃ L, L = s'.logs.length := ⟨_, rfl⟩
                rw [← hX] at hoa O3
                rw [← hL] at ho2
                rw [← hX, ← hL] at hcnt
                rw [← hX]
                have HXL := Lib.hid (And.intro hX hL)
                clear hX hL
                obtain ⟨hl2, ⟨rfl, hL0⟩ | ⟨g2, cap2, cur2, rfl, hg2, hgb2, hn2', hm2, hc2, ht2⟩⟩ := ho2
                · subst hL0
                  go_wp2_with (first | (at_builtin; refine wpList_append_own_none rfl _ _ 22 rfl 0 40 i0 4 Try.underlying22 hi9 _ _ _ rfl hoa (by first | rfl) ?_) | fail)
                  go_wp2_with fail
                  go_meet
                  case rel =>
                    have e9 : s'.logs = [] := List.eq_nil_of_length_eq_zero HXL.out.2.symm
                    rw [e9, List.append_nil, List.length_nil, Nat.add_zero, ← HXL.out.1]
                    exact ⟨col2, a1, cp1, rfl, C3.out, B3.out, O3.out⟩
                · have hnews : ∀ j u, (cells4 s'.logs)[j]? = some u → w3.cell? ((⟨g2, 0, none⟩ : Addr).add j) = some u := fun j u hj => by
                    rw [addr_add, Nat.zero_add, ← ht2] at *
                    have hlt := (List.getElem?_eq_some_iff.1 hj).1
                    rw [List.length_take] at hlt
                    rw [List.getElem?_take_of_lt (by omega)] at hj
                    simp only [World.cell?, hgb2]
                    simpa using hj
                  have hcl : (cells4 s'.logs).length = L * 4 := by rw [cells4_len, ← HXL.out.2]
                  have hone : ∀ u, u ∈ cells4 s'.logs → u.oneCell' = true := fun u hu => by
                    unfold cells4 at hu
                    obtain ⟨x, -, hx⟩ := List.mem_flatMap.1 hu
                    simp only [FiringV.cl, List.mem_cons, List.not_mem_nil, or_false] at hx
                    rcases hx with rfl | rfl | rfl | rfl <;> rfl
                  clear hl2 hc2 ht2 hgb2 hg2
                  go_wp2_with (first | (at_builtin; go_loud (refine wpList_append _ rfl _ _ 22 rfl 0 40 i0 (.agg #[.int .u64 0, .int .u64 0, .int .u64 0, .int .u64 0]) 4 32 Try.underlying22 hi9 hz90 hz91 hz92 rfl (by decide) _ _ _ rfl hoa ⟨g2, 0, none⟩ L cap2 (cells4 s'.logs) rfl hcl hnews hone (by unfold maxLen; omega) (by omega) (Nat.zero_le _) ?_)) | fail)
                  intro v4 w4 hap
                  obtain ⟨o4, m4⟩ := Owns.add O3.out hap
                  obtain ⟨a4, c4, rfl⟩ := owns_slice hap.owns
                  have C4 := Lib.hid (C3.out.move m4 (fun _ h => .inl h))
                  have B4 := Lib.hid (B3.out.move m4 (by omega))
                  have O4 := Lib.hid o4
                  clear hap o4 m4 hoa hnews hone hcl
                  go_wp2_with fail
                  go_meet
                  case rel =>
                    rw [cells4_app, ← HXL.out.1, ← HXL.out.2]
                    exact ⟨_, a4, c4, rfl, C4.out, B4.out, O4.out⟩
            case rest =>
              as_aux_lemma =>
                obtain ⟨colq, aa, ca, rfl, hcq, hbq, hoq⟩ := hcut
                clear C1 B1 HW1 HS
                have hrel2 : ∃ (colq : Nat → Nat), CSs w.heap.size colq f p g N put' (cfP N n) s' ks (.slice la n lc) w wc ∧ BlkC colq 8 wc S Z 74 ∧ Owns colq 7 wc 40 4 (.slice aa (s'.xs.length + s'.logs.length) ca) (s'.xs ++ s'.logs ++ held 0 s'.hs).length (cells4 (s'.xs ++ s'.logs ++ held 0 s'.hs)) := ⟨colq, hcq, hbq, by
                  rw [show held 0 s'.hs = [] from rfl, List.append_nil, List.length_append]; exact hoq⟩
                have HREL2 := Lib.hid hrel2
                have hlen0 : s'.xs.length + s'.logs.length = (s'.xs ++ s'.logs ++ held 0 s'.hs).length := by rw [show held 0 s'.hs = [] from rfl, List.append_nil, List.length_append]
                have HLEN0 := Lib.hid hlen0
                clear hrel2 hcq hbq hoq hlen0
                go_wp2_with fail
                go_loopw [17, 18] (fun av kv wr => ∃ (k : Nat) (colk : Nat → Nat) (a : Option Addr) (c : Nat), av = .slice a (s'.xs ++ s'.logs ++ held k s'.hs).length c ∧ kv = .int .i64 k ∧ k ≤ n ∧ CSs w.heap.size colk f p g N put' (cfP N n) s' ks (.slice la n lc) w wr ∧ BlkC colk 8 wr S Z 74 ∧ Owns colk 7 wr 40 4 (.slice a (s'.xs ++ s'.logs ++ held k s'.hs).length c) (s'.xs ++ s'.logs ++ held k s'.hs).length (cells4 (s'.xs ++ s'.logs ++ held k s'.hs))) (fun _ kv _ => n - (intOf kv).toNat)
                case atStart =>
                  obtain ⟨colk, h1, h2, h3⟩ := HREL2.out
                  rw [HLEN0.out] at h3 ⊢
                  exact ⟨0, colk, aa, ca, rfl, rfl, Nat.zero_le _, h1, h2, h3⟩
                case round =>
                  as_aux_lemma =>
                    clear HREL2 HLEN0
                    obtain ⟨k, colk, a, c, rfl, rfl, hkn, hck, hbk, hok⟩ := hrel
                    have CK := Lib.hid hck
                    have BK := Lib.hid hbk
                    have OK := Lib.hid hok
                    clear hck hbk hok
                    by_cases hkl : k < n
                    · obtain ⟨bl, ol, kk, rfl, hbl, h5, hk, ck⟩ := CK.out.at_ HKL.out.symm k hkl
                      have HH := Lib.hid (cs_holds CK.out hk)
                      have hs9 := held_succ k s'.hs
                      obtain ⟨hv, hhv⟩ : ∃ hv, hv = s'.hs k := ⟨_, rfl⟩
                      rw [← hhv] at HH hs9
                      have HS9 := Lib.hid hs9
                      clear hs9 hhv
                      match hv with
                      | none =>
                        go_wp2_with fail
                        refine HH.out.mono ?_
                        rintro e wh ⟨rfl, kh⟩
                        dsimp only [Option.getD, Option.isSome, zF, FiringV.v]
                        have KH := Lib.hid kh
                        clear kh ck
                        go_wp2_with fail
                        go_roundw
                        case rel =>
                          have ka := KH.out.alloc (.cells #[.int .u64 0, .int .u64 0, .int .u64 0, .int .u64 0] 40)
                          refine ⟨k + 1, colk, a, c, ?_, by go_num, hkl, CK.out.still ka, BK.out.still ka, ?_⟩
                          · rw [HS9.out, Option.toList_none, List.append_nil]
                          · rw [HS9.out, Option.toList_none, List.append_nil]; exact OK.out.still ka
                        case measure => simp [intOf]; omega
                      | some x =>
                        go_wp2_with fail
                        refine HH.out.mono ?_
                        rintro e wh ⟨rfl, kh⟩
                        dsimp only [Option.getD, Option.isSome]
                        have hle9 := held_le k s'.hs
                        obtain ⟨LL, hLL⟩ : ∃ LL, LL = (s'.xs ++ s'.logs ++ held k s'.hs).length := ⟨_, rfl⟩
                        have hLb : LL ≤ 43 := by rw [hLL, List.length_append, List.length_append]; omega
                        have O9 := OK.out.still kh
                        rw [← hLL] at O9 ⊢
                        have C9 := CK.out.still kh
                        have B9 := BK.out.still kh
                        obtain ⟨w7, hw7⟩ : ∃ w7, w7 = wh.alloc (.cells #[.int .u64 x.id, .int .u64 x.gen, .int .u64 x.dl, .int .u64 x.tick] 40) := ⟨_, rfl⟩
                        obtain ⟨A, hA⟩ : ∃ A, A = wh.heap.size := ⟨_, rfl⟩
                        have k7 : Still wh w7 := by rw [hw7]; exact (still_refl wh).alloc _
                        have b7 : Blk w7 A #[.int .u64 x.id, .int .u64 x.gen, .int .u64 x.dl, .int .u64 x.tick] 40 := by rw [hw7, hA]; exact Blk.new _ _ _
                        have C7 := Lib.hid (C9.still k7)
                        have B7 := Lib.hid (B9.still k7)
                        have O7 := Lib.hid (O9.still k7)
                        have e0 : w7.cell? ⟨A, 0, none⟩ = some (.int .u64 x.id) := b7.cell 0
                        have e1 : w7.cell? ⟨A, 1, none⟩ = some (.int .u64 x.gen) := b7.cell 1
                        have e2 : w7.cell? ⟨A, 2, none⟩ = some (.int .u64 x.dl) := b7.cell 2
                        have e3 : w7.cell? ⟨A, 3, none⟩ = some (.int .u64 x.tick) := b7.cell 3
                        have hoa := O7.out.alloc (.cells #[.int .u64 x.id, .int .u64 x.gen, .int .u64 x.dl, .int .u64 x.tick] 40)
                        have HLL := Lib.hid hLL
                        have HW7 := Lib.hid hw7
                        have HA := Lib.hid hA
                        obtain ⟨vi, vg, vd, vt⟩ := x
                        dsimp only [FiringV.v]
                        clear hw7 hA b7 k7 C9 B9 O9 kh ck hLL hle9
                        dsimp only at e0 e1 e2 e3 hoa
                        go_upto_region 31 with fail
                        rw [← HW7.out, ← HA.out]
                        go_wp2_with (first | (at_builtin; go_loud (refine wpList_append _ rfl _ _ 22 rfl 0 40 i0 (.agg #[.int .u64 0, .int .u64 0, .int .u64 0, .int .u64 0]) 4 32 Try.underlying22 hi9 hz90 hz91 hz92 rfl (by decide) _ _ _ rfl hoa ⟨w7.heap.size, 0, none⟩ 1 1 [.int .u64 vi, .int .u64 vg, .int .u64 vd, .int .u64 vt] rfl rfl (by intro j u hj; rw [addr_add, Nat.zero_add]; exact ((Blk.newAt _ _ _ (by simp)).cell j).trans (by simpa using hj)) (by intro u hu; simp only [List.mem_cons, List.not_mem_nil, or_false] at hu; rcases hu with rfl | rfl | rfl | rfl <;> rfl) (by unfold maxLen; omega) (by omega) (Nat.zero_le _) ?_)) | fail)
                        intro v8 w8 hap
                        obtain ⟨o8, m8⟩ := Owns.more O7.out hap
                        obtain ⟨a8, c8, rfl⟩ := owns_slice hap.owns
                        have C8 := Lib.hid (C7.out.move m8 (fun _ h => .inl h))
                        have B8 := Lib.hid (B7.out.move m8 (by omega))
                        have O8 := Lib.hid o8
                        clear hap o8 m8 hoa e0 e1 e2 e3
                        go_wp2_with fail
                        go_roundw
                        case rel =>
                          have e9 : s'.xs ++ s'.logs ++ held (k + 1) s'.hs = (s'.xs ++ s'.logs ++ held k s'.hs) ++ [⟨vi, vg, vd, vt⟩] := by rw [HS9.out]; simp
                          refine ⟨k + 1, _, a8, c8, ?_, by go_num, hkl, C8.out, B8.out, ?_⟩
                          · rw [e9, List.length_append, ← HLL.out]; rfl
                          · rw [e9, List.length_append, ← HLL.out, cells4_snoc, List.append_assoc]; exact O8.out
                        case measure => simp [intOf]; omega
                    · obtain rfl : n = k := by omega
                      as_aux_lemma =>
                        obtain ⟨Al, hAl⟩ : ∃ Al, Al = s'.all n := ⟨_, rfl⟩
                        have hAll : s'.xs ++ s'.logs ++ held n s'.hs = Al := hAl.symm
                        rw [hAll] at OK ⊢
                        obtain ⟨T, hT⟩ : ∃ T, T = Al.length := ⟨_, rfl⟩
                        have hTp : T = put' := by rw [hT, hAl]; exact KK.out.len
                        have row9 := Lib.hid (FRow.of_owns OK.out.1)
                        have HAL := Lib.hid hAl
                        rw [← hT] at OK ⊢
                        have HT := Lib.hid hT
                        subst hTp
                        have HONCE : Hid (∀ z : Int, 1 ≤ z → z ≤ T → (Al.map FiringV.id).count z = 1) := Lib.hid (fun z h1 h2 => by rw [HAL.out]; exact KK.out.once h1 h2)
                        have HMEM : Hid (∀ (j : Nat) (x : FiringV), Al[j]? = some x → 1 ≤ x.id ∧ x.id ≤ T) := Lib.hid (fun j x hx => mem_nums.1 (KK.out.perm.mem_iff.1 (List.mem_map.2 ⟨x, by rw [← HAL.out]; exact List.mem_of_getElem? hx, rfl⟩)))
                        have hrel3 : ∃ cur : Array Value, BlkC colk 8 wr S cur 74 ∧ cur.size = 50 ∧ ∀ m, m < 50 → cur[m]? = some (.int .i64 (((Al.take 0).map FiringV.id).count (m : Int) : Nat)) := ⟨Z, BK.out, by rw [HZ.out]; simp, fun m hm => by
                          rw [HZ.out, Array.getElem?_replicate, if_pos hm]
                          simp⟩
                        have HREL3 := Lib.hid hrel3
                        clear hrel3 hAl hAll hT
                        generalize hwr9 : wr = wa at *
                        clear hwr9
                        go_wp2_with fail
                        go_loopw [21] (fun jv wx => ∃ (j : Nat) (cur : Array Value), jv = .int .i64 j ∧ j ≤ T ∧ Kept (fun y => y = S) wa wx ∧ Blk wx S cur 74 ∧ cur.size = 50 ∧ ∀ m, m < 50 → cur[m]? = some (.int .i64 (((Al.take j).map FiringV.id).count (m : Int) : Nat))) (fun jv _ => T - (intOf jv).toNat)
                        case atStart =>
                          obtain ⟨cur, h1, h2, h3⟩ := HREL3.out
                          exact ⟨0, cur, rfl, Nat.zero_le _, Kept.refl _ _, h1.1, h2, h3⟩
                        case round =>
                          as_aux_lemma =>
                            clear HREL3
                            obtain ⟨j, cur, rfl, hjT, hkx, hbx, hsz, hcnt9⟩ := hrel
                            have KX := Lib.hid hkx
                            have BX := Lib.hid hbx
                            have HC9 := Lib.hid (And.intro hsz hcnt9)
                            by_cases hjl : j < T
                            · obtain ⟨x, hx⟩ : ∃ x, Al[j]? = some x := ⟨_, List.getElem?_eq_getElem (by rw [← HT.out]; exact hjl)⟩
                              obtain ⟨hx1, hx2⟩ := HMEM.out j x hx
                              obtain ⟨a', c', hv', -, -, hrw⟩ := row9.out
                              rw [← HT.out] at hrw hv'
                              simp only [Value.slice.injEq] at hv'
                              obtain ⟨rfl, -, rfl⟩ := hv'
                              obtain ⟨b, o, rfl, hbl, -, hcc⟩ := hrw (by omega)
                              have hbS : b ≠ S := fun e => by
                                have h9 := OK.out.2 b rfl
                                rw [e, BK.out.2] at h9
                                omega
                              have d0 : wr.cell? ⟨b, o + j * 4, none⟩ = some (.int .u64 x.id) := (World.cell?_of_block (a := ⟨b, o + j * 4, none⟩) (hkx.block b hbl hbS)).trans (hcc j x hx 0 (by omega))
                              obtain ⟨m, hm⟩ : ∃ m : Nat, x.id = m := ⟨x.id.toNat, by omega⟩
                              rw [hm] at d0 hx1 hx2
                              have hm1 : decide ((m : Int) < 1) = false := decide_eq_false (by omega)
                              have hm2 : decide ((T : Int) < (m : Int)) = false := decide_eq_false (by omega)
                              have hm50 : m < 50 := by omega
                              obtain ⟨ct, hct⟩ : ∃ ct : Nat, ct = ((Al.take j).map FiringV.id).count (m : Int) := ⟨_, rfl⟩
                              have hctb : ct < 100 := by
                                have := List.count_le_length (a := (m : Int)) (l := (Al.take j).map FiringV.id)
                                rw [List.length_map, List.length_take] at this
                                omega
                              have cS : wr.cell? ⟨S, m, none⟩ = some (.int .i64 ct) := (hbx.cell m).trans (by rw [hct]; exact hcnt9 m hm50)
                              have HCT := Lib.hid hct
                              have fS := hbx.free m
                              have HX := Lib.hid (And.intro hx hm)
                              clear hcc hrw hkx hbx hsz hcnt9 hx hm hct
                              go_wp2_with fail
                              go_roundw
                              case rel =>
                                refine ⟨j + 1, cur.setIfInBounds m (.int .i64 ((ct : Int) + 1)), by go_num, hjl, KX.out.put m _, BX.out.set m _, by rw [Array.size_setIfInBounds]; exact HC9.out.1, fun m' hm' => ?_⟩
                                have htk : Al.take (j + 1) = Al.take j ++ [x] := by rw [List.take_add_one, HX.out.1]; rfl
                                rw [htk, List.map_append, List.count_append, List.map_singleton, HX.out.2]
                                by_cases he : m' = m
                                · subst he
                                  rw [Array.getElem?_setIfInBounds_self_of_lt (by rw [HC9.out.1]; exact hm'), ← HCT.out]
                                  simp
                                · rw [Array.getElem?_setIfInBounds_ne (fun h9 => he h9.symm), HC9.out.2 m' hm']
                                  rw [List.count_singleton, show ((m : Int) == (m' : Int)) = false by rw [beq_eq_false_iff_ne]; omega]
                                  simp
                              case measure => simp [intOf]; omega
                            · obtain rfl : T = j := by omega
                              have hone9 : ∀ k : Nat, 1 ≤ k → k ≤ T → cur[k]? = some (.int .i64 1) := fun k h1 h2 => by
                                rw [hcnt9 k (by omega), List.take_of_length_le (by rw [← HT.out]; omega), HONCE.out k (by omega) (by omega)]
                                rfl
                              have H19 := Lib.hid hone9
                              have CE : Hid (CSs w.heap.size colk f p g N T (cfP N n) s' ks (.slice la n lc) w wr) := Lib.hid (CK.out.move (S := (· = 8)) (.still' hkx (fun y hy => by rw [hy]; exact BK.out.2)) (fun _ h => .inr h))
                              clear hone9 hkx hbx hsz hcnt9 HC9
                              go_wp2_with fail
                              obtain ⟨we, hwe⟩ : ∃ we, we = wr := ⟨_, rfl⟩
                              go_loopw [22] (fun kv wx => ∃ k : Nat, kv = .int .i64 k ∧ 1 ≤ k ∧ k ≤ T + 1 ∧ wx = we) (fun kv _ => T + 1 - (intOf kv).toNat)
                              case atStart => exact ⟨1, rfl, Nat.le_refl _, by omega, hwe.symm⟩
                              case round =>
                                obtain ⟨k, rfl, hk1, hkT, rfl⟩ := hrel
                                subst hwe
                                by_cases hkl : k ≤ T
                                · have hdk : decide ((k : Int) ≤ (T : Int)) = true := decide_eq_true (by omega)
                                  have hk50 : k < 50 := by omega
                                  have cS := (BX.out.cell k).trans (H19.out k hk1 hkl)
                                  go_wp2_with fail
                                  go_roundw
                                  case rel => exact ⟨k + 1, by go_num, by omega, by omega, trivial⟩
                                  case measure => simp [intOf]; omega
                                · obtain rfl : k = T + 1 := by omega
                                  have hdk : decide (((T + 1 : Nat) : Int) ≤ (T : Int)) = false := decide_eq_false (by omega)
                                  go_wp2_with fail
                                  go_roundw
                                  case rel => exact ⟨T, i + 1, colk, s', rfl, by go_num, by omega, hput', CE.out, KK.out, fun h => FIN.out (by omega)⟩
                                  case measure => simp [intOf]; omega
    · obtain rfl : i = len3 + 1 := by omega
      as_aux_lemma =>
        have hdl : decide (((len3 + 1 : Nat) : Int) ≤ (len3 : Int)) = false := decide_eq_false (by omega)
        obtain ⟨hx0, hh0⟩ := FIN.out rfl
        have hlen : s.logs.length = put := by
          have h9 := KJ.out.len
          unfold CSt.all at h9
          rw [hx0, held_nil hh0] at h9
          simpa using h9
        have hbz : s.bz = 0 := by
          have h9 := KJ.out.fits.bz
          rw [held_nil hh0] at h9
          simpa using h9
        have hidle : idleB ks s.hs s.xs = true := by
          unfold idleB
          rw [hx0, HKL.out]
          have h9 : ((List.range n).all fun i => (s.hs i).isNone) = true := by
            rw [List.all_eq_true]
            intro i hi
            simp at hi
            rw [hh0 i hi]; rfl
          rw [h9]; rfl
        have HF := Lib.hid (And.intro hlen (And.intro hbz hidle))
        clear hx0 hh0 hlen hbz hidle FIN
        go_wp2_with fail
        refine (cf_log CJ.out.st).mono ?_
        rintro e wp ⟨rfl, rfl⟩
        go_wp2_with fail
        refine (cf_loglen CJ.out.st (by have := HF.out.1; omega)).mono ?_
        rintro e wl ⟨rfl, kl⟩
        have CL := Lib.hid (CJ.out.still kl)
        clear kl
        rw [HF.out.1]
        go_wp2_with fail
        refine (cidle CL.out.st (by omega) CL.out.row CL.out.wk (by rw [HKL.out]; omega)).mono ?_
        rintro e wi ⟨rfl, ki⟩
        have CI := Lib.hid (CL.out.still ki)
        clear ki
        rw [HF.out.2.2]
        go_wp2_with fail
        refine (cf_busy CI.out.st).mono ?_
        rintro e wb ⟨rfl, cb, mb⟩
        rw [HF.out.2.1]
        have FB := Lib.hid (CI.out.fr.move mb (by omega))
        clear cb mb
        go_wp2_with fail
        go_ret
        exact ⟨rfl, FB.out.bel⟩
end Go.Proofs.Ytbikganlloopbaa
