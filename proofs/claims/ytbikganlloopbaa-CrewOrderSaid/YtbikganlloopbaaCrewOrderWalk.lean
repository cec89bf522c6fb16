/-
  What stands here: the walk of CrewOrder. Under no condition but that its arguments fit their types.
-/
import Derived.Test.YtbikganlloopbaaCrewAlive
namespace Go.Proofs.Ytbikganlloopbaa
set_option linter.unusedVariables false
set_option linter.unusedSimpArgs false
open Go.RowKit Go.Proofs
/-- a floor with one worker -/
structure C1 (base : Nat) (col : Nat → Nat) (f p g N M : Nat) (cf : Nat → Int) (bz : Int) (xs logs : List FiringV) (k : Nat) (n : Int) (ho : Option FiringV) (w W : World) : Prop where
  fr : Fr base col w W
  st : CF col f p g N M cf bz xs logs W
  wk : Wk col 0 f k n ho W
theorem C1.still {base : Nat} {col : Nat → Nat} {f p g N M : Nat} {cf : Nat → Int} {bz : Int} {xs logs : List FiringV} {k : Nat} {n : Int} {ho : Option FiringV} {w W W' : World} (h : C1 base col f p g N M cf bz xs logs k n ho w W) (kk : Still W W') : C1 base col f p g N M cf bz xs logs k n ho w W' :=
  ⟨h.fr.still kk, h.st.still kk, h.wk.move (S := fun _ => False) (.still kk) id⟩
theorem c1_begin {base : Nat} {col : Nat → Nat} {f p g N M : Nat} {cf : Nat → Int} {bz : Int} {xs logs : List FiringV} {w W : World} (hfr : Fr base col w W) (h : CF col f p g N M cf bz xs logs W) :
    Calls Try.prog 10 #[.pointer (some ⟨f, 0, none⟩)] W fun e w' => ∃ k col', e = .returned (.tuple #[.pointer (some ⟨k, 0, none⟩), .int .i64 0]) ∧ C1 base col' f p g N M cf bz xs logs k 0 none w w' := by
  refine (cbegin f W).mono ?_
  rintro e w1 ⟨k, q, bx, rfl, zk, zq, zx, b1, b2, b3, k1⟩
  have m : Move (fun _ => False) col (ext col W.heap.size 10) W w1 := Move.ext (k1.mono fun _ _ f => f.elim) 10
  exact ⟨k, _, rfl, hfr.move m id, h.move m id id id id, q, bx, 0, ⟨b1, ext_new _ zk⟩, ⟨b2, ext_new _ zq⟩, ⟨b3, ext_new _ zx⟩⟩
/-- where one worker stands behind t steps -/
def atStep (xs : List FiringV) (t : Nat) : Int × List FiringV × List FiringV × Int × Option FiringV :=
  if t % 2 = 0 then (0, xs.drop (t / 2), xs.take (t / 2), (t / 2 : Nat), none) else (1, xs.drop (t / 2 + 1), xs.take (t / 2), (t / 2 : Nat), xs[t / 2]?)
theorem c1_step {base : Nat} {col : Nat → Nat} {f p g N M : Nat} {cf : Nat → Int} {xs : List FiringV} {k t : Nat} {w W : World} (hM : M < 90000) (hl : xs.length < 1000) (ht : t < 2 * xs.length)
    (h : C1 base col f p g N M cf (atStep xs t).1 (atStep xs t).2.1 (atStep xs t).2.2.1 k (atStep xs t).2.2.2.1 (atStep xs t).2.2.2.2 w W) :
    Calls Try.prog 14 #[.pointer (some ⟨k, 0, none⟩)] W fun e w' => e = .returned (.bool true) ∧ ∃ col', C1 base col' f p g N M cf (atStep xs (t + 1)).1 (atStep xs (t + 1)).2.1 (atStep xs (t + 1)).2.2.1 k (atStep xs (t + 1)).2.2.2.1 (atStep xs (t + 1)).2.2.2.2 w w' := by
  obtain ⟨x, hx⟩ : ∃ x, xs[t / 2]? = some x := ⟨_, List.getElem?_eq_getElem (by omega)⟩
  obtain ⟨fr, st, wk⟩ := h
  by_cases h2 : t % 2 = 0
  · have e1 : atStep xs t = (0, xs.drop (t / 2), xs.take (t / 2), ((t / 2 : Nat) : Int), none) := if_pos h2
    have e2 : atStep xs (t + 1) = (1, xs.drop (t / 2 + 1), xs.take (t / 2), ((t / 2 : Nat) : Int), some x) := by
      unfold atStep
      rw [if_neg (by omega), show (t + 1) / 2 = t / 2 by omega, hx]
    rw [e1] at st wk
    rw [e2]
    have hd : xs.drop (t / 2) = x :: xs.drop (t / 2 + 1) := by
      rw [List.drop_eq_getElem_cons (by omega : t / 2 < xs.length)]
      congr 1
      exact Option.some.inj ((List.getElem?_eq_getElem (by omega)).symm.trans hx)
    simp only [hd] at st
    refine (cw_take st (by omega) (by omega) wk).mono ?_
    rintro e w1 ⟨rfl, col', m, h1, h2⟩
    exact ⟨rfl, col', fr.move m (by show ¬ (_ ∨ _); omega), by simpa using h1, h2⟩
  · have e1 : atStep xs t = (1, xs.drop (t / 2 + 1), xs.take (t / 2), ((t / 2 : Nat) : Int), some x) := by unfold atStep; rw [if_neg h2, hx]
    have e2 : atStep xs (t + 1) = (0, xs.drop (t / 2 + 1), xs.take (t / 2 + 1), ((t / 2 : Nat) : Int) + 1, none) := by
      unfold atStep
      rw [if_pos (by omega), show (t + 1) / 2 = t / 2 + 1 by omega]
      simp
    rw [e1] at st wk
    rw [e2]
    have htk : xs.take (t / 2 + 1) = xs.take (t / 2) ++ [x] := by rw [List.take_add_one, hx]; rfl
    rw [htk]
    have hn0 : (0 : Int) ≤ ((t / 2 : Nat) : Int) ∧ ((t / 2 : Nat) : Int) < 1000000 := by omega
    refine (cw_put st (by simp; omega) (by omega) hn0 wk).mono ?_
    rintro e w1 ⟨rfl, col', m, h1, h2⟩
    exact ⟨rfl, col', fr.move m (by show ¬ (_ ∨ _); omega), by simpa using h1, h2⟩
set_option maxHeartbeats 4000000 in
set_option maxRecDepth 100000 in
theorem crewOrder_walk (a0 : Int) (a1 : Option Addr) (len1 cap1 : Nat) (f1_0 : Nat → Int) (f1_1 : Nat → Int) (f1_2 : Nat → Int) (f1_3 : Nat → Int) (w : World) (w0 : (Lit.int .u8 a0).wf = true) (w1 : (len1 ≤ cap1 ∧ cap1 ≤ maxLen) ∧ (0 < len1 → ∃ b o, a1 = some ⟨b, o, none⟩ ∧ b < w.heap.size ∧ ∀ i, i < len1 → w.cell? ⟨b, o + i * 4, none⟩ = some (.int .u64 (f1_0 i)) ∧ (Lit.int .u64 (f1_0 i)).wf = true ∧ w.cell? ⟨b, o + i * 4 + 1, none⟩ = some (.int .u64 (f1_1 i)) ∧ (Lit.int .u64 (f1_1 i)).wf = true ∧ w.cell? ⟨b, o + i * 4 + 2, none⟩ = some (.int .u64 (f1_2 i)) ∧ (Lit.int .u64 (f1_2 i)).wf = true ∧ w.cell? ⟨b, o + i * 4 + 3, none⟩ = some (.int .u64 (f1_3 i)) ∧ (Lit.int .u64 (f1_3 i)).wf = true)) :
    Calls Try.prog 3 #[.int .u8 a0, .slice a1 len1 cap1] w fun e w' => e = .returned (.bool true) ∧ Below w.heap.size w w' := by
  have h0 := bd_u8 w0
  clear w0
  obtain ⟨m, rfl⟩ : ∃ m : Nat, a0 = m := ⟨a0.toNat, by omega⟩
  obtain ⟨N, hN⟩ : ∃ N : Nat, N = 1 + m % 16 := ⟨_, rfl⟩
  have hN2 : 1 ≤ N ∧ N ≤ 16 := by omega
  have hmod : (1 : Int) + (m : Int) % 16 = (N : Int) := by omega
  have hwr : wrap64 (m : Int) = m := wrap64_in _ (by omega) (by omega)
  have hwN : wrap64 (N : Int) = N := wrap64_in _ (by omega) (by omega)
  obtain ⟨xs, hxs⟩ : ∃ xs : List FiringV, xs = (List.range len1).map fun i => ⟨f1_0 i, f1_1 i, f1_2 i, f1_3 i⟩ := ⟨_, rfl⟩
  have hlen : xs.length = len1 := by rw [hxs]; simp
  have hrow : FRow (· < w.heap.size) w (.slice a1 len1 cap1) xs := by
    refine ⟨a1, cap1, by rw [hlen], by rw [hlen]; exact w1.1.1, w1.1.2, fun hp => ?_⟩
    rw [hlen] at hp
    obtain ⟨b, o, ha, hb, hc⟩ := w1.2 hp
    refine ⟨b, o, ha, hb, hb, fun j t hj i hi => ?_⟩
    have hjl : j < len1 := by rw [← hlen]; exact (List.getElem?_eq_some_iff.1 hj).1
    rw [hxs, List.getElem?_map, List.getElem?_range hjl] at hj
    simp only [Option.map_some, Option.some.injEq] at hj
    subst hj
    obtain ⟨c0, -, c1, -, c2, -, c3, -⟩ := hc j hjl
    match i, hi with
    | 0, _ => exact c0
    | 1, _ => exact c1
    | 2, _ => exact c2
    | 3, _ => exact c3
  have HROW := Lib.hid hrow
  have HLEN := Lib.hid hlen
  have hcap : len1 ≤ cap1 ∧ cap1 ≤ 9223372036854775807 := by have := w1.1; unfold maxLen at this; omega
  clear hN hxs hrow hlen w1 h0
  go_enter Try.func3, Try.ntmps3
  go_wp2_with fail
  refine (alive_any w).mono ?_
  rintro e w2 ⟨rfl, k2⟩
  have FR2 := Lib.hid (Fr.start k2)
  clear k2
  by_cases hbig : 100 < len1
  · have hd : decide ((100 : Int) < (len1 : Int)) = true := decide_eq_true (by omega)
    go_wp2_with fail
    go_ret
    exact ⟨rfl, FR2.out.bel⟩
  have hd : decide ((100 : Int) < (len1 : Int)) = false := decide_eq_false (by omega)
  go_wp2_with fail
  refine (cplain 1 N w2).mono ?_
  rintro e w3 ⟨rfl, k3⟩
  have fr3 := FR2.out.still k3
  go_wp2_with fail
  refine (cf_new w fr3 N 1 hN2 (by omega)).mono ?_
  rintro e w4 ⟨f, p, g, col4, rfl, fr4, cf4⟩
  have F4 := Lib.hid fr4
  have C4 := Lib.hid cf4
  clear fr4 cf4 fr3 k3
  go_wp2_with fail
  refine (c1_begin F4.out C4.out).mono ?_
  rintro e w5 ⟨k, col5, rfl, c5⟩
  have C5 := Lib.hid c5
  have HMAY := Lib.hid (cw_may c5.st (by omega) c5.wk)
  clear c5
  go_wp2_with fail
  refine HMAY.out.mono ?_
  rintro e w6 ⟨rfl, k6⟩
  have C6 := Lib.hid (C5.out.still k6)
  clear k6
  rw [show ((none : Option FiringV).isSome || decide (0 < ([] : List FiringV).length)) = false from rfl]
  go_wp2_with fail
  go_loopw [9] (fun p9 wr => ∃ (j : Nat) (colj : Nat → Nat), p9 = .int .i64 j ∧ j ≤ len1 ∧ C1 w.heap.size colj f p g N j (cfP N 1) 0 (xs.take j) [] k 0 none w wr) (fun p9 _ => len1 - (intOf p9).toNat)
  case atStart => exact ⟨0, _, rfl, Nat.zero_le _, C6.out⟩
  case round =>
    obtain ⟨j, colj, rfl, hj, hc⟩ := hrel
    have CJ := Lib.hid hc
    clear hc
    by_cases hjl : j < len1
    · obtain ⟨x, hx⟩ : ∃ x, xs[j]? = some x := ⟨_, List.getElem?_eq_getElem (by rw [HLEN.out]; exact hjl)⟩
      obtain ⟨a', cap', hv, -, -, h9⟩ := HROW.out
      rw [HLEN.out] at hv h9
      obtain ⟨b, o, ha, hb, hbq, hc⟩ := h9 (by omega)
      simp only [Value.slice.injEq] at hv
      obtain ⟨rfl, -, rfl⟩ := hv
      subst ha
      have cell : ∀ i v, w.cell? ⟨b, i, none⟩ = some v → wr.cell? ⟨b, i, none⟩ = some v := fun i v h9 => (CJ.out.fr.cell hb).trans h9
      have a0 : wr.cell? ⟨b, o + j * 4, none⟩ = some (.int .u64 x.id) := cell _ _ (hc j x hx 0 (by omega))
      have a1 : wr.cell? ⟨b, o + j * 4 + 1, none⟩ = some (.int .u64 x.gen) := cell _ _ (hc j x hx 1 (by omega))
      have a2 : wr.cell? ⟨b, o + j * 4 + 2, none⟩ = some (.int .u64 x.dl) := cell _ _ (hc j x hx 2 (by omega))
      have a3 : wr.cell? ⟨b, o + j * 4 + 3, none⟩ = some (.int .u64 x.tick) := cell _ _ (hc j x hx 3 (by omega))
      have CB := Lib.hid (cells_of_cell a0)
      have hst : ∀ wn, Kept (fun y => w.heap.size ≤ y) wr wn → StayB [b] wr wn := fun wn kn y hy => by
        rw [List.mem_singleton] at hy
        subst hy
        exact kn.block _ (lt_of_cell a0) (by omega)
      have HST := Lib.hid hst
      have HX := Lib.hid hx
      clear hc cell hx hst
      go_upto_region 14 with fail
      refine wp_region_text ([4], [9]) [b] (by kernel_rfl) (by kernel_rfl) (cellsB_cons CB.out cellsB_nil) (by simp [segs, isEff, isLoad, askOps, asks, ptrEq, eqOrNe, isNil]; rfl) ?_
      (repeat ((first | (refine segs_nil ?_) | (refine segs_go (stay_drew) ?_ ?_; focus (simp [isLoad]; done)) | (refine segs_load (stay_drew) ?_ ?_; focus (intro h; first | exact ⟨b, _, rfl, by simp⟩ | (simp [Region.wanted, yielded, undef] at h; done))) | fail); go_wp2_with fail))
      refine (cf_pipe (CJ.out.st.still ((still_refl wr).drewN 1))).mono ?_
      rintro e wp ⟨rfl, rfl⟩
      go_wp2_with fail
      (repeat ((first | (refine segs_nil ?_) | (refine segs_go (stay_drew) ?_ ?_; focus (simp [isLoad]; done)) | (refine segs_load (stay_drew) ?_ ?_; focus (intro h; first | exact ⟨b, _, rfl, by simp⟩ | (simp [Region.wanted, yielded, undef] at h; done))) | fail); go_wp2_with fail))
      refine (cf_put (CJ.out.st.still ((still_refl wr).drewN 1)) (by omega) x).mono ?_
      rintro e wq ⟨rfl, colq, mq, cfq⟩
      have kq : Kept (fun y => w.heap.size ≤ y) wr wq := Kept.step ((((still_refl wr).drewN 1)).mono (fun _ _ f => f.elim)) mq.k (fun y hy h9 => by
        rcases Nat.lt_or_ge y w.heap.size with h8 | h8
        · rw [CJ.out.fr.low y h8] at h9; omega
        · exact h8)
      have hs9 := HST.out wq kq
      have CQ : Hid (C1 w.heap.size colq f p g N (j + 1) (cfP N 1) 0 (xs.take (j + 1)) [] k 0 none w wq) := Lib.hid (by
        have htk : xs.take (j + 1) = xs.take j ++ [x] := by rw [List.take_add_one, HX.out]; rfl
        rw [htk]
        exact ⟨(CJ.out.fr.still ((still_refl wr).drewN 1)).move mq (by omega), cfq, (CJ.out.still ((still_refl wr).drewN 1)).wk.move mq (by omega)⟩)
      clear mq cfq kq a0 a1 a2 a3
      go_wp2_with fail
      refine segs_go hs9 (by simp [isLoad]) ?_
      clear hs9
      go_wp2_with fail
      refine segs_nil ?_
      go_wp2_with fail
      go_roundw
      case rel => exact ⟨j + 1, colq, by go_num, hjl, CQ.out⟩
      case measure => simp [intOf]; omega
    · obtain rfl : j = len1 := by omega
      have hd2 : ∀ t : Nat, t < 2 * j → decide ((t : Int) ≤ 2 * (j : Int)) = true := fun t ht => decide_eq_true (by omega)
      have CJ0 : Hid (C1 w.heap.size colj f p g N j (cfP N 1) (atStep xs 0).1 (atStep xs 0).2.1 (atStep xs 0).2.2.1 k (atStep xs 0).2.2.2.1 (atStep xs 0).2.2.2.2 w wr) := Lib.hid (by
        have h9 := CJ.out
        rw [List.take_of_length_le (by rw [HLEN.out]; omega)] at h9
        simpa [atStep] using h9)
      go_wp2_with fail
      go_loopw [10] (fun t9 wt => ∃ (t : Nat) (colt : Nat → Nat), t9 = .int .i64 t ∧ t ≤ 2 * j ∧ C1 w.heap.size colt f p g N j (cfP N 1) (atStep xs t).1 (atStep xs t).2.1 (atStep xs t).2.2.1 k (atStep xs t).2.2.2.1 (atStep xs t).2.2.2.2 w wt) (fun t9 _ => 2 * j - (intOf t9).toNat)
      case atStart => exact ⟨0, _, rfl, Nat.zero_le _, CJ0.out⟩
      case round =>
        clear CJ CJ0
        obtain ⟨t, colt, rfl, ht, hc⟩ := hrel
        have CT := Lib.hid hc
        clear hc
        have hde : decide ((t : Int) ≤ 2 * (j : Int)) = true := decide_eq_true (by omega)
        by_cases htl : t < 2 * j
        · have HS := Lib.hid (c1_step (by omega) (by rw [HLEN.out]; omega) (by rw [HLEN.out]; omega) CT.out)
          go_wp2_with fail
          refine HS.out.mono ?_
          rintro e wu ⟨rfl, colu, cu⟩
          have CU := Lib.hid cu
          clear cu
          go_wp2_with fail
          go_roundw
          case rel => exact ⟨t + 1, colu, by go_num, htl, CU.out⟩
          case measure => simp [intOf]; omega
        · obtain rfl : t = 2 * j := by omega
          have e9 : atStep xs (2 * j) = (0, [], xs, (j : Int), none) := by
            unfold atStep
            rw [if_pos (by omega), show 2 * j / 2 = j by omega, List.drop_eq_nil_of_le (by rw [HLEN.out]; omega), List.take_of_length_le (by rw [HLEN.out]; omega)]
          have hct := CT.out
          rw [e9] at hct
          have CE := Lib.hid (show C1 w.heap.size colt f p g N j (cfP N 1) 0 [] xs k j none w _ from hct)
          have HNO := Lib.hid (cw_no CE.out.st (by omega) CE.out.wk)
          clear hct e9 CT
          go_wp2_with fail
          refine HNO.out.mono ?_
          rintro e wu ⟨rfl, ku⟩
          have CU := Lib.hid (CE.out.still ku)
          clear ku
          go_wp2_with fail
          refine (cw_worked CU.out.wk).mono ?_
          rintro e wv ⟨rfl, rfl⟩
          go_wp2_with fail
          refine (cf_log CU.out.st).mono ?_
          rintro e wv ⟨rfl, rfl⟩
          go_wp2_with fail
          refine (cf_all CU.out.st (by rw [HLEN.out]; omega)).mono ?_
          rintro e wv ⟨v9, rfl, ho9, k9⟩
          have CV := Lib.hid (CU.out.still k9)
          have r9 := FRow.of_owns ho9
          obtain ⟨a9, c9, rfl⟩ := owns_slice ho9
          have R9 := Lib.hid r9
          have hsm := rsame _ _ _ _ _ _ wv R9.out (HROW.out.keep (kept_of_below CV.out.fr.bel) (fun b hb _ h9 => by omega)) (by rw [HLEN.out]; omega)
          rw [HLEN.out] at hsm
          have HSM := Lib.hid hsm
          clear ho9 r9 k9 hsm
          rw [HLEN.out]
          go_wp2_with fail
          refine HSM.out.mono ?_
          rintro e wz ⟨rfl, kz⟩
          rw [show (decide True) = true from rfl]
          have CZ := Lib.hid (CV.out.still kz)
          clear kz
          go_wp2_with fail
          go_ret
          exact ⟨rfl, CZ.out.fr.bel⟩
end Go.Proofs.Ytbikganlloopbaa
