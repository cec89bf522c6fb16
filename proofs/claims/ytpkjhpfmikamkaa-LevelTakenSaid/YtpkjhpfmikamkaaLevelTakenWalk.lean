/-
  What stands here: the walk of LevelTaken. Under no condition but that its arguments fit their types.
-/
import Derived.Test.YtpkjhpfmikamkaaLevelOne
namespace Go.Proofs.Ytpkjhpfmikamkaa
set_option linter.unusedVariables false
set_option linter.unusedSimpArgs false
open Go.RowKit Go.Proofs

/-- two levels -/
structure Lv2 (base va vb : Nat) (sla slb : Nat → Nat) (s : LS) (w W : World) : Prop where
  lw : LW_i s W
  la : LvB_i s va sla W
  lb : LvB_i s vb slb W
  ne : va ≠ vb
  dis : ∀ k k', k < 64 → k' < 64 → sla k ≠ slb k'
  bel : Below base w W
  low : ∀ y, y < base → s.kd y = 0
  le : base ≤ w.heap.size
  only : ∀ y, (∀ k, k < 64 → y ≠ sla k) → (∀ k, k < 64 → y ≠ slb k) → s.sq y = []
section
variable {base va vb : Nat} {sla slb : Nat → Nat} {s : LS} {w W : World}
theorem Lv2.size (h : Lv2 base va vb sla slb s w W) : base ≤ W.heap.size := Nat.le_trans h.le h.bel.size
theorem Lv2.still (h : Lv2 base va vb sla slb s w W) {W' : World} (k : Still W W') : Lv2 base va vb sla slb s w W' := ⟨h.lw.still k, h.la.still k, h.lb.still k, h.ne, h.dis, below_still h.bel k h.le, h.low, h.le, h.only⟩
theorem Lv2.swap (h : Lv2 base va vb sla slb s w W) : Lv2 base vb va slb sla s w W := ⟨h.lw, h.lb, h.la, h.ne.symm, fun k k' h1 h2 e => h.dis k' k h2 h1 e.symm, h.bel, h.low, h.le, fun y h1 h2 => h.only y h2 h1⟩
theorem Lv2.node (h : Lv2 base va vb sla slb s w W) {x : Nat} (hx : W.heap.size = x) (u : Value) : Lv2 base va vb sla slb (s.node x u) w (W.alloc (.cells #[u, .pointer none, .pointer none, .pointer none] 30)) :=
  ⟨h.lw.node u hx, h.la.node h.lw hx u, h.lb.node h.lw hx u, h.ne, h.dis, below_still h.bel ((still_refl W).alloc _) h.le, fun y hy => by
    show upd s.kd x 2 y = 0
    have := h.size
    rw [upd_ne _ _ (by omega)]; exact h.low y hy, h.le, h.only⟩
theorem Lv2.turn (h : Lv2 base va vb sla slb s w W) {s' : LS} {W' : World} {j : Nat} {ys : List Nat} (h1 : LW_i s' W') (h2 : LvB_i s' va sla W') (k : Kept (fun y => s.kd y = 1 ∨ s.kd y = 2 ∨ y = va) W W') (hk : s'.kd = s.kd) (hj : j < 64) (hq : s'.sq = upd s.sq (sla j) ys) : Lv2 base va vb sla slb s' w W' :=
  ⟨h1, h2, h.lb.carry k (by have := h.lb.kv; have := h.ne; rintro (h9 | h9 | h9) <;> omega) (by rw [hk]) (fun _ _ => by rw [hk]) (fun k hk9 => by rw [hq, upd_ne _ _ (fun e => h.dis j k hj hk9 e.symm)]), h.ne, h.dis, below_step h.bel k h.le (fun i hi h9 => by
    have := h.low i hi
    have h8 := h.la.kv
    rcases h9 with h9 | h9 | h9
    · omega
    · omega
    · rw [← h9] at h8; omega), fun y hy => by rw [hk]; exact h.low y hy, h.le, fun y hy hy2 => by rw [hq, upd_ne _ _ (hy j hj)]; exact h.only y hy hy2⟩
theorem Lv2.no (h : Lv2 base va vb sla slb s w W) {x : Nat} (hx : ∀ k, k < 64 → x ∉ s.sq (sla k)) (hx2 : ∀ k, k < 64 → x ∉ s.sq (slb k)) : ∀ l', s.kd l' = 1 → x ∉ s.sq l' := fun l' _ h2 => by
  by_cases e : ∃ k, k < 64 ∧ l' = sla k
  · obtain ⟨k, hk, rfl⟩ := e
    exact hx k hk h2
  · by_cases e2 : ∃ k, k < 64 ∧ l' = slb k
    · obtain ⟨k, hk, rfl⟩ := e2
      exact hx2 k hk h2
    · rw [h.only l' (fun k hk e9 => e ⟨k, hk, e9⟩) (fun k hk e9 => e2 ⟨k, hk, e9⟩)] at h2; cases h2
theorem NRow.lv {base va : Nat} {s s' : LS} {nv : Value} {xs : List Nat} {W W' : World} (h : NRow base s nv xs W) (hv : s.kd va = 4) (k : Kept (fun y => s.kd y = 1 ∨ s.kd y = 2 ∨ y = va) W W') (hk : s'.kd = s.kd) : NRow base s' nv xs W' :=
  h.kept k (fun b _ hb h9 => by
    rcases h9 with h9 | h9 | h9
    · omega
    · omega
    · rw [h9] at hb; omega) (fun y _ => by rw [hk])
end
theorem wf_in {n : Nat} (h : n < 9223372036854775807) : (Lit.int .i64 (n : Int)).wf = true := WalkArith.wf_i64 (by omega)

set_option maxHeartbeats 4000000 in
set_option maxRecDepth 100000 in
theorem levelTaken_walk (a0 : Option Addr) (len0 cap0 : Nat) (z0 : List Int) (a1 a2 : Int) (w : World) (w0 : IsRow .i64 w a0 len0 cap0 z0) (w1 : (Lit.int .u8 a1).wf = true) (w2 : (Lit.int .u8 a2).wf = true) :
    Calls Try.prog 4 #[.slice a0 len0 cap0, .int .u8 a1, .int .u8 a2] w fun e w' => e = .returned (.bool true) ∧ Below w.heap.size w w' := by
  have h1 := bd_u8 w1
  have h2 := bd_u8 w2
  have hle0 := w0.le
  unfold maxLen at hle0
  have HA := Lib.hid w0
  clear w0 w1 w2
  by_cases h100 : 100 < len0
  · go_enter Try.func4, Try.ntmps4
    go_wp2_with fail
    refine (alive_any w).mono ?_
    rintro e w1 ⟨rfl, k1⟩
    go_wp2_with fail
    go_ret
    exact ⟨rfl, k1⟩
  have hzl : len0 ≤ z0.length := by
    rcases HA.out with ⟨_, h, _⟩ | ⟨x, _, hl, _, hzl, _, hw⟩ <;> omega
  obtain ⟨kf, hkf⟩ : ∃ q : Nat, (q : Int) = a1 % 64 := ⟨(a1 % 64).toNat, by have := Int.emod_nonneg a1 (show (64 : Int) ≠ 0 by omega); omega⟩
  obtain ⟨kt, hkt⟩ : ∃ q : Nat, (q : Int) = a2 % 64 := ⟨(a2 % 64).toNat, by have := Int.emod_nonneg a2 (show (64 : Int) ≠ 0 by omega); omega⟩
  have hkfl : kf < 64 := by have := Int.emod_lt_of_pos a1 (show (0 : Int) < 64 by omega); omega
  have hktl : kt < 64 := by have := Int.emod_lt_of_pos a2 (show (0 : Int) < 64 by omega); omega
  have HF := Lib.hid hkf
  have HT := Lib.hid hkt
  clear hkf hkt
  go_enter Try.func4, Try.ntmps4
  go_wp2_with fail
  refine (alive_any w).mono ?_
  rintro e w1 ⟨rfl, k1⟩
  go_wp2_with fail
  refine (lvnew_i LS.zero w1 (LW_i.zero w1)).mono ?_
  rintro e w2 ⟨rfl, k2, s2, sla, l2, b2, n2, g2, q2, o2, v2⟩
  go_wp2_with fail
  refine (lvnew_i s2 w2 l2).mono ?_
  rintro e w3 ⟨rfl, k3, s3, slb, l3, b3, n3, g3, q3, o3, v3⟩
  have hz1 := k1.size
  have hz2 := k2.size
  have hva := b2.lt
  have hla : ∀ k, k < 64 → sla k < w2.heap.size := fun k hk => (l2.lists _ (b2.kl k hk)).lt
  have hab : ∀ k k', k < 64 → k' < 64 → sla k ≠ slb k' := fun k k' h8 h9 e => by
    have := hla k h8
    have := g3 k' h9
    omega
  have I3 : Lv2 w.heap.size w1.heap.size w2.heap.size sla slb s3 w w3 :=
    ⟨l3, b2.carry k3 (fun f => f) (n3 _ hva) (fun k hk => n3 _ (hla k hk)) (fun k hk => o3 _ (fun k' hk' => hab k k' hk hk')), b3, by omega, hab, below_still (below_still k1 k2 (Nat.le_refl _)) k3 (Nat.le_refl _), fun y hy => by rw [n3 y (by omega), n2 y (by omega)]; rfl, Nat.le_refl _, fun y h8 h9 => by rw [o3 y h9, o2 y h8]; rfl⟩
  have Q3 := Lib.hid (show (∀ k, k < 64 → s3.sq (sla k) = []) ∧ (∀ k, k < 64 → s3.sq (slb k) = []) from ⟨fun k hk => by rw [o3 _ (fun k' hk' => hab k k' hk hk')]; exact q2 k hk, q3⟩)
  have H3 := Lib.hid I3
  clear k1 k2 k3 l2 b2 n2 g2 q2 o2 v2 l3 b3 n3 g3 q3 o3 v3 hla hab I3 hva
  generalize w1.heap.size = va at *
  generalize w2.heap.size = vb at *
  go_wp2_with fail
  go_loopw [9] (fun i wr => ∃ (j : Nat) (s : LS) (xs : List Nat), j ≤ len0 ∧ i = .int .i64 j ∧ Lv2 w.heap.size va vb sla slb s w wr ∧ (s.sq (sla kf) = xs ∧ (∀ k, k < 64 → k ≠ kf → s.sq (sla k) = []) ∧ (∀ k, k < 64 → s.sq (slb k) = [])) ∧ xs.length = j ∧ valsOf_i s xs = (z0.take j).map (.int .i64)) (fun i _ => len0 - (intOf i).toNat)
  case atStart => exact ⟨0, s3, [], Nat.zero_le _, rfl, H3.out, ⟨Q3.out.1 kf hkfl, fun k hk _ => Q3.out.1 k hk, Q3.out.2⟩, rfl, rfl⟩
  case round =>
    obtain ⟨j, s, xs, hj, rfl, hI, hQ, hX, hV⟩ := hrel
    have I := Lib.hid hI
    have Q := Lib.hid hQ
    have X := Lib.hid hX
    have V := Lib.hid hV
    have hzr := hI.size
    have ht : tot (fun k => (s.sq (sla k)).length) = j := by
      have := tot_one (f := fun k => (s.sq (sla k)).length) (g := fun _ => 0) hkfl (fun k hk e => by rw [hQ.2.1 k hk e]; rfl)
      rw [tot_zero (f := fun _ => 0) (fun _ _ => rfl), hQ.1, hX] at this
      omega
    clear hI hQ hX hV
    by_cases hjl : j < len0
    · obtain ⟨ab, ao, rfl, hab, hac⟩ := HA.out.at_ (by omega)
      have c1 := (I.out.bel.cell (p := ⟨ab, ao + j, none⟩) hab).trans (hac j hjl)
      have HU := Lib.hid (show z0[j] = z0.getD j 0 by rw [List.getD_eq_getElem?_getD, List.getElem?_eq_getElem (by omega)]; rfl)
      generalize z0.getD j 0 = u at *
      clear hac
      go_wp2_with fail
      rw [← HF.out]
      have I4 := Lib.hid (I.out.node rfl (.int .i64 u))
      have hno := Lib.hid (I.out.lw.noList (x := wr.heap.size) (u := .int .i64 u) (Nat.le_refl _))
      have ex : wr.heap.size = wr.heap.size := rfl
      obtain ⟨x, hx⟩ : ∃ x, x = wr.heap.size := ⟨_, rfl⟩
      have hxs : ∀ y, y ∈ xs → y < x := fun y hy => by
        rw [hx]
        exact (I.out.lw.nodes y (I.out.lw.inv.mem (sla kf) y (I.out.la.kl kf hkfl) (by rw [Q.out.1]; exact hy)).1).lt
      rw [← hx] at I4 hno
      rw [← hx]
      have HXS := Lib.hid hxs
      generalize hw4 : wr.alloc (.cells #[.int .i64 u, .pointer none, .pointer none, .pointer none] 30) = w4 at *
      refine (lvput_i (s.node x (.int .i64 u)) va sla kf x w4 I4.out.lw I4.out.la hkfl (upd_same _ _ _) hno.out (by show tot (fun k => (s.sq (sla k)).length) < _; omega)).mono ?_
      rintro e w5 ⟨rfl, k5, s5, l5, b5, d5, q5, v5⟩
      have I5 := Lib.hid (I4.out.turn l5 b5 k5 d5 hkfl q5)
      have q5' : s5.sq = upd s.sq (sla kf) (xs ++ [x]) := by rw [q5, show (s.node x (.int .i64 u)).sq = s.sq from rfl, Q.out.1]
      have Q5 := Lib.hid q5'
      have V5 := Lib.hid (show LV s5 = upd (LV s) x (.int .i64 u) by rw [v5, LS.node_val])
      clear k5 l5 b5 d5 q5 v5 q5' hxs hx hw4 ex
      go_wp2_with fail
      go_roundw
      case rel =>
        refine ⟨j + 1, s5, xs ++ [x], by omega, by go_num, I5.out, ⟨by rw [Q5.out, upd_same], fun k hk e => ?_, fun k hk => ?_⟩, by rw [List.length_append, X.out]; rfl, ?_⟩
        · rw [Q5.out, upd_ne _ _ (fun e9 => e (I5.out.la.inj k kf hk hkfl e9))]; exact Q.out.2.1 k hk e
        · rw [Q5.out, upd_ne _ _ (fun e9 => I5.out.dis kf k hkfl hk e9.symm)]; exact Q.out.2.2 k hk
        · have e1 : valsOf_i s5 xs = valsOf_i s xs := List.map_congr_left fun y hy => by
            show LV s5 y = LV s y
            have := HXS.out y hy
            rw [V5.out, upd_ne _ _ (by omega)]
          have e2 : valsOf_i s5 [x] = [.int .i64 u] := by show [LV s5 x] = _; rw [V5.out, upd_same]
          have e3 : valsOf_i s5 (xs ++ [x]) = valsOf_i s5 xs ++ valsOf_i s5 [x] := List.map_append ..
          rw [e3, e1, e2, V.out, List.take_succ_eq_append_getElem (by omega), List.map_append, HU.out]; rfl
      case measure => simp [intOf]; omega
    · obtain rfl : j = len0 := by omega
      go_wp2_with fail
      rw [← HF.out]
      refine (lvtake_i s va sla kf wr I.out.lw I.out.la hkfl (by rw [ht]; omega)).mono ?_
      rintro e w4 ⟨⟨r, rfl, ho4⟩, k4, s4, l4, b4, d4, q4, v4⟩
      rw [Q.out.1] at ho4
      have I4 := Lib.hid (I.out.turn l4 b4 k4 d4 hkfl q4)
      have qa4 : ∀ k, k < 64 → s4.sq (sla k) = [] := fun k hk => by
        rw [q4]
        by_cases e : k = kf
        · rw [e, upd_same]
        · rw [upd_ne _ _ (fun e9 => e (I.out.la.inj k kf hk hkfl e9))]; exact Q.out.2.1 k hk e
      have qb4 : ∀ k, k < 64 → s4.sq (slb k) = [] := fun k hk => by rw [q4, upd_ne _ _ (fun e9 => I.out.dis kf k hkfl hk e9.symm)]; exact Q.out.2.2 k hk
      have QA := Lib.hid qa4
      have QB := Lib.hid qb4
      have R4 : NRow wr.heap.size s4 r xs w4 := ⟨ho4, fun b hb => by rw [d4]; exact I.out.lw.fresh b (owns_block ho4 b hb)⟩
      obtain ⟨ra, rc, rfl⟩ := owns_slice ho4
      have RR := Lib.hid R4
      have KX := Lib.hid (show (∀ x, x ∈ xs → s4.kd x = 2) ∧ xs.Nodup ∧ valsOf_i s4 xs = (z0.take j).map (.int .i64) from
        ⟨fun x hx => by rw [d4]; exact (I.out.lw.inv.mem (sla kf) x (I.out.la.kl kf hkfl) (by rw [Q.out.1]; exact hx)).1, by rw [← Q.out.1]; exact I.out.lw.inv.nodup _ (I.out.la.kl kf hkfl), by
          rw [← V.out]
          exact List.map_congr_left fun y _ => by show LV s4 y = LV s y; rw [v4]⟩)
      have ht4 : tot (fun k => (s4.sq (sla k)).length) = 0 := tot_zero fun k hk => by rw [qa4 k hk]; rfl
      rw [X.out]
      generalize wr.heap.size = B at *
      clear l4 b4 k4 d4 q4 v4 qa4 qb4 R4 ho4
      have HT4 := Lib.hid ht4
      clear ht4 ht
      go_wp2_with fail
      refine (lvlen_i s4 va sla w4 I4.out.la).mono ?_
      rintro e w5 ⟨rfl, rfl⟩
      rw [HT4.out]
      go_wp2_with fail
      refine (lvmap_i s4 va sla w4 I4.out.la).mono ?_
      rintro e w5 ⟨u, rfl, rfl, hu⟩
      obtain rfl : u = 0 := hu.unique (UsedOk.zero (g := fun _ => []) (fun _ _ => rfl)) (fun k hk => by rw [QA.out k hk])
      clear hu
      go_wp2_with fail
      rw [← HF.out]
      refine (lvtake_i s4 va sla kf w4 I4.out.lw I4.out.la hkfl (by rw [HT4.out]; omega)).mono ?_
      rintro e w5 ⟨⟨r5, rfl, ho5⟩, k5, s5, l5, b5, d5, q5, v5⟩
      rw [QA.out kf hkfl] at ho5
      obtain ⟨ra5, rc5, rfl⟩ := owns_slice ho5
      have I5 := Lib.hid (I4.out.turn l5 b5 k5 d5 hkfl q5)
      have R5 := Lib.hid (RR.out.lv I4.out.la.kv k5 d5)
      have e5 : s5.sq = s4.sq := by rw [q5, ← QA.out kf hkfl, upd_id]
      have Q5 := Lib.hid (show s5.sq (slb kt) = xs.take 0 ∧ (∀ k, k < 64 → k ≠ kt → s5.sq (slb k) = []) ∧ (∀ k, k < 64 → s5.sq (sla k) = []) from ⟨by rw [e5, QB.out kt hktl]; rfl, fun k hk _ => by rw [e5]; exact QB.out k hk, fun k hk => by rw [e5]; exact QA.out k hk⟩)
      have KX5 := Lib.hid (show (∀ x, x ∈ xs → s5.kd x = 2) ∧ valsOf_i s5 xs = (z0.take j).map (.int .i64) from
        ⟨fun x hx => by rw [d5]; exact KX.out.1 x hx, by
          rw [← KX.out.2.2]
          exact List.map_congr_left fun y _ => by show LV s5 y = LV s4 y; rw [v5]⟩)
      clear l5 b5 k5 d5 q5 v5 ho5 e5
      rw [show ([] : List Nat).length = 0 from rfl]
      go_wp2_with fail
      go_loopw [11] (fun i wr => ∃ (i' : Nat) (s : LS), i' ≤ j ∧ i = .int .i64 i' ∧ Lv2 w.heap.size va vb sla slb s w wr ∧ NRow B s (.slice ra xs.length rc) xs wr ∧ (s.sq (slb kt) = xs.take i' ∧ (∀ k, k < 64 → k ≠ kt → s.sq (slb k) = []) ∧ (∀ k, k < 64 → s.sq (sla k) = [])) ∧ (∀ x, x ∈ xs → s.kd x = 2) ∧ valsOf_i s xs = (z0.take j).map (.int .i64)) (fun i _ => j - (intOf i).toNat)
      case atStart => exact ⟨0, s5, Nat.zero_le _, rfl, I5.out, R5.out, Q5.out, KX5.out⟩
      case round =>
        obtain ⟨i, s6, hi, rfl, hI6, hR6, hQ6, hK6, hV6⟩ := hrel
        have I6 := Lib.hid hI6
        have R6 := Lib.hid hR6
        have Q6 := Lib.hid hQ6
        have K6 := Lib.hid hK6
        have V6 := Lib.hid hV6
        have ht6 : tot (fun k => (s6.sq (slb k)).length) = i := by
          have := tot_one (f := fun k => (s6.sq (slb k)).length) (g := fun _ => 0) hktl (fun k hk e => by rw [hQ6.2.1 k hk e]; rfl)
          rw [tot_zero (f := fun _ => 0) (fun _ _ => rfl), hQ6.1, List.length_take, X.out] at this
          omega
        clear hI6 hR6 hQ6 hK6 hV6
        by_cases hij : i < j
        · have hix : i < xs.length := by rw [X.out]; exact hij
          obtain ⟨gb, go, rfl, hgb, _, _, hgc⟩ := R6.out.at_ hix
          have hxm : xs.getD i 0 ∈ xs := by rw [List.getD_eq_getElem?_getD, List.getElem?_eq_getElem hix]; exact List.getElem_mem _
          have hxt : xs.take (i + 1) = xs.take i ++ [xs.getD i 0] := by rw [List.take_succ_eq_append_getElem hix, List.getD_eq_getElem?_getD, List.getElem?_eq_getElem hix]; rfl
          have hxn : xs.getD i 0 ∉ xs.take i := fun h9 => by
            have h8 := KX.out.2.1.sublist (List.take_sublist (i + 1) xs)
            rw [hxt] at h8
            exact (List.nodup_append.1 h8).2.2 _ h9 _ (by simp) rfl
          generalize xs.getD i 0 = x at *
          have hkx := K6.out x hxm
          have XT := Lib.hid hxt
          have XN := Lib.hid hxn
          have hix1 := fun w => run_indexAt_at (P := Try.prog) (a := some ⟨gb, go, none⟩) (cap := rc) (s := 1) (i := i) (len := j) rfl Try.underlying26 (fun w => by kernel_rfl) hij w
          clear hxm hxt hxn
          go_wp2_with fail
          rw [← HF.out]
          refine (lvrem_no_i s6 va sla kf (some ⟨x, 0, none⟩) 6 (by decide) _ I6.out.la hkfl (lunlink_no_i s6 _ I6.out.lw _ x (I6.out.la.kl kf hkfl) hkx (by rw [Q6.out.2.2 kf hkfl]; simp))).mono ?_
          rintro e w7 ⟨rfl, k7⟩
          have I7 := Lib.hid (I6.out.still k7)
          have R7 := Lib.hid (R6.out.still k7)
          have hgc7 : w7.cell? ⟨gb, go + i, none⟩ = some (.pointer (some ⟨x, 0, none⟩)) := (World.cell?_of_block (a := ⟨gb, go + i, none⟩) (k7.block gb hgb (fun f => f))).trans hgc
          clear k7 hgc
          go_wp2_with fail
          rw [← HT.out]
          refine (lvput_i s6 vb slb kt x w7 I7.out.lw I7.out.lb hktl hkx (I7.out.no (fun k hk => by rw [Q6.out.2.2 k hk]; simp) (fun k hk => by
            by_cases e : k = kt
            · rw [e, Q6.out.1]; exact XN.out
            · rw [Q6.out.2.1 k hk e]; simp)) (by rw [ht6]; omega)).mono ?_
          rintro e w8 ⟨rfl, k8, s8, l8, b8, d8, q8, v8⟩
          have I8 := Lib.hid (I7.out.swap.turn l8 b8 k8 d8 hktl q8).swap
          have R8 := Lib.hid (R7.out.lv I7.out.lb.kv k8 d8)
          have Q8 := Lib.hid (show s8.sq (slb kt) = xs.take (i + 1) ∧ (∀ k, k < 64 → k ≠ kt → s8.sq (slb k) = []) ∧ (∀ k, k < 64 → s8.sq (sla k) = []) from
            ⟨by rw [q8, upd_same, Q6.out.1, XT.out], fun k hk e => by rw [q8, upd_ne _ _ (fun e9 => e (I7.out.lb.inj k kt hk hktl e9))]; exact Q6.out.2.1 k hk e, fun k hk => by rw [q8, upd_ne _ _ (I7.out.dis k kt hk hktl)]; exact Q6.out.2.2 k hk⟩)
          have K8 := Lib.hid (show (∀ x, x ∈ xs → s8.kd x = 2) ∧ valsOf_i s8 xs = (z0.take j).map (.int .i64) from
            ⟨fun x hx => by rw [d8]; exact K6.out x hx, by
              rw [← V6.out]
              exact List.map_congr_left fun y _ => by show LV s8 y = LV s6 y; rw [v8]⟩)
          clear k8 l8 b8 d8 q8 v8 hgc7
          go_wp2_with fail
          go_roundw
          case rel => exact ⟨i + 1, s8, by omega, by go_num, I8.out, R8.out, Q8.out, K8.out⟩
          case measure => simp [intOf]; omega
        · obtain rfl : i = j := by omega
          have q9 : s6.sq (slb kt) = xs := by rw [Q6.out.1, List.take_of_length_le (by rw [X.out]; omega)]
          have Q9 := Lib.hid q9
          clear q9
          go_wp2_with fail
          rw [← HT.out]
          refine (lvat_i s6 vb slb kt _ I6.out.lw I6.out.lb hktl (by rw [ht6]; omega) (fun x hx => by
            rw [Q9.out] at hx
            have : (s6.nd x).val ∈ valsOf_i s6 xs := List.mem_map.2 ⟨x, hx, rfl⟩
            rw [V6.out] at this
            obtain ⟨v, _, hv⟩ := List.mem_map.1 this
            exact ⟨v, hv.symm⟩)).mono ?_
          rintro e w7 ⟨⟨r7, rfl, ho7⟩, k7⟩
          rw [Q9.out, V6.out, X.out] at ho7
          have r0 := (IRow.of_is HA.out).below I6.out.bel
          have k7' : Still _ w7 := (kept_of_below k7).mono fun y h1 h2 => absurd h2 (by omega)
          have I7 := Lib.hid (I6.out.still k7')
          have i7 := ints_any _ _ _ _ _ _ w7 (VRow.of_owns ho7) (r0.still k7')
          rw [decide_eq_true rfl] at i7
          clear ho7 r0 k7 k7'
          go_wp2_with fail
          refine i7.mono ?_
          rintro e w8 ⟨rfl, k8⟩
          have I8 := Lib.hid (I7.out.still k8)
          go_wp2_with fail
          go_ret
          exact ⟨rfl, I8.out.bel⟩
end Go.Proofs.Ytpkjhpfmikamkaa
