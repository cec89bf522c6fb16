/-
  What stands here: Put, All and Idle of a floor in a law, and what no floor and no worker answer. Under no condition but that the world holds the floor.
-/
import Derived.Test.YtbikganlloopbaaCrewUse
import Derived.Test.YtbikganlloopbaaFLog
namespace Go.Proofs.Ytbikganlloopbaa
set_option linter.unusedVariables false
set_option linter.unusedSimpArgs false
open Go.RowKit Go.Proofs
section
variable {col : Nat → Nat} {i f p g N M k : Nat} {cf : Nat → Int} {bz n : Int} {xs logs : List FiringV} {w : World}
theorem cf_pipe (h : CF col f p g N M cf bz xs logs w) : Calls Try.prog 12 #[.pointer (some ⟨f, 0, none⟩)] w fun e w' => e = .returned (.pointer (some ⟨p, 0, none⟩)) ∧ w = w' := by
  obtain ⟨s, sb, sh, c, l, mx, hf, cf1, hp, cp, cc, cy, hl, ha, hb⟩ := h
  exact fpipe hf
theorem cf_log (h : CF col f p g N M cf bz xs logs w) : Calls Try.prog 17 #[.pointer (some ⟨f, 0, none⟩)] w fun e w' => e = .returned (.pointer (some ⟨g, 0, none⟩)) ∧ w = w' := by
  obtain ⟨s, sb, sh, c, l, mx, hf, cf1, hp, cp, cc, cy, hl, ha, hb⟩ := h
  exact flog hf
theorem cf_len (h : CF col f p g N M cf bz xs logs w) (hM : M < 100000) : Calls Try.prog 45 #[.pointer (some ⟨p, 0, none⟩)] w fun e w' => e = .returned (.int .i64 xs.length) ∧ Still w w' := by
  obtain ⟨s, sb, sh, c, l, mx, hf, cf1, hp, cp, cc, cy, hl, ha, hb⟩ := h
  exact plen_f w hp (by omega)
theorem cf_put (h : CF col f p g N M cf bz xs logs w) (hM : M < 90000) (v : FiringV) :
    Calls Try.prog 13 #[.pointer (some ⟨p, 0, none⟩), v.v] w fun e w' => e = .returned (.tuple #[.bool (decide (N ≤ xs.length)), .int .i64 0]) ∧ ∃ col', Move (· = 2) col col' w w' ∧ CF col' f p g N (M + 1) cf bz (xs ++ [v]) logs w' := by
  obtain ⟨s, sb, sh, c, l, mx, hf, cf1, hp, cp, cc, cy, hl, ha, hb⟩ := h
  refine (pput_any_f w hp v (by omega) (by omega)).mono ?_
  rintro e w1 ⟨rfl, k1, s1, P1, n1⟩
  have m1 : Move (· = 2) col (ext col w.heap.size 2) w w1 := Move.ext (k1.mono fun y _ hy => by
    rcases hy with h9 | rfl | rfl
    · exact cy y h9
    · exact cp
    · exact cc) 2
  refine ⟨rfl, _, m1, s1, sb, sh, c, l, _, hf.kept m1.k (fun e => by rw [cf1] at e; omega), (m1.re f hf.lt).trans cf1, P1, (m1.re p hp.blk.lt).trans cp, (m1.re c hp.ch.lt).trans cc, fun y hy => ?_, hl.move m1 (by omega) (by omega), by simp; omega, by omega⟩
  rcases Nat.lt_or_ge y w.heap.size with h9 | h9
  · rw [m1.re y h9]
    exact cy y (by rw [← n1 y h9]; exact hy)
  · exact ext_new _ h9
theorem cf_all (h : CF col f p g N M cf bz xs logs w) (hL : logs.length < 1000000) : Calls Try.prog 18 #[.pointer (some ⟨g, 0, none⟩)] w fun e w' => ∃ v, e = .returned v ∧ w'.ownsRow w.heap.size 40 4 v logs.length (cells4 logs) ∧ Still w w' := by
  obtain ⟨s, sb, sh, c, l, mx, hf, cf1, hp, cp, cc, cy, ⟨R, h1, h2⟩, ha, hb⟩ := h
  exact gall h1.1 ((FRow.of_owns h2.1).mono fun _ _ _ => trivial) hL
theorem cf_loglen (h : CF col f p g N M cf bz xs logs w) (hL : logs.length < 1000000) : Calls Try.prog 28 #[.pointer (some ⟨g, 0, none⟩)] w fun e w' => e = .returned (.int .i64 logs.length) ∧ Still w w' := by
  obtain ⟨s, sb, sh, c, l, mx, hf, cf1, hp, cp, cc, cy, ⟨R, h1, h2⟩, ha, hb⟩ := h
  exact glen h1.1 ((FRow.of_owns h2.1).mono fun _ _ _ => trivial) hL
theorem cf_busy (h : CF col f p g N M cf bz xs logs w) : Calls Try.prog 26 #[.pointer (some ⟨f, 0, none⟩)] w fun e w' => e = .returned (.int .i64 bz) ∧ CF col f p g N M cf bz xs logs w' ∧ Move (· = 1) col col w w' := by
  obtain ⟨s, sb, sh, c, l, mx, hf, cf1, hp, cp, cc, cy, hl, ha, hb⟩ := h
  refine (fbusy hf).mono ?_
  rintro e w1 ⟨rfl, hf1, k1⟩
  have m1 : Move (· = 1) col col w w1 := .still' k1 (fun y hy => by rw [hy]; exact cf1)
  have hne : ∀ y, col y = 2 → ¬ y = f := fun y h e => by rw [e, cf1] at h; omega
  exact ⟨rfl, ⟨s, sb, sh, c, l, mx, hf1, cf1, hp.kept k1 (by
      rintro y (h9 | rfl | rfl)
      · exact hne y (cy y h9)
      · exact hne _ cp
      · exact hne _ cc), cp, cc, cy, hl.move m1 (by omega) (by omega), ha, hb⟩, m1⟩
/-- whether nothing is to be done -/
def idleB (ks : List Nat) (hs : Nat → Option FiringV) (xs : List FiringV) : Bool := ((List.range ks.length).all fun i => (hs i).isNone) && decide (xs.length = 0)
set_option maxHeartbeats 1000000 in
theorem cidle {ks : List Nat} {hs : Nat → Option FiringV} {ns : Nat → Int} {v : Value} {Q : Nat → Prop} (h : CF col f p g N M cf bz xs logs w) (hM : M < 100000) (hr : VRow Q w v (ptrs ks)) (hk : ∀ i k, ks[i]? = some k → Wk col i f k (ns i) (hs i) w) (hks : ks.length < 100000) :
    Calls Try.prog 21 #[.pointer (some ⟨f, 0, none⟩), v] w fun e w' => e = .returned (.bool (idleB ks hs xs)) ∧ Still w w' := by
  have hlen : (ptrs ks).length = ks.length := ptrs_len ks
  obtain ⟨a, cap, hv, -, -, h0⟩ := hr
  rw [hlen] at hv h0
  subst hv
  obtain ⟨L, hL⟩ : ∃ L, L = ks.length := ⟨_, rfl⟩
  rw [← hL] at h0 hks ⊢
  have H := Lib.hid h
  have HK := Lib.hid hk
  have H0 := Lib.hid h0
  have HL := Lib.hid hL
  clear h hk h0 hlen hL
  go_enter Try.func21, Try.ntmps21
  go_wp2_with fail
  go_loopw [11] (fun p wr => ∃ j : Nat, p = .int .i64 j ∧ j ≤ L ∧ (∀ i, i < j → (hs i).isNone = true) ∧ Still w wr) (fun p _ => L - (intOf p).toNat)
  case atStart => exact ⟨0, rfl, Nat.zero_le _, by omega, still_refl w⟩
  case round =>
    obtain ⟨j, rfl, hj, hall, hk⟩ := hrel
    have HA := Lib.hid hall
    clear hall
    by_cases hjn : j < L
    · obtain ⟨x, hx⟩ : ∃ x, ks[j]? = some x := ⟨_, List.getElem?_eq_getElem (by rw [← HL.out]; exact hjn)⟩
      obtain ⟨b, o, rfl, hbl, -, hc⟩ := H0.out (by omega)
      have hcj : wr.cell? ⟨b, o + j, none⟩ = some (.pointer (some ⟨x, 0, none⟩)) := (World.cell?_of_block (a := ⟨b, o + j, none⟩) (hk.block b hbl (fun f => f))).trans (by rw [hc j (by first | exact hjn | (rw [ptrs_len, ← HL.out]; exact hjn))]; unfold ptrs; rw [List.getElem?_map, hx]; rfl)
      have hwk := (HK.out j x hx).move (S := fun _ => False) (.still hk) id
      have HH := Lib.hid (cw_holds hwk)
      have HX := Lib.hid hx
      clear hc hx hwk
      obtain ⟨hv, hhv⟩ : ∃ hv, hv = hs j := ⟨_, rfl⟩
      rw [← hhv] at HH
      have HHV := Lib.hid hhv
      clear hhv
      match hv with
      | none =>
        go_wp2_with fail
        refine HH.out.mono ?_
        rintro e w1 ⟨rfl, k1⟩
        have K1 := Lib.hid (hk.trans k1)
        clear k1 hk hcj
        dsimp only [Option.getD, Option.isSome, zF, FiringV.v]
        go_wp2_with fail
        go_roundw
        case rel => exact ⟨j + 1, by go_num, hjn, fun i hi => (by
            rcases Nat.lt_or_ge i j with h9 | h9
            · exact HA.out i h9
            · obtain rfl : i = j := by omega
              rw [← HHV.out]; rfl), K1.out.alloc _⟩
        case measure => simp [intOf]; omega
      | some y =>
        go_wp2_with fail
        refine HH.out.mono ?_
        rintro e w1 ⟨rfl, k1⟩
        have K1 := Lib.hid (hk.trans k1)
        clear k1 hk hcj
        obtain ⟨vi, vg, vd, vt⟩ := y
        dsimp only [Option.getD, Option.isSome, FiringV.v]
        go_wp2_with fail
        go_ret
        refine ⟨?_, K1.out.alloc _⟩
        have e9 : idleB ks hs xs = false := by
          unfold idleB
          rw [← HL.out]
          have h9 : ((List.range L).all fun i => (hs i).isNone) = false := by
            rw [List.all_eq_false]
            exact ⟨j, by simp; exact hjn, by rw [← HHV.out]; simp⟩
          rw [h9]; rfl
        rw [e9]; rfl
    · obtain rfl : j = L := by omega
      have HP := Lib.hid (cf_pipe (H.out.still hk))
      have HN := Lib.hid (cf_len (H.out.still hk) hM)
      go_wp2_with fail
      refine HP.out.mono ?_
      rintro e w1 ⟨rfl, rfl⟩
      go_wp2_with fail
      refine HN.out.mono ?_
      rintro e w1 ⟨rfl, k1⟩
      go_wp2_with fail
      go_ret
      refine ⟨?_, hk.trans k1⟩
      have e9 : idleB ks hs xs = decide (xs.length = 0) := by
        unfold idleB
        rw [← HL.out]
        have h9 : ((List.range j).all fun i => (hs i).isNone) = true := by
          rw [List.all_eq_true]
          intro i hi
          simp at hi
          exact HA.out i hi
        rw [h9]; rfl
      rw [e9]
      refine ret_bool ?_
      cases xs with
      | nil => rfl
      | cons a b =>
        rw [decide_eq_false (by simp), beq_eq_false_iff_ne]
        simp only [List.length_cons]
        omega
end
theorem cbegin_nil (w : World) : Calls Try.prog 10 #[.pointer none] w fun e w' => e = .returned (.tuple #[.pointer none, .int .i64 6]) ∧ w = w' := by
  go_enter Try.func10, Try.ntmps10
  go_wp2_with fail
  go_ret2
  exact ⟨rfl, rfl⟩
theorem fpipe_nil (w : World) : Calls Try.prog 12 #[.pointer none] w fun e w' => e = .returned (.pointer none) ∧ w = w' := by
  go_enter Try.func12, Try.ntmps12
  go_wp2_with fail
  go_ret
  exact ⟨rfl, rfl⟩
theorem plen_nil (w : World) : Calls Try.prog 45 #[.pointer none] w fun e w' => e = .returned (.int .i64 0) ∧ w = w' := by
  go_enter Try.func45, Try.ntmps45
  go_wp2_with fail
  go_ret
  exact ⟨rfl, rfl⟩
theorem fconfig_nil (w : World) : Calls Try.prog 23 #[.pointer none] w fun e w' => e = .returned (.agg #[.int .i64 0, .int .i64 0, .int .i64 0, .int .i64 0, .int .i64 0, .int .i64 0]) ∧ Still w w' := by
  go_enter Try.func23, Try.ntmps23
  go_wp2_with fail
  have b := Blk.new w #[.int .i64 0, .int .i64 0, .int .i64 0, .int .i64 0, .int .i64 0, .int .i64 0] 29
  have p0 := b.cell 0
  have p1 := b.cell 1
  have p2 := b.cell 2
  have p3 := b.cell 3
  have p4 := b.cell 4
  have p5 := b.cell 5
  simp at p0 p1 p2 p3 p4 p5
  refine bodyPost_ret (v := .agg #[.int .i64 0, .int .i64 0, .int .i64 0, .int .i64 0, .int .i64 0, .int .i64 0]) (by simp [results, Try.f23, go_sem, p0, p1, p2, p3, p4, p5]) rfl ⟨rfl, (still_refl w).alloc _⟩
set_option maxHeartbeats 1000000 in
theorem cidle_nil {v : Value} {n : Nat} {w : World} (hn : n < 100000) (hr : VRow (fun _ => True) w v (List.replicate n (.pointer none))) :
    Calls Try.prog 21 #[.pointer none, v] w fun e w' => e = .returned (.bool true) ∧ Still w w' := by
  obtain ⟨a, cap, hv, -, -, h0⟩ := hr
  rw [List.length_replicate] at hv h0
  subst hv
  have H0 := Lib.hid h0
  clear h0
  go_enter Try.func21, Try.ntmps21
  go_wp2_with fail
  go_loopw [11] (fun p wr => ∃ j : Nat, p = .int .i64 j ∧ j ≤ n ∧ Still w wr) (fun p _ => n - (intOf p).toNat)
  case atStart => exact ⟨0, rfl, Nat.zero_le _, still_refl w⟩
  case round =>
    obtain ⟨j, rfl, hj, hk⟩ := hrel
    by_cases hjn : j < n
    · obtain ⟨b, o, rfl, hbl, -, hc⟩ := H0.out (by omega)
      have hcj : wr.cell? ⟨b, o + j, none⟩ = some (.pointer none) := (World.cell?_of_block (a := ⟨b, o + j, none⟩) (hk.block b hbl (fun f => f))).trans (by rw [hc j hjn]; simp [hjn])
      clear hc
      go_wp2_with fail
      refine (cholds_nil wr).mono ?_
      rintro e w1 ⟨rfl, k1⟩
      have K1 := Lib.hid (hk.trans k1)
      clear k1 hk hcj
      go_wp2_with fail
      go_roundw
      case rel => exact ⟨j + 1, by go_num, hjn, K1.out.alloc _⟩
      case measure => simp [intOf]; omega
    · obtain rfl : j = n := by omega
      go_wp2_with fail
      refine (fpipe_nil wr).mono ?_
      rintro e w1 ⟨rfl, rfl⟩
      go_wp2_with fail
      refine (plen_nil _).mono ?_
      rintro e w1 ⟨rfl, rfl⟩
      go_wp2_with fail
      go_ret
      exact ⟨rfl, hk⟩
end Go.Proofs.Ytbikganlloopbaa
