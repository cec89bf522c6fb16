/-
  What stands here: the document's example of a crew. Under no condition.
-/
import Derived.Test.YtbikganlloopbaaCrewLaw
import Derived.Test.YtbikganlloopbaaPart
namespace Go.Proofs.Ytbikganlloopbaa
set_option linter.unusedVariables false
set_option linter.unusedSimpArgs false
open Go.RowKit Go.Proofs
theorem cplain (a b : Int) (w : World) : Calls Try.prog 9 #[.int .i64 a, .int .i64 b] w fun e w' => e = .returned (.agg #[.int .i64 1, .int .i64 4, .int .i64 4, .int .i64 b, .int .i64 a, .int .i64 1]) ∧ Still w w' := by
  go_enter Try.func9, Try.ntmps9
  go_wp2_with fail
  have bb := Blk.new w #[.int .i64 1, .int .i64 4, .int .i64 4, .int .i64 b, .int .i64 a, .int .i64 1] 29
  have p0 := bb.cell 0
  have p1 := bb.cell 1
  have p2 := bb.cell 2
  have p3 := bb.cell 3
  have p4 := bb.cell 4
  have p5 := bb.cell 5
  simp at p0 p1 p2 p3 p4 p5
  refine bodyPost_ret (v := .agg #[.int .i64 1, .int .i64 4, .int .i64 4, .int .i64 b, .int .i64 a, .int .i64 1]) (by simp [results, Try.f9, go_sem, p0, p1, p2, p3, p4, p5]) rfl ⟨rfl, (still_refl w).alloc _⟩
theorem frow_one {w : World} {b : Nat} {z : FiringV} {t : TypeId} (h : Blk w b #[.int .u64 z.id, .int .u64 z.gen, .int .u64 z.dl, .int .u64 z.tick] t) : FRow (fun _ => True) w (.slice (some ⟨b, 0, none⟩) 1 1) [z] :=
  ⟨some ⟨b, 0, none⟩, 1, rfl, Nat.le_refl _, by unfold maxLen; omega, fun _ => ⟨b, 0, rfl, h.lt, trivial, fun j t hj i hi => by
    match j, hj with
    | 0, hj =>
      simp at hj
      subst hj
      simp only [Nat.zero_mul, Nat.zero_add]
      match i, hi with
      | 0, _ => exact h.cell 0
      | 1, _ => exact h.cell 1
      | 2, _ => exact h.cell 2
      | 3, _ => exact h.cell 3⟩⟩
set_option maxHeartbeats 4000000 in
set_option maxRecDepth 100000 in
theorem alive_any (w : World) : Calls Try.prog 7 #[] w fun e w' => e = .returned (.bool true) ∧ Below w.heap.size w w' := by
  have fr0 : Fr w.heap.size (fun _ => 0) w w := .start (Below.refl _ _)
  go_enter Try.func7, Try.ntmps7
  go_wp2_with fail
  refine (cplain 2 2 w).mono ?_
  rintro e w0 ⟨rfl, k0⟩
  have fr1 := fr0.still k0
  go_wp2_with fail
  refine (cf_new w fr1 2 2 (by omega) (by omega)).mono ?_
  rintro e w1 ⟨f, p, g, col1, rfl, fr2, cf2⟩
  have F2 := Lib.hid fr2
  have C2 := Lib.hid cf2
  clear fr2 cf2 fr0 fr1 k0
  go_wp2_with fail
  refine (cs_crew F2.out C2.out (m := 2) rfl (by omega)).mono ?_
  rintro e w2 ⟨ks, lv, col2, rfl, hkl, cs2⟩
  obtain ⟨k0, k1, hks⟩ : ∃ k0 k1, ks = [k0, k1] := by
    match ks, hkl with
    | [a, b], _ => exact ⟨a, b, rfl⟩
  subst hks
  clear hkl
  obtain ⟨av, capv, hv, hv1, hv2, hv3⟩ := cs2.row
  obtain ⟨rb, ro, rfl, hrb, hr5, hrc⟩ := hv3 (by simp [ptrs])
  have hlv : lv = .slice (some ⟨rb, ro, none⟩) 2 capv := by rw [hv]; rfl
  subst hlv
  have r0 : w2.cell? ⟨rb, ro, none⟩ = some (.pointer (some ⟨k0, 0, none⟩)) := hrc 0 (by simp [ptrs])
  have r1 : w2.cell? ⟨rb, ro + 1, none⟩ = some (.pointer (some ⟨k1, 0, none⟩)) := hrc 1 (by simp [ptrs])
  clear hv hrc hv3
  obtain ⟨w3, hw3⟩ : ∃ w3, w3 = w2.alloc (.cells #[.int .u64 64, .int .u64 1, .int .u64 2, .int .u64 2] 40) := ⟨_, rfl⟩
  obtain ⟨X, hX⟩ : ∃ X, X = w2.heap.size := ⟨_, rfl⟩
  have k3 : Still w2 w3 := by rw [hw3]; exact (still_refl w2).alloc _
  have bX : Blk w3 X #[.int .u64 64, .int .u64 1, .int .u64 2, .int .u64 2] 40 := by rw [hw3, hX]; exact Blk.new _ _ _
  have cs3 := cs2.still5 k3
  obtain ⟨col3, hcol3⟩ : ∃ col3, col3 = ext col2 w2.heap.size 5 := ⟨_, rfl⟩
  rw [← hcol3] at cs3
  have xc3 : BlkC col3 5 w3 X #[.int .u64 64, .int .u64 1, .int .u64 2, .int .u64 2] 40 := ⟨bX, by rw [hcol3, hX]; exact ext_new _ (Nat.le_refl _)⟩
  have rbc3 : col3 rb = 5 ∧ rb < w3.heap.size := ⟨by rw [hcol3]; exact ext_same hrb hr5, Nat.lt_of_lt_of_le hrb k3.size⟩
  have r03 : w3.cell? ⟨rb, ro, none⟩ = some (.pointer (some ⟨k0, 0, none⟩)) := (World.cell?_of_block (a := ⟨rb, ro, none⟩) (k3.block rb hrb (fun f => f))).trans r0
  have r13 : w3.cell? ⟨rb, ro + 1, none⟩ = some (.pointer (some ⟨k1, 0, none⟩)) := (World.cell?_of_block (a := ⟨rb, ro + 1, none⟩) (k3.block rb hrb (fun f => f))).trans r1
  have CS3 := Lib.hid cs3
  have HW3 := Lib.hid hw3
  have HX := Lib.hid hX
  have BX := Lib.hid xc3
  have CX := Lib.hid bX.cells
  have RB := Lib.hid (And.intro rbc3 (And.intro r03 r13))
  clear cs2 cs3 k3 hw3 hX bX xc3 rbc3 r03 r13 r0 r1 hcol3 hrb hr5 hv1
  go_upto_region 6 with fail
  rw [← HW3.out, ← HX.out]
  have e0 : w3.cell? ⟨X, 0, none⟩ = some (.int .u64 64) := BX.out.1.cell 0
  have e1 : w3.cell? ⟨X, 1, none⟩ = some (.int .u64 1) := BX.out.1.cell 1
  have e2 : w3.cell? ⟨X, 2, none⟩ = some (.int .u64 2) := BX.out.1.cell 2
  have e3 : w3.cell? ⟨X, 3, none⟩ = some (.int .u64 2) := BX.out.1.cell 3
  refine wp_region_text ([4], [9]) [X] (by kernel_rfl) (by kernel_rfl) (cellsB_cons CX.out cellsB_nil) (by simp [segs, isEff, isLoad, askOps, asks, ptrEq, eqOrNe, isNil]; rfl) ?_
  (repeat ((first | (refine segs_nil ?_) | (refine segs_go (stay_drew) ?_ ?_; focus (simp [isLoad]; done)) | (refine segs_load (stay_drew) ?_ ?_; focus (intro h; first | exact ⟨X, _, rfl, by simp⟩ | (simp [Region.wanted, yielded, undef] at h; done))) | fail); go_wp2_with fail))
  refine (cf_pipe (CS3.out.st.still ((still_refl w3).drewN 1))).mono ?_
  rintro e w4 ⟨rfl, rfl⟩
  go_wp2_with fail
  (repeat ((first | (refine segs_nil ?_) | (refine segs_go (stay_drew) ?_ ?_; focus (simp [isLoad]; done)) | (refine segs_load (stay_drew) ?_ ?_; focus (intro h; first | exact ⟨X, _, rfl, by simp⟩ | (simp [Region.wanted, yielded, undef] at h; done))) | fail); go_wp2_with fail))
  refine (cs_put (CS3.out.still ((still_refl w3).drewN 1)) (by omega) ⟨64, 1, 2, 2⟩).mono ?_
  rintro e w4 ⟨rfl, col4, m4, cs4⟩
  have x4 := (BX.out.still ((still_refl w3).drewN 1)).move m4 (fun h => h.2 rfl)
  obtain ⟨⟨q1, q2⟩, q3, q4⟩ := RB.out
  have kb4 : w4.heap[rb]? = w3.heap[rb]? := m4.k.block rb q2 (by rw [q1]; exact fun h => h.2 rfl)
  have CS4 := Lib.hid cs4
  have RB4 := Lib.hid (And.intro ((m4.re rb q2).trans q1) (And.intro (Nat.lt_of_lt_of_le q2 m4.k.size) (And.intro ((World.cell?_of_block (a := ⟨rb, ro, none⟩) kb4).trans q3) ((World.cell?_of_block (a := ⟨rb, ro + 1, none⟩) kb4).trans q4))))
  have X4 := Lib.hid x4
  have CX4 := Lib.hid x4.1.cells
  have CRB := Lib.hid (cells_of_cell ((World.cell?_of_block (a := ⟨rb, ro, none⟩) kb4).trans q3))
  have hst3 : StayB [X] w3 w4 := fun b hb => by
    rw [List.mem_singleton] at hb
    subst hb
    exact m4.k.block b BX.out.1.lt (by rw [BX.out.2]; exact fun h => h.2 rfl)
  clear cs4 x4 q1 q2 q3 q4 kb4 m4 e0 e1 e2 e3
  go_wp2_with fail
  refine segs_go hst3 (by simp [isLoad]) ?_
  clear hst3
  go_wp2_with fail
  refine segs_nil ?_
  have e0 : w4.cell? ⟨X, 0, none⟩ = some (.int .u64 64) := X4.out.1.cell 0
  have e1 : w4.cell? ⟨X, 1, none⟩ = some (.int .u64 1) := X4.out.1.cell 1
  have e2 : w4.cell? ⟨X, 2, none⟩ = some (.int .u64 2) := X4.out.1.cell 2
  have e3 : w4.cell? ⟨X, 3, none⟩ = some (.int .u64 2) := X4.out.1.cell 3
  have hr0 : w4.cell? ⟨rb, ro, none⟩ = some (.pointer (some ⟨k0, 0, none⟩)) := RB4.out.2.2.1
  have hr1 : w4.cell? ⟨rb, ro + 1, none⟩ = some (.pointer (some ⟨k1, 0, none⟩)) := RB4.out.2.2.2
  go_upto_region 7 with fail
  refine wp_region_part ([4], [9]) 30 [rb, X] (by kernel_rfl) (by kernel_rfl) (by kernel_rfl) (by simp) (cellsB_cons CRB.out (cellsB_cons CX4.out cellsB_nil)) (by simp [segs, isEff, isLoad, askOps, asks, ptrEq, eqOrNe, isNil]; rfl) ?_
  (repeat ((first | (refine segs_nil ?_) | (refine segs_go (stay_drew) ?_ ?_; focus (simp [isLoad]; done)) | (refine segs_load (stay_drew) ?_ ?_; focus (intro h; first | exact ⟨rb, _, rfl, by simp⟩ | exact ⟨X, _, rfl, by simp⟩ | (simp [Region.wanted, yielded, undef] at h; done))) | fail); go_wp2_with fail))
  have hlp : ∀ (colN : Nat → Nat) (wN : World), Move MS col4 colN w4 wN → StayB [rb, X] w4 wN ∧ wN.cell? ⟨rb, ro, none⟩ = some (.pointer (some ⟨k0, 0, none⟩)) ∧ wN.cell? ⟨rb, ro + 1, none⟩ = some (.pointer (some ⟨k1, 0, none⟩)) ∧ BlkC colN 5 wN X #[.int .u64 64, .int .u64 1, .int .u64 2, .int .u64 2] 40 ∧ colN rb = 5 ∧ rb < wN.heap.size := fun colN wN m => by
    obtain ⟨q1, q2, q3, q4⟩ := RB4.out
    have kb := m.k.block rb q2 (by rw [q1]; exact fun h => h.2 rfl)
    have hx := X4.out.move m (fun h => h.2 rfl)
    refine ⟨fun b hb => ?_, (World.cell?_of_block (a := ⟨rb, ro, none⟩) kb).trans q3, (World.cell?_of_block (a := ⟨rb, ro + 1, none⟩) kb).trans q4, hx, (m.re rb q2).trans q1, Nat.lt_of_lt_of_le q2 m.k.size⟩
    simp only [List.mem_cons, List.not_mem_nil, or_false] at hb
    rcases hb with rfl | rfl
    · exact kb
    · exact m.k.block _ X4.out.1.lt (by rw [X4.out.2]; exact fun h => h.2 rfl)
  have HLP := Lib.hid hlp
  clear hlp
  refine (cs_take (CS4.out.still ((still_refl w4).drewN 1)) (by omega) (by omega) (i := 1) rfl rfl (x := ⟨64, 1, 2, 2⟩) (rest := []) rfl).mono ?_
  rintro e w5 ⟨rfl, col5, m5, cs5⟩
  have M5 := Lib.hid ((Move.still ((still_refl w4).drewN 1)).trans m5)
  have CS5 := Lib.hid cs5
  clear m5 cs5 hr0 hr1 e0 e1 e2 e3
  obtain ⟨st5, a0, a1, -, -, -⟩ := HLP.out _ _ M5.out
  go_wp2_with fail
  (repeat ((first | (refine segs_nil ?_) | (refine segs_go (st5) ?_ ?_; focus (simp [isLoad]; done)) | (refine segs_load (st5) ?_ ?_; focus (intro h; first | exact ⟨rb, _, rfl, by simp⟩ | exact ⟨X, _, rfl, by simp⟩ | (simp [Region.wanted, yielded, undef] at h; done))) | fail); go_wp2_with fail))
  refine (cw_may CS5.out.st (by omega) (CS5.out.wk 0 k0 rfl)).mono ?_
  rintro e w6 ⟨rfl, k6⟩
  rw [show (((upd (fun _ => none) 1 (some ⟨64, 1, 2, 2⟩) : Nat → Option FiringV) 0).isSome || decide (0 < ([] : List FiringV).length)) = false from rfl]
  have M6 := Lib.hid (M5.out.trans (.still k6))
  have CS6 := Lib.hid (CS5.out.still k6)
  clear k6 st5 a0 a1
  obtain ⟨st5, a0, a1, -, -, -⟩ := HLP.out _ _ M6.out
  go_wp2_with fail
  (repeat ((first | (refine segs_nil ?_) | (refine segs_go (st5) ?_ ?_; focus (simp [isLoad]; done)) | (refine segs_load (st5) ?_ ?_; focus (intro h; first | exact ⟨rb, _, rfl, by simp⟩ | exact ⟨X, _, rfl, by simp⟩ | (simp [Region.wanted, yielded, undef] at h; done))) | fail); go_wp2_with fail))
  refine (cw_no CS6.out.st (by omega) (CS6.out.wk 0 k0 rfl)).mono ?_
  rintro e w7 ⟨rfl, k7⟩
  have M7 := Lib.hid (M6.out.trans (.still k7))
  have CS7 := Lib.hid (CS6.out.still k7)
  clear k7 st5 a0 a1
  obtain ⟨st5, a0, a1, -, -, -⟩ := HLP.out _ _ M7.out
  go_wp2_with fail
  (repeat ((first | (refine segs_nil ?_) | (refine segs_go (st5) ?_ ?_; focus (simp [isLoad]; done)) | (refine segs_load (st5) ?_ ?_; focus (intro h; first | exact ⟨rb, _, rfl, by simp⟩ | exact ⟨X, _, rfl, by simp⟩ | (simp [Region.wanted, yielded, undef] at h; done))) | fail); go_wp2_with fail))
  refine (cs_log CS7.out (by simp) (by omega) (i := 1) (by omega) rfl (x := ⟨64, 1, 2, 2⟩) rfl).mono ?_
  rintro e w8 ⟨rfl, col8, m8, cs8⟩
  have M8 := Lib.hid (M7.out.trans m8)
  have CS8 := Lib.hid cs8
  clear m8 cs8 st5 a0 a1
  obtain ⟨st5, a0, a1, hx8, -, -⟩ := HLP.out _ _ M8.out
  have e0 : w8.cell? ⟨X, 0, none⟩ = some (.int .u64 64) := hx8.1.cell 0
  have e1 : w8.cell? ⟨X, 1, none⟩ = some (.int .u64 1) := hx8.1.cell 1
  have e2 : w8.cell? ⟨X, 2, none⟩ = some (.int .u64 2) := hx8.1.cell 2
  have e3 : w8.cell? ⟨X, 3, none⟩ = some (.int .u64 2) := hx8.1.cell 3
  clear hx8
  go_wp2_with fail
  (repeat ((first | (refine segs_nil ?_) | (refine segs_go (st5) ?_ ?_; focus (simp [isLoad]; done)) | (refine segs_load (st5) ?_ ?_; focus (intro h; first | exact ⟨rb, _, rfl, by simp⟩ | exact ⟨X, _, rfl, by simp⟩ | (simp [Region.wanted, yielded, undef] at h; done))) | fail); go_wp2_with fail))
  have hlog : ∀ W, Still w8 W → Calls Try.prog 17 #[.pointer (some ⟨f, 0, none⟩)] W fun e w' => e = .returned (.pointer (some ⟨g, 0, none⟩)) ∧ W = w' := fun W k => cf_log (CS8.out.st.still k)
  have HLOG := Lib.hid hlog
  have hall : ∀ W, Still w8 W → Calls Try.prog 18 #[.pointer (some ⟨g, 0, none⟩)] W fun e w' => ∃ a c, e = .returned (.slice a 1 c) ∧ Still w8 w' ∧ Still W w' ∧ FRow (fun _ => True) w' (.slice a 1 c) [⟨64, 1, 2, 2⟩] := fun W k => by
    refine (cf_all (CS8.out.st.still k) (by simp)).mono ?_
    rintro e w9 ⟨v9, rfl, ho9, k9⟩
    have r9 := FRow.of_owns ho9
    obtain ⟨a9, c9, rfl⟩ := owns_slice ho9
    exact ⟨a9, c9, rfl, k.trans k9, k9, r9.mono fun _ _ _ => trivial⟩
  have HALL := Lib.hid hall
  obtain ⟨wb, hwb⟩ : ∃ wb, wb = w8.alloc (.cells #[.int .u64 64, .int .u64 1, .int .u64 2, .int .u64 2] 40) := ⟨_, rfl⟩
  have kb : Still w8 wb := by rw [hwb]; exact (still_refl w8).alloc _
  have rb9 : FRow (fun _ => True) wb (.slice (some ⟨w8.heap.size, 0, none⟩) 1 1) [⟨64, 1, 2, 2⟩] := frow_one (by rw [hwb]; exact Blk.new _ _ _)
  have hsame1 : ∀ (W : World) (a9 : Option Addr) (c9 : Nat), Still wb W → FRow (fun _ => True) W (.slice a9 1 c9) [⟨64, 1, 2, 2⟩] → Calls Try.prog 16 #[.slice a9 1 c9, .slice (some ⟨w8.heap.size, 0, none⟩) 1 1] W fun e w' => e = .returned (.bool true) ∧ Still w8 w' := fun W a9 c9 k h => by
    refine (rsame _ _ _ _ _ _ W h (rb9.still k) (by simp)).mono ?_
    rintro e w' ⟨rfl, k'⟩
    exact ⟨rfl, (kb.trans k).trans k'⟩
  have hsame2 : ∀ (W : World) (a9 : Option Addr) (c9 : Nat), Still w8 W → FRow (fun _ => True) W (.slice a9 1 c9) [⟨64, 1, 2, 2⟩] → Calls Try.prog 16 #[.slice a9 1 c9, .slice (some ⟨W.heap.size, 0, none⟩) 1 1] (W.alloc (.cells #[.int .u64 64, .int .u64 1, .int .u64 2, .int .u64 2] 40)) fun e w' => e = .returned (.bool true) ∧ Still w8 w' := fun W a9 c9 k h => by
    have ka : Still W (W.alloc (.cells #[.int .u64 64, .int .u64 1, .int .u64 2, .int .u64 2] 40)) := (still_refl W).alloc _
    refine (rsame _ _ _ _ _ _ _ (h.still ka) (frow_one (z := ⟨64, 1, 2, 2⟩) (Blk.new W _ _)) (by simp)).mono ?_
    rintro e w' ⟨rfl, k'⟩
    exact ⟨rfl, (k.trans ka).trans k'⟩
  have hidle : ∀ W, Still w8 W → Calls Try.prog 21 #[.pointer (some ⟨f, 0, none⟩), .slice (some ⟨rb, ro, none⟩) 2 capv] W fun e w' => e = .returned (.bool true) ∧ Still w8 w' := fun W k => by
    have cs := CS8.out.still k
    refine (cidle cs.st (by omega) cs.row cs.wk (by simp)).mono ?_
    rintro e w' ⟨rfl, k'⟩
    exact ⟨rfl, k.trans k'⟩
  have HIDLE := Lib.hid hidle
  clear hidle
  have HWB := Lib.hid hwb
  have KB := Lib.hid kb
  clear hlog hall hwb kb rb9
  (refine wpAny_take (i := 30) (v := ?_) rfl (by kernel_rfl) (by kernel_rfl) (by kernel_rfl) (fun _ _ _ h => h) (Or.inl ⟨by rfl, ?_⟩) ?_; rotate_left; (intro w; go_simp; first | done | with_reducible rfl))
  refine wpAny_ready (rs := [31, 33]) (by kernel_rfl) (by simp) ?_
  refine AllReady.cons rfl (fun K hK => ?_) (AllReady.cons rfl (fun K hK => ?_) AllReady.nil)
  · go_simp
    refine (HLOG.out _ (still_refl w8)).mono ?_
    rintro e wl ⟨rfl, rfl⟩
    go_wp2_with fail
    refine wpAny_ready (rs := [32, 33]) (by kernel_rfl) (by simp) ?_
    refine AllReady.cons rfl (fun K hK => ?_) (AllReady.cons rfl (fun K hK => ?_) AllReady.nil)
    · go_simp
      refine (HALL.out _ (still_refl w8)).mono ?_
      rintro e w9 ⟨a9, c9, rfl, k9, kk9, r9⟩
      have R9 := Lib.hid r9
      have K9 := Lib.hid k9
      have KK9 := Lib.hid kk9
      clear r9 k9 kk9
      obtain ⟨-, -, -, hx9, -, -⟩ := HLP.out _ _ (M8.out.trans (.still K9.out))
      have g0 : w9.cell? ⟨X, 0, none⟩ = some (.int .u64 64) := hx9.1.cell 0
      have g1 : w9.cell? ⟨X, 1, none⟩ = some (.int .u64 1) := hx9.1.cell 1
      have g2 : w9.cell? ⟨X, 2, none⟩ = some (.int .u64 2) := hx9.1.cell 2
      have g3 : w9.cell? ⟨X, 3, none⟩ = some (.int .u64 2) := hx9.1.cell 3
      clear hx9
      go_wp2_with fail
      refine wpAny_ready (rs := [33]) (by kernel_rfl) (by simp) ?_
      refine AllReady.cons rfl (fun K hK => ?_) AllReady.nil
      go_simp
      refine hK _ _ ?_
      clear hK K
      refine wpAny_ready (rs := [34]) (by kernel_rfl) (by simp) ?_
      refine AllReady.cons rfl (fun K hK => ?_) AllReady.nil
      go_simp
      refine hK _ _ ?_
      clear hK K
      have HS := Lib.hid (hsame2 _ _ _ K9.out R9.out)
      refine wpAny_ready (rs := [35]) (by kernel_rfl) (by simp) ?_
      refine AllReady.cons rfl (fun K hK => ?_) AllReady.nil
      go_simp
      refine HS.out.mono ?_
      rintro e ws ⟨rfl, ks⟩
      have KS := Lib.hid ks
      clear ks
      go_wp2_with fail
      refine wpAny_ready (rs := [36]) (by kernel_rfl) (by simp) ?_
      refine AllReady.cons rfl (fun K hK => ?_) AllReady.nil
      go_simp
      refine hK _ _ ?_
      clear hK K
      refine wpAny_ready (rs := [37]) (by kernel_rfl) (by simp) ?_
      refine AllReady.cons rfl (fun K hK => ?_) AllReady.nil
      go_simp
      refine hK _ _ ?_
      clear hK K
      (refine wpAny_take (i := 38) (v := ?_) rfl (by kernel_rfl) (by kernel_rfl) (by kernel_rfl) (fun _ _ _ h => h) (Or.inl ⟨by rfl, ?_⟩) ?_; rotate_left; (intro w; go_simp; first | done | with_reducible rfl))
      (refine wpAny_take (i := 39) (v := ?_) rfl (by kernel_rfl) (by kernel_rfl) (by kernel_rfl) (fun _ _ _ h => h) (Or.inl ⟨by rfl, ?_⟩) ?_; rotate_left; (intro w; go_simp; first | done | with_reducible rfl))
      refine wpAny_ready (rs := [40]) (by kernel_rfl) (by simp) ?_
      refine AllReady.cons rfl (fun K hK => ?_) AllReady.nil
      go_simp
      refine (HIDLE.out _ KS.out).mono ?_
      rintro e wi ⟨rfl, ki⟩
      have KI := Lib.hid ki
      clear ki
      go_wp2_with fail
      refine wpAny_ready (rs := [41]) (by kernel_rfl) (by simp) ?_
      refine AllReady.cons rfl (fun K hK => ?_) AllReady.nil
      go_simp
      refine hK _ _ ?_
      clear hK K
      refine wpAny_ready (rs := [42]) (by kernel_rfl) (by simp) ?_
      refine AllReady.cons rfl (fun K hK => ?_) AllReady.nil
      go_simp
      refine hK _ _ ?_
      clear hK K
      refine wpAny_done (by kernel_rfl) ?_ _
      go_wp2_with fail
      go_ret
      exact ⟨rfl, (CS8.out.still KI.out).fr.bel⟩
    · go_simp
      refine hK _ _ ?_
      clear hK K
      refine wpAny_ready (rs := [32, 34]) (by kernel_rfl) (by simp) ?_
      refine AllReady.cons rfl (fun K hK => ?_) (AllReady.cons rfl (fun K hK => ?_) AllReady.nil)
      · go_simp
        refine (HALL.out _ (still_refl w8)).mono ?_
        rintro e w9 ⟨a9, c9, rfl, k9, kk9, r9⟩
        have R9 := Lib.hid r9
        have K9 := Lib.hid k9
        have KK9 := Lib.hid kk9
        clear r9 k9 kk9
        go_wp2_with fail
        refine wpAny_ready (rs := [34]) (by kernel_rfl) (by simp) ?_
        refine AllReady.cons rfl (fun K hK => ?_) AllReady.nil
        go_simp
        refine hK _ _ ?_
        clear hK K
        have HS := Lib.hid (hsame2 _ _ _ K9.out R9.out)
        refine wpAny_ready (rs := [35]) (by kernel_rfl) (by simp) ?_
        refine AllReady.cons rfl (fun K hK => ?_) AllReady.nil
        go_simp
        refine HS.out.mono ?_
        rintro e ws ⟨rfl, ks⟩
        have KS := Lib.hid ks
        clear ks
        go_wp2_with fail
        refine wpAny_ready (rs := [36]) (by kernel_rfl) (by simp) ?_
        refine AllReady.cons rfl (fun K hK => ?_) AllReady.nil
        go_simp
        refine hK _ _ ?_
        clear hK K
        refine wpAny_ready (rs := [37]) (by kernel_rfl) (by simp) ?_
        refine AllReady.cons rfl (fun K hK => ?_) AllReady.nil
        go_simp
        refine hK _ _ ?_
        clear hK K
        (refine wpAny_take (i := 38) (v := ?_) rfl (by kernel_rfl) (by kernel_rfl) (by kernel_rfl) (fun _ _ _ h => h) (Or.inl ⟨by rfl, ?_⟩) ?_; rotate_left; (intro w; go_simp; first | done | with_reducible rfl))
        (refine wpAny_take (i := 39) (v := ?_) rfl (by kernel_rfl) (by kernel_rfl) (by kernel_rfl) (fun _ _ _ h => h) (Or.inl ⟨by rfl, ?_⟩) ?_; rotate_left; (intro w; go_simp; first | done | with_reducible rfl))
        refine wpAny_ready (rs := [40]) (by kernel_rfl) (by simp) ?_
        refine AllReady.cons rfl (fun K hK => ?_) AllReady.nil
        go_simp
        refine (HIDLE.out _ KS.out).mono ?_
        rintro e wi ⟨rfl, ki⟩
        have KI := Lib.hid ki
        clear ki
        go_wp2_with fail
        refine wpAny_ready (rs := [41]) (by kernel_rfl) (by simp) ?_
        refine AllReady.cons rfl (fun K hK => ?_) AllReady.nil
        go_simp
        refine hK _ _ ?_
        clear hK K
        refine wpAny_ready (rs := [42]) (by kernel_rfl) (by simp) ?_
        refine AllReady.cons rfl (fun K hK => ?_) AllReady.nil
        go_simp
        refine hK _ _ ?_
        clear hK K
        refine wpAny_done (by kernel_rfl) ?_ _
        go_wp2_with fail
        go_ret
        exact ⟨rfl, (CS8.out.still KI.out).fr.bel⟩
      · go_simp
        rw [← HWB.out]
        refine hK _ _ ?_
        clear hK K
        refine wpAny_ready (rs := [32]) (by kernel_rfl) (by simp) ?_
        refine AllReady.cons rfl (fun K hK => ?_) AllReady.nil
        go_simp
        refine (HALL.out _ KB.out).mono ?_
        rintro e w9 ⟨a9, c9, rfl, k9, kk9, r9⟩
        have R9 := Lib.hid r9
        have K9 := Lib.hid k9
        have KK9 := Lib.hid kk9
        clear r9 k9 kk9
        go_wp2_with fail
        have HS := Lib.hid (hsame1 _ _ _ KK9.out R9.out)
        refine wpAny_ready (rs := [35]) (by kernel_rfl) (by simp) ?_
        refine AllReady.cons rfl (fun K hK => ?_) AllReady.nil
        go_simp
        refine HS.out.mono ?_
        rintro e ws ⟨rfl, ks⟩
        have KS := Lib.hid ks
        clear ks
        go_wp2_with fail
        refine wpAny_ready (rs := [36]) (by kernel_rfl) (by simp) ?_
        refine AllReady.cons rfl (fun K hK => ?_) AllReady.nil
        go_simp
        refine hK _ _ ?_
        clear hK K
        refine wpAny_ready (rs := [37]) (by kernel_rfl) (by simp) ?_
        refine AllReady.cons rfl (fun K hK => ?_) AllReady.nil
        go_simp
        refine hK _ _ ?_
        clear hK K
        (refine wpAny_take (i := 38) (v := ?_) rfl (by kernel_rfl) (by kernel_rfl) (by kernel_rfl) (fun _ _ _ h => h) (Or.inl ⟨by rfl, ?_⟩) ?_; rotate_left; (intro w; go_simp; first | done | with_reducible rfl))
        (refine wpAny_take (i := 39) (v := ?_) rfl (by kernel_rfl) (by kernel_rfl) (by kernel_rfl) (fun _ _ _ h => h) (Or.inl ⟨by rfl, ?_⟩) ?_; rotate_left; (intro w; go_simp; first | done | with_reducible rfl))
        refine wpAny_ready (rs := [40]) (by kernel_rfl) (by simp) ?_
        refine AllReady.cons rfl (fun K hK => ?_) AllReady.nil
        go_simp
        refine (HIDLE.out _ KS.out).mono ?_
        rintro e wi ⟨rfl, ki⟩
        have KI := Lib.hid ki
        clear ki
        go_wp2_with fail
        refine wpAny_ready (rs := [41]) (by kernel_rfl) (by simp) ?_
        refine AllReady.cons rfl (fun K hK => ?_) AllReady.nil
        go_simp
        refine hK _ _ ?_
        clear hK K
        refine wpAny_ready (rs := [42]) (by kernel_rfl) (by simp) ?_
        refine AllReady.cons rfl (fun K hK => ?_) AllReady.nil
        go_simp
        refine hK _ _ ?_
        clear hK K
        refine wpAny_done (by kernel_rfl) ?_ _
        go_wp2_with fail
        go_ret
        exact ⟨rfl, (CS8.out.still KI.out).fr.bel⟩
  · go_simp
    refine hK _ _ ?_
    clear hK K
    refine wpAny_ready (rs := [31, 34]) (by kernel_rfl) (by simp) ?_
    refine AllReady.cons rfl (fun K hK => ?_) (AllReady.cons rfl (fun K hK => ?_) AllReady.nil)
    · go_simp
      refine (HLOG.out _ (still_refl w8)).mono ?_
      rintro e wl ⟨rfl, rfl⟩
      go_wp2_with fail
      refine wpAny_ready (rs := [32, 34]) (by kernel_rfl) (by simp) ?_
      refine AllReady.cons rfl (fun K hK => ?_) (AllReady.cons rfl (fun K hK => ?_) AllReady.nil)
      · go_simp
        refine (HALL.out _ (still_refl w8)).mono ?_
        rintro e w9 ⟨a9, c9, rfl, k9, kk9, r9⟩
        have R9 := Lib.hid r9
        have K9 := Lib.hid k9
        have KK9 := Lib.hid kk9
        clear r9 k9 kk9
        go_wp2_with fail
        refine wpAny_ready (rs := [34]) (by kernel_rfl) (by simp) ?_
        refine AllReady.cons rfl (fun K hK => ?_) AllReady.nil
        go_simp
        refine hK _ _ ?_
        clear hK K
        have HS := Lib.hid (hsame2 _ _ _ K9.out R9.out)
        refine wpAny_ready (rs := [35]) (by kernel_rfl) (by simp) ?_
        refine AllReady.cons rfl (fun K hK => ?_) AllReady.nil
        go_simp
        refine HS.out.mono ?_
        rintro e ws ⟨rfl, ks⟩
        have KS := Lib.hid ks
        clear ks
        go_wp2_with fail
        refine wpAny_ready (rs := [36]) (by kernel_rfl) (by simp) ?_
        refine AllReady.cons rfl (fun K hK => ?_) AllReady.nil
        go_simp
        refine hK _ _ ?_
        clear hK K
        refine wpAny_ready (rs := [37]) (by kernel_rfl) (by simp) ?_
        refine AllReady.cons rfl (fun K hK => ?_) AllReady.nil
        go_simp
        refine hK _ _ ?_
        clear hK K
        (refine wpAny_take (i := 38) (v := ?_) rfl (by kernel_rfl) (by kernel_rfl) (by kernel_rfl) (fun _ _ _ h => h) (Or.inl ⟨by rfl, ?_⟩) ?_; rotate_left; (intro w; go_simp; first | done | with_reducible rfl))
        (refine wpAny_take (i := 39) (v := ?_) rfl (by kernel_rfl) (by kernel_rfl) (by kernel_rfl) (fun _ _ _ h => h) (Or.inl ⟨by rfl, ?_⟩) ?_; rotate_left; (intro w; go_simp; first | done | with_reducible rfl))
        refine wpAny_ready (rs := [40]) (by kernel_rfl) (by simp) ?_
        refine AllReady.cons rfl (fun K hK => ?_) AllReady.nil
        go_simp
        refine (HIDLE.out _ KS.out).mono ?_
        rintro e wi ⟨rfl, ki⟩
        have KI := Lib.hid ki
        clear ki
        go_wp2_with fail
        refine wpAny_ready (rs := [41]) (by kernel_rfl) (by simp) ?_
        refine AllReady.cons rfl (fun K hK => ?_) AllReady.nil
        go_simp
        refine hK _ _ ?_
        clear hK K
        refine wpAny_ready (rs := [42]) (by kernel_rfl) (by simp) ?_
        refine AllReady.cons rfl (fun K hK => ?_) AllReady.nil
        go_simp
        refine hK _ _ ?_
        clear hK K
        refine wpAny_done (by kernel_rfl) ?_ _
        go_wp2_with fail
        go_ret
        exact ⟨rfl, (CS8.out.still KI.out).fr.bel⟩
      · go_simp
        rw [← HWB.out]
        refine hK _ _ ?_
        clear hK K
        refine wpAny_ready (rs := [32]) (by kernel_rfl) (by simp) ?_
        refine AllReady.cons rfl (fun K hK => ?_) AllReady.nil
        go_simp
        refine (HALL.out _ KB.out).mono ?_
        rintro e w9 ⟨a9, c9, rfl, k9, kk9, r9⟩
        have R9 := Lib.hid r9
        have K9 := Lib.hid k9
        have KK9 := Lib.hid kk9
        clear r9 k9 kk9
        go_wp2_with fail
        have HS := Lib.hid (hsame1 _ _ _ KK9.out R9.out)
        refine wpAny_ready (rs := [35]) (by kernel_rfl) (by simp) ?_
        refine AllReady.cons rfl (fun K hK => ?_) AllReady.nil
        go_simp
        refine HS.out.mono ?_
        rintro e ws ⟨rfl, ks⟩
        have KS := Lib.hid ks
        clear ks
        go_wp2_with fail
        refine wpAny_ready (rs := [36]) (by kernel_rfl) (by simp) ?_
        refine AllReady.cons rfl (fun K hK => ?_) AllReady.nil
        go_simp
        refine hK _ _ ?_
        clear hK K
        refine wpAny_ready (rs := [37]) (by kernel_rfl) (by simp) ?_
        refine AllReady.cons rfl (fun K hK => ?_) AllReady.nil
        go_simp
        refine hK _ _ ?_
        clear hK K
        (refine wpAny_take (i := 38) (v := ?_) rfl (by kernel_rfl) (by kernel_rfl) (by kernel_rfl) (fun _ _ _ h => h) (Or.inl ⟨by rfl, ?_⟩) ?_; rotate_left; (intro w; go_simp; first | done | with_reducible rfl))
        (refine wpAny_take (i := 39) (v := ?_) rfl (by kernel_rfl) (by kernel_rfl) (by kernel_rfl) (fun _ _ _ h => h) (Or.inl ⟨by rfl, ?_⟩) ?_; rotate_left; (intro w; go_simp; first | done | with_reducible rfl))
        refine wpAny_ready (rs := [40]) (by kernel_rfl) (by simp) ?_
        refine AllReady.cons rfl (fun K hK => ?_) AllReady.nil
        go_simp
        refine (HIDLE.out _ KS.out).mono ?_
        rintro e wi ⟨rfl, ki⟩
        have KI := Lib.hid ki
        clear ki
        go_wp2_with fail
        refine wpAny_ready (rs := [41]) (by kernel_rfl) (by simp) ?_
        refine AllReady.cons rfl (fun K hK => ?_) AllReady.nil
        go_simp
        refine hK _ _ ?_
        clear hK K
        refine wpAny_ready (rs := [42]) (by kernel_rfl) (by simp) ?_
        refine AllReady.cons rfl (fun K hK => ?_) AllReady.nil
        go_simp
        refine hK _ _ ?_
        clear hK K
        refine wpAny_done (by kernel_rfl) ?_ _
        go_wp2_with fail
        go_ret
        exact ⟨rfl, (CS8.out.still KI.out).fr.bel⟩
    · go_simp
      rw [← HWB.out]
      refine hK _ _ ?_
      clear hK K
      refine wpAny_ready (rs := [31]) (by kernel_rfl) (by simp) ?_
      refine AllReady.cons rfl (fun K hK => ?_) AllReady.nil
      go_simp
      refine (HLOG.out _ KB.out).mono ?_
      rintro e wl ⟨rfl, rfl⟩
      go_wp2_with fail
      refine wpAny_ready (rs := [32]) (by kernel_rfl) (by simp) ?_
      refine AllReady.cons rfl (fun K hK => ?_) AllReady.nil
      go_simp
      refine (HALL.out _ KB.out).mono ?_
      rintro e w9 ⟨a9, c9, rfl, k9, kk9, r9⟩
      have R9 := Lib.hid r9
      have K9 := Lib.hid k9
      have KK9 := Lib.hid kk9
      clear r9 k9 kk9
      go_wp2_with fail
      have HS := Lib.hid (hsame1 _ _ _ KK9.out R9.out)
      refine wpAny_ready (rs := [35]) (by kernel_rfl) (by simp) ?_
      refine AllReady.cons rfl (fun K hK => ?_) AllReady.nil
      go_simp
      refine HS.out.mono ?_
      rintro e ws ⟨rfl, ks⟩
      have KS := Lib.hid ks
      clear ks
      go_wp2_with fail
      refine wpAny_ready (rs := [36]) (by kernel_rfl) (by simp) ?_
      refine AllReady.cons rfl (fun K hK => ?_) AllReady.nil
      go_simp
      refine hK _ _ ?_
      clear hK K
      refine wpAny_ready (rs := [37]) (by kernel_rfl) (by simp) ?_
      refine AllReady.cons rfl (fun K hK => ?_) AllReady.nil
      go_simp
      refine hK _ _ ?_
      clear hK K
      (refine wpAny_take (i := 38) (v := ?_) rfl (by kernel_rfl) (by kernel_rfl) (by kernel_rfl) (fun _ _ _ h => h) (Or.inl ⟨by rfl, ?_⟩) ?_; rotate_left; (intro w; go_simp; first | done | with_reducible rfl))
      (refine wpAny_take (i := 39) (v := ?_) rfl (by kernel_rfl) (by kernel_rfl) (by kernel_rfl) (fun _ _ _ h => h) (Or.inl ⟨by rfl, ?_⟩) ?_; rotate_left; (intro w; go_simp; first | done | with_reducible rfl))
      refine wpAny_ready (rs := [40]) (by kernel_rfl) (by simp) ?_
      refine AllReady.cons rfl (fun K hK => ?_) AllReady.nil
      go_simp
      refine (HIDLE.out _ KS.out).mono ?_
      rintro e wi ⟨rfl, ki⟩
      have KI := Lib.hid ki
      clear ki
      go_wp2_with fail
      refine wpAny_ready (rs := [41]) (by kernel_rfl) (by simp) ?_
      refine AllReady.cons rfl (fun K hK => ?_) AllReady.nil
      go_simp
      refine hK _ _ ?_
      clear hK K
      refine wpAny_ready (rs := [42]) (by kernel_rfl) (by simp) ?_
      refine AllReady.cons rfl (fun K hK => ?_) AllReady.nil
      go_simp
      refine hK _ _ ?_
      clear hK K
      refine wpAny_done (by kernel_rfl) ?_ _
      go_wp2_with fail
      go_ret
      exact ⟨rfl, (CS8.out.still KI.out).fr.bel⟩

end Go.Proofs.Ytbikganlloopbaa
