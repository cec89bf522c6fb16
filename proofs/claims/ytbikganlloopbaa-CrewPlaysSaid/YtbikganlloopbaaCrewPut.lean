/-
  What stands here: the step in which a worker puts its firing into the log. Under no condition but that the world holds it.
-/
import Derived.Test.YtbikganlloopbaaCrewTake
namespace Go.Proofs.Ytbikganlloopbaa
set_option linter.unusedVariables false
set_option linter.unusedSimpArgs false
open Go.RowKit Go.Proofs
set_option maxHeartbeats 4000000 in
set_option maxRecDepth 100000 in
theorem cputs {col : Nat → Nat} {i f p g N M k q hb cap : Nat} {cf : Nat → Int} {bz n : Int} {x : FiringV} {xs logs : List FiringV} {w : World} (h : CF col f p g N M cf bz xs logs w) (hM : logs.length < 1000000) (hbz : 1 ≤ bz ∧ bz < 100000) (hn : 0 ≤ n ∧ n < 1000000)
    (hk : BlkC col (10 + i) w k #[.pointer (some ⟨f, 0, none⟩), .pointer (some ⟨q, 0, none⟩), .slice (some ⟨hb, 0, none⟩) 1 cap, .int .i64 n] 96) (ho : Owns col (10 + i) w 40 4 (.slice (some ⟨hb, 0, none⟩) 1 cap) 1 x.cl) :
    Calls Try.prog 62 #[.pointer (some ⟨k, 0, none⟩)] w fun e w' => e = .returned (.tuple #[]) ∧ ∃ col', Move (fun c => c = 1 ∨ c = 3 ∨ c = 6 ∨ c = 10 + i) col col' w w' ∧ Kept (fun y => (col y = 1 ∨ col y = 3 ∨ col y = 6) ∨ y = k) w w' ∧ CF col' f p g N M cf (bz - 1) xs (logs ++ [x]) w' ∧
      BlkC col' (10 + i) w' k #[.pointer (some ⟨f, 0, none⟩), .pointer (some ⟨q, 0, none⟩), .slice none 0 0, .int .i64 (n + 1)] 96 := by
  obtain ⟨hcap, d0, d1, d2, d3⟩ := owns_firing ho
  obtain ⟨s, sb, sh, c, l, mx, hf, cf1, hp, cp, cc, cy, hl, ha, hb'⟩ := h
  have HG := Lib.hid (flog hf)
  have hput : ∀ W, Still w W → Calls Try.prog 79 #[.pointer (some ⟨g, 0, none⟩), .slice (some ⟨hb, 0, none⟩) 1 cap] W fun e w' => e = .returned (.tuple #[]) ∧ ∃ col', Move LGS col col' w w' ∧ LG col' g (logs ++ [x]) w' := fun W k9 => by
    have ck : ∀ {a : Addr} {v : Value}, w.cell? a = some v → W.cell? a = some v := fun {a} {v} h => (World.cell?_of_block (k9.block a.block (lt_of_cell h) (fun f => f))).trans h
    refine (gput (hl.move (S := fun _ => False) (.still k9) id id) hM hcap (ck d0) (ck d1) (ck d2) (ck d3)).mono ?_
    rintro e w2 ⟨rfl, col', m', h'⟩
    exact ⟨rfl, col', (Move.still k9).trans m', h'⟩
  have hlog : ∀ W, Still w W → Calls Try.prog 17 #[.pointer (some ⟨f, 0, none⟩)] W fun e w' => e = .returned (.pointer (some ⟨g, 0, none⟩)) ∧ W = w' := fun W k9 => flog (hf.still k9)
  have HPUT := Lib.hid hput
  have HLOG := Lib.hid hlog
  have HK := Lib.hid hk
  have HF := Lib.hid hf
  have HP := Lib.hid hp
  have CY := Lib.hid cy
  have c0 : w.cell? ⟨k, 0, none⟩ = some (.pointer (some ⟨f, 0, none⟩)) := hk.1.cell 0
  have c2 : w.cell? ⟨k, 2, none⟩ = some (.slice (some ⟨hb, 0, none⟩) 1 cap) := hk.1.cell 2
  have CK := Lib.hid hk.1.cells
  have Q := Lib.hid (And.intro cf1 (And.intro cp (And.intro cc (And.intro ha hb'))))
  clear hf hp hl hput hlog hk ho cy cf1 cp cc ha hb' d0 d1 d2 d3
  go_enter Try.func62, Try.ntmps62
  go_upto_region 0 with fail
  refine wp_region_text ([4], [9, 31]) [k] (by kernel_rfl) (by kernel_rfl) (cellsB_cons CK.out cellsB_nil) (by simp [segs, isEff, isLoad, askOps, asks, ptrEq, eqOrNe, isNil]; rfl) ?_
  (repeat ((first | (refine segs_nil ?_) | (refine segs_go (stay_drew) ?_ ?_; focus (simp [isLoad]; done)) | (refine segs_load (stay_drew) ?_ ?_; focus (intro h; first | exact ⟨k, _, rfl, by simp⟩ | (simp [Region.wanted, yielded, undef] at h; done))) | fail); go_wp2_with fail))
  refine (HLOG.out _ ((still_refl w).drewN 1)).mono ?_
  rintro e w1 ⟨rfl, rfl⟩
  go_wp2_with fail
  (repeat ((first | (refine segs_nil ?_) | (refine segs_go (stay_drew) ?_ ?_; focus (simp [isLoad]; done)) | (refine segs_load (stay_drew) ?_ ?_; focus (intro h; first | exact ⟨k, _, rfl, by simp⟩ | (simp [Region.wanted, yielded, undef] at h; done))) | fail); go_wp2_with fail))
  refine (HPUT.out _ ((still_refl w).drewN 1)).mono ?_
  rintro e w1 ⟨rfl, col1, m1, hl1⟩
  go_wp2_with fail
  refine segs_go (fun b hb => by
    rw [List.mem_singleton] at hb
    subst hb
    exact m1.k.block b HK.out.1.lt (by rw [HK.out.2]; show ¬ (_ ∨ _); omega)) (by simp [isLoad]) ?_
  go_wp2_with fail
  refine segs_nil ?_
  obtain ⟨cf1, cp, cc, ha, hb'⟩ := Q.out
  have hcf1 : CF col1 f p g N M cf bz xs (logs ++ [x]) w1 := ⟨s, sb, sh, c, l, mx, HF.out.kept m1.k (fun e => by rw [cf1] at e; rcases e with e | e <;> omega), (m1.re f HF.out.lt).trans cf1, HP.out.kept m1.k (by
      rintro y (h9 | rfl | rfl) e
      · rw [CY.out y h9] at e; rcases e with e | e <;> omega
      · rw [cp] at e; rcases e with e | e <;> omega
      · rw [cc] at e; rcases e with e | e <;> omega), (m1.re p HP.out.blk.lt).trans cp, (m1.re c HP.out.ch.lt).trans cc, fun y hy => (m1.re y (HP.out.in2 hy)).trans (CY.out y hy), hl1, ha, hb'⟩
  have hk1 := HK.out.move m1 (by show ¬ (_ ∨ _); omega)
  have M1 := Lib.hid m1
  obtain ⟨w2, hw2⟩ : ∃ w2, w2 = (w1.setCell ⟨k, 2, none⟩ (.slice none 0 0)).setCell ⟨k, 3, none⟩ (.int .i64 (n + 1)) := ⟨_, rfl⟩
  have k2 : Only k w1 w2 := by rw [hw2]; exact ((only_refl k w1).put 2 _).put 3 _
  have hk2 : BlkC col1 (10 + i) w2 k #[.pointer (some ⟨f, 0, none⟩), .pointer (some ⟨q, 0, none⟩), .slice none 0 0, .int .i64 (n + 1)] 96 := ⟨by rw [hw2]; exact (hk1.1.set 2 _).set' rfl, hk1.2⟩
  have m2 : Move (· = 10 + i) col1 col1 w1 w2 := .still' k2 (fun y hy => by rw [hy]; exact hk1.2)
  have h2 := hcf1.move m2 (by omega) (by omega) (by omega) (by omega)
  obtain ⟨s2, sb2, sh2, cc2, l2, mx2, hf2, q1, q2, q3, q4, q5, q6, q7, q8⟩ := h2
  have e2 : w1.cell? ⟨k, 2, none⟩ = some (.slice (some ⟨hb, 0, none⟩) 1 cap) := hk1.1.cell 2
  have e3 : w1.cell? ⟨k, 3, none⟩ = some (.int .i64 n) := hk1.1.cell 3
  have f2 := hk1.1.free 2
  have f3 := hk1.1.free 3
  have HWK := Lib.hid (fwork false hf2 (by omega) (by simp; omega))
  have c0' : w2.cell? ⟨k, 0, none⟩ = some (.pointer (some ⟨f, 0, none⟩)) := hk2.1.cell 0
  have H2 := Lib.hid (And.intro q1 (And.intro q2 (And.intro q3 (And.intro q4 (And.intro q5 (And.intro q6 (And.intro q7 q8)))))))
  have HK2 := Lib.hid hk2
  have HW2 := Lib.hid hw2
  have M2 := Lib.hid (And.intro m2 k2)
  clear m1 hl1 cf1 cp cc ha hb' hcf1 hk1 hw2 k2 hk2 m2 hf2 q1 q2 q3 q4 q5 q6 q7 q8 c0 c2
  go_upto_region 3 with fail
  rw [← HW2.out]
  go_wp2_with fail
  refine HWK.out.mono ?_
  rintro e w3 ⟨rfl, hf3, k3⟩
  go_wp2_with fail
  go_end0
  obtain ⟨q1, q2, q3, q4, q5, q6, q7, q8⟩ := H2.out
  obtain ⟨m2, k2⟩ := M2.out
  have m3 : Move (· = 1) col1 col1 w2 w3 := .still' k3 (fun y hy => by rw [hy]; exact q1)
  have hne : ∀ y, col1 y = 2 → ¬ y = f := fun y h e => by rw [e, q1] at h; omega
  have h3 : CF col1 f p g N M cf (bz - 1) xs (logs ++ [x]) w3 := ⟨s2, sb2, sh2, cc2, l2, mx2, by simpa [Int.sub_eq_add_neg] using hf3, q1, q2.kept k3 (by
      rintro y (h9 | rfl | rfl)
      · exact hne y (q5 y h9)
      · exact hne _ q3
      · exact hne _ q4), q3, q4, q5, q6.move m3 (by omega) (by omega), q7, q8⟩
  refine ⟨rfl, col1, ((M1.out.mono fun c h => ?_).trans (m2.mono fun c h => .inr (.inr (.inr h)))).trans (m3.mono fun c h => .inl h), ?_, h3, HK2.out.move m3 (by omega)⟩
  · rcases h with h | h
    · exact .inr (.inl h)
    · exact .inr (.inr (.inl h))
  · refine ((M1.out.k.mono fun y _ h => ?_).step k2 fun y _ h => .inr h).step k3 fun y hy h => ?_
    · rcases h with h | h
      · exact .inl (.inr (.inl h))
      · exact .inl (.inr (.inr h))
    · refine .inl (.inl ?_)
      rw [h, ← Q.out.1]
set_option maxHeartbeats 4000000 in
set_option maxRecDepth 100000 in
theorem crow1 {col : Nat → Nat} {i f p g N M k q hb cap b3 b4 b5 a : Nat} {cf : Nat → Int} {bz n : Int} {x : FiringV} {xs logs : List FiringV} {w : World} (h : CF col f p g N M cf bz xs logs w) (hM : logs.length < 1000000) (hbz : 1 ≤ bz ∧ bz < 100000) (hn : 0 ≤ n ∧ n < 1000000)
    (hk : BlkC col (10 + i) w k #[.pointer (some ⟨f, 0, none⟩), .pointer (some ⟨q, 0, none⟩), .slice (some ⟨hb, 0, none⟩) 1 cap, .int .i64 n] 96) (ho : Owns col (10 + i) w 40 4 (.slice (some ⟨hb, 0, none⟩) 1 cap) 1 x.cl)
    (h4 : BlkC col (10 + i) w b4 #[putsV k] 1) (h5 : BlkC col (10 + i) w b5 #[.slice (some ⟨a, 0, none⟩) 1 1] 197) (h3 : BlkC col (10 + i) w b3 #[.int .i64 0] 3) :
    Calls Try.prog 78 #[.pointer (some ⟨b4, 0, none⟩), .pointer (some ⟨b5, 0, none⟩), .pointer (some ⟨b3, 0, none⟩)] w fun e w' => e = .returned (.agg #[.nilFunc, .nilFunc]) ∧ ∃ col', Move (fun c => c = 1 ∨ c = 3 ∨ c = 6 ∨ c = 10 + i) col col' w w' ∧ Kept (fun y => (col y = 1 ∨ col y = 3 ∨ col y = 6) ∨ y = k) w w' ∧ CF col' f p g N M cf (bz - 1) xs (logs ++ [x]) w' ∧
      BlkC col' (10 + i) w' k #[.pointer (some ⟨f, 0, none⟩), .pointer (some ⟨q, 0, none⟩), .slice none 0 0, .int .i64 (n + 1)] 96 := by
  obtain ⟨w0, hw0⟩ : ∃ w0, w0 = w.alloc (.cells #[.nilFunc, .nilFunc] 100) := ⟨_, rfl⟩
  obtain ⟨R, hR⟩ : ∃ R, R = w.heap.size := ⟨_, rfl⟩
  have k0 : Still w w0 := by rw [hw0]; exact (still_refl w).alloc _
  obtain ⟨col0, hcol0⟩ : ∃ col0, col0 = ext col w.heap.size (10 + i) := ⟨_, rfl⟩
  have m0 : ∀ S, Move S col col0 w w0 := fun S => by rw [hcol0]; exact Move.ext (k0.mono fun _ _ f => f.elim) _
  have r0 : BlkC col0 (10 + i) w0 R #[.nilFunc, .nilFunc] 100 := ⟨by rw [hw0, hR]; exact Blk.new _ _ _, by rw [hcol0, hR]; exact ext_new _ (Nat.le_refl _)⟩
  have hkl := hk.1.lt
  have h0 := h.move (m0 (fun _ => False)) id id id id
  have hk0 := hk.move (m0 (fun _ => False)) id
  have ho0 := ho.move (m0 (fun _ => False)) id
  have h40 := h4.move (m0 (fun _ => False)) id
  have h50 := h5.move (m0 (fun _ => False)) id
  have h30 := h3.move (m0 (fun _ => False)) id
  have HPUT := Lib.hid (cputs h0 hM hbz hn hk0 ho0)
  have c4 : w0.cell? ⟨b4, 0, none⟩ = some (putsV k) := h40.1.cell 0
  have hRk : R ≠ k := by omega
  have e4 : b4 ≠ k := h40.1.other_size hk0.1 (by simp)
  have e5 : b5 ≠ k := h50.1.other_size hk0.1 (by simp)
  have e3 : b3 ≠ k := h30.1.other_size hk0.1 (by simp)
  have HE := Lib.hid (And.intro hRk (And.intro e5 e3))
  have HM0 := Lib.hid (m0 (fun c => c = 1 ∨ c = 3 ∨ c = 6 ∨ c = 10 + i))
  have HW0 := Lib.hid hw0
  have HR := Lib.hid hR
  have K0 := Lib.hid k0
  have R0 := Lib.hid r0
  have H50 := Lib.hid h50
  have H30 := Lib.hid h30
  have hcf := fun args wx => run_callFunc (P := Try.prog) (F := 62) ⟨_, Try.func62, by kernel_rfl, by kernel_rfl⟩ args wx
  clear hw0 hR k0 hcol0 m0 r0 h hk ho h4 h5 h3 h0 hk0 ho0 h40 h50 h30 hRk e4 e5 e3 hkl
  go_enter Try.func78, Try.ntmps78
  go_upto_region 1 with fail
  rw [← HW0.out, ← HR.out]
  go_wp2_with fail
  refine HPUT.out.mono ?_
  rintro e w1 ⟨rfl, col1, m1, k1, h1, hk1⟩
  obtain ⟨n1, n2, n3⟩ := HE.out
  have b51 : Blk w1 b5 #[.slice (some ⟨a, 0, none⟩) 1 1] 197 := H50.out.1.kept k1 (by rw [H50.out.2]; omega)
  have b31 : Blk w1 b3 #[.int .i64 0] 3 := H30.out.1.kept k1 (by rw [H30.out.2]; omega)
  have r1 : Blk w1 R #[.nilFunc, .nilFunc] 100 := R0.out.1.kept k1 (by rw [R0.out.2]; omega)
  have d5 : w1.cell? ⟨b5, 0, none⟩ = some (.slice (some ⟨a, 0, none⟩) 1 1) := b51.cell 0
  have d3 : w1.cell? ⟨b3, 0, none⟩ = some (.int .i64 0) := b31.cell 0
  have R1 := Lib.hid r1
  have H1 := Lib.hid h1
  have HK1 := Lib.hid hk1
  have K1 := Lib.hid k1
  have M1 := Lib.hid m1
  clear m1 k1 h1 hk1 n1 n2 n3 b51 b31 r1 c4
  go_wp2_with fail
  refine (prow_none _ 0 w1).mono ?_
  rintro e w2 ⟨rfl, k2⟩
  have r2 := R1.out.still k2
  have p0 : w2.cell? ⟨R, 0, none⟩ = some .nilFunc := r2.cell 0
  have p1 : w2.cell? ⟨R, 1, none⟩ = some .nilFunc := r2.cell 1
  have f0 := r2.free 0
  have f1 := r2.free 1
  have R2 := Lib.hid r2
  have K2 := Lib.hid k2
  clear r2 k2 d5 d3
  go_wp2_with fail
  obtain ⟨wz, hwz, kz, bz9⟩ := stage_set R2.out .nilFunc .nilFunc
  rw [← hwz]
  have p0 : wz.cell? ⟨R, 0, none⟩ = some .nilFunc := bz9.cell 0
  have p1 : wz.cell? ⟨R, 1, none⟩ = some .nilFunc := bz9.cell 1
  refine bodyPost_ret (v := .agg #[.nilFunc, .nilFunc]) (by simp [results, Try.f78, go_sem, p0, p1]) rfl ?_
  obtain ⟨n1, n2, n3⟩ := HE.out
  have hR := HR.out
  have hzR := R0.out.1.lt
  have hz1 := K1.out.size
  have cR : col1 R = 10 + i := (M1.out.re R hzR).trans R0.out.2
  have m2 : Move (· = 10 + i) col1 col1 w1 wz := .still' (Kept.step (S := fun y => y = R) (K2.out.mono (fun _ _ f => f.elim)) kz (fun _ _ h => h)) (fun y hy => by rw [hy]; exact cR)
  refine ⟨rfl, col1, (HM0.out.trans M1.out).trans (m2.mono fun c h => .inr (.inr (.inr h))), ?_, H1.out.move m2 (by omega) (by omega) (by omega) (by omega), ⟨(HK1.out.1.still K2.out).kept kz (fun e => n1 e.symm), HK1.out.2⟩⟩
  refine ((Kept.step (K0.out.mono (fun _ _ f => f.elim)) K1.out (fun y hy h => ?_)).of_still K2.out).step kz (fun y hy h => absurd hy (by omega))
  rw [HM0.out.re y hy] at h
  exact h
set_option maxHeartbeats 4000000 in
set_option maxRecDepth 100000 in
theorem cthen1 {col : Nat → Nat} {i f p g N M k q hb cap b1 b2 : Nat} {cf : Nat → Int} {bz n : Int} {x : FiringV} {xs logs : List FiringV} {w : World} (h : CF col f p g N M cf bz xs logs w) (hM : logs.length < 1000000) (hbz : 1 ≤ bz ∧ bz < 100000) (hn : 0 ≤ n ∧ n < 1000000)
    (hk : BlkC col (10 + i) w k #[.pointer (some ⟨f, 0, none⟩), .pointer (some ⟨q, 0, none⟩), .slice (some ⟨hb, 0, none⟩) 1 cap, .int .i64 n] 96) (ho : Owns col (10 + i) w 40 4 (.slice (some ⟨hb, 0, none⟩) 1 cap) 1 x.cl) (hp : PutB col (10 + i) k b1 b2 w) :
    Calls Try.prog 77 #[.pointer (some ⟨b1, 0, none⟩), .pointer (some ⟨b2, 0, none⟩)] w fun e w' => ∃ bx col', e = .returned (.agg #[takeM bx, takeD bx]) ∧ Move (fun c => c = 1 ∨ c = 3 ∨ c = 6 ∨ c = 10 + i) col col' w w' ∧ Kept (fun y => (col y = 1 ∨ col y = 3 ∨ col y = 6) ∨ y = k) w w' ∧ CF col' f p g N M cf (bz - 1) xs (logs ++ [x]) w' ∧
      BlkC col' (10 + i) w' k #[.pointer (some ⟨f, 0, none⟩), .pointer (some ⟨q, 0, none⟩), .slice none 0 0, .int .i64 (n + 1)] 96 ∧ BlkC col' (10 + i) w' bx #[.pointer (some ⟨k, 0, none⟩)] 31 := by
  obtain ⟨b3, b4, b5, a, h1, h2, h4, h5, h3⟩ := hp
  obtain ⟨w0, hw0⟩ : ∃ w0, w0 = w.alloc (.cells #[.nilFunc, .nilFunc] 100) := ⟨_, rfl⟩
  obtain ⟨R, hR⟩ : ∃ R, R = w.heap.size := ⟨_, rfl⟩
  have k0 : Still w w0 := by rw [hw0]; exact (still_refl w).alloc _
  obtain ⟨col0, hcol0⟩ : ∃ col0, col0 = ext col w.heap.size (10 + i) := ⟨_, rfl⟩
  have m0 : ∀ S, Move S col col0 w w0 := fun S => by rw [hcol0]; exact Move.ext (k0.mono fun _ _ f => f.elim) _
  have r0 : BlkC col0 (10 + i) w0 R #[.nilFunc, .nilFunc] 100 := ⟨by rw [hw0, hR]; exact Blk.new _ _ _, by rw [hcol0, hR]; exact ext_new _ (Nat.le_refl _)⟩
  have hkl := hk.1.lt
  have h0 := h.move (m0 (fun _ => False)) id id id id
  have hk0 := hk.move (m0 (fun _ => False)) id
  have ho0 := ho.move (m0 (fun _ => False)) id
  have h40 := h4.move (m0 (fun _ => False)) id
  have h50 := h5.move (m0 (fun _ => False)) id
  have h30 := h3.move (m0 (fun _ => False)) id
  have h10 := h1.move (m0 (fun _ => False)) id
  have h20 := h2.move (m0 (fun _ => False)) id
  have hrow : ∀ W, Still w0 W → Calls Try.prog 78 #[.pointer (some ⟨b4, 0, none⟩), .pointer (some ⟨b5, 0, none⟩), .pointer (some ⟨b3, 0, none⟩)] W fun e w' => e = .returned (.agg #[.nilFunc, .nilFunc]) ∧ ∃ col', Move (fun c => c = 1 ∨ c = 3 ∨ c = 6 ∨ c = 10 + i) col0 col' w0 w' ∧ Kept (fun y => (col0 y = 1 ∨ col0 y = 3 ∨ col0 y = 6) ∨ y = k) w0 w' ∧ CF col' f p g N M cf (bz - 1) xs (logs ++ [x]) w' ∧
      BlkC col' (10 + i) w' k #[.pointer (some ⟨f, 0, none⟩), .pointer (some ⟨q, 0, none⟩), .slice none 0 0, .int .i64 (n + 1)] 96 := fun W k9 => by
    refine (crow1 (h0.still k9) hM hbz hn (hk0.still k9) (ho0.still k9) (h40.still k9) (h50.still k9) (h30.still k9)).mono ?_
    rintro e w2 ⟨rfl, col', m', kk', h', hk'⟩
    exact ⟨rfl, col', (Move.still k9).trans m', Kept.step (k9.mono (fun _ _ f => f.elim)) kk' (fun _ _ h => h), h', hk'⟩
  have HROW := Lib.hid hrow
  have hRk : R ≠ k := by omega
  have e1 : b1 ≠ k := h10.1.other_size hk0.1 (by simp)
  have e2 : b2 ≠ k := h20.1.other_size hk0.1 (by simp)
  have c1 : w0.cell? ⟨b1, 1, none⟩ = some (rowV b4 b5 b3) := h10.1.cell 1
  have c2 : w0.cell? ⟨b2, 0, none⟩ = some (takesV k) := h20.1.cell 0
  have CB1 := Lib.hid h10.1.cells
  have CB2 := Lib.hid h20.1.cells
  have HE := Lib.hid (And.intro hRk (And.intro e1 e2))
  have HM0 := Lib.hid (m0 (fun c => c = 1 ∨ c = 3 ∨ c = 6 ∨ c = 10 + i))
  have HW0 := Lib.hid hw0
  have HR := Lib.hid hR
  have K0 := Lib.hid k0
  have R0 := Lib.hid r0
  have H10 := Lib.hid h10
  have H20 := Lib.hid h20
  have hcf := fun args wx => run_callFunc (P := Try.prog) (F := 78) ⟨_, Try.func78, by kernel_rfl, by kernel_rfl⟩ args wx
  clear hw0 hR k0 hcol0 m0 r0 h hk ho h4 h5 h3 h0 hk0 ho0 h40 h50 h30 hRk e1 e2 hkl hrow h1 h2 h10 h20
  go_enter Try.func77, Try.ntmps77
  go_upto_region 1 with fail
  rw [← HW0.out, ← HR.out]
  refine wp_region_end ([4], [9]) [b1, b2] rfl (by kernel_rfl) (by kernel_rfl) (by kernel_rfl) (cellsB_cons CB1.out (cellsB_cons CB2.out cellsB_nil)) (by simp [segs, isEff, isLoad, askOps, asks, ptrEq, eqOrNe, isNil]; rfl) ?_
  (repeat ((first | (refine segs_nil ?_) | (refine segs_go (stay_drew) ?_ ?_; focus (simp [isLoad]; done)) | (refine segs_load (stay_drew) ?_ ?_; focus (intro h; first | exact ⟨b1, _, rfl, by simp⟩ | exact ⟨b2, _, rfl, by simp⟩ | (simp [Region.wanted, yielded, undef] at h; done))) | fail); go_wp2_with fail))
  refine (HROW.out _ ((still_refl w0).drewN 1)).mono ?_
  rintro e w1 ⟨rfl, col1, m1, k1, h1, hk1⟩
  obtain ⟨n1, n2, n3⟩ := HE.out
  have b11 : Blk w1 b1 _ _ := H10.out.1.kept k1 (by rw [H10.out.2]; omega)
  have b21 : Blk w1 b2 _ _ := H20.out.1.kept k1 (by rw [H20.out.2]; omega)
  have r1 : Blk w1 R #[.nilFunc, .nilFunc] 100 := R0.out.1.kept k1 (by rw [R0.out.2]; omega)
  have d2 : w1.cell? ⟨b2, 0, none⟩ = some (takesV k) := b21.cell 0
  have hst : StayB [b1, b2] w0 w1 := fun b hb => by
    simp only [List.mem_cons, List.not_mem_nil, or_false] at hb
    rcases hb with rfl | rfl
    · exact k1.block _ H10.out.1.lt (by rw [H10.out.2]; omega)
    · exact k1.block _ H20.out.1.lt (by rw [H20.out.2]; omega)
  have HST := Lib.hid hst
  have R1 := Lib.hid r1
  have H1 := Lib.hid h1
  have HK1 := Lib.hid hk1
  have K1 := Lib.hid k1
  have M1 := Lib.hid m1
  clear m1 k1 h1 hk1 n1 n2 n3 b11 b21 r1 hst c1 c2
  go_wp2_with fail
  refine segs_go HST.out (by simp [isLoad]) ?_
  go_wp2_with fail
  refine segs_load HST.out (fun h => ⟨b2, _, rfl, by simp⟩) ?_
  go_wp2_with fail
  refine (pthen_nil k w1).mono ?_
  rintro e w2 ⟨bx, rfl, k2, zx, bx2⟩
  have r2 := R1.out.still k2
  have p0 : w2.cell? ⟨R, 0, none⟩ = some .nilFunc := r2.cell 0
  have p1 : w2.cell? ⟨R, 1, none⟩ = some .nilFunc := r2.cell 1
  have f0 := r2.free 0
  have f1 := r2.free 1
  have hst2 : StayB [b1, b2] w0 w2 := fun b hb => by
    have h9 := HST.out b hb
    have hlt : b < w0.heap.size := by
      simp only [List.mem_cons, List.not_mem_nil, or_false] at hb
      rcases hb with rfl | rfl
      · exact H10.out.1.lt
      · exact H20.out.1.lt
    exact (k2.block b (Nat.lt_of_lt_of_le hlt K1.out.size) (fun f => f)).trans h9
  have R2 := Lib.hid r2
  have K2 := Lib.hid k2
  have ZX := Lib.hid zx
  have BX := Lib.hid bx2
  clear r2 k2 d2 zx bx2
  go_wp2_with fail
  refine segs_go hst2 (by simp [isLoad]) ?_
  clear hst2
  go_wp2_with fail
  refine segs_nil ?_
  go_wp2_with fail
  obtain ⟨wz, hwz, kz, bz9⟩ := stage_set R2.out (takeM bx) (takeD bx)
  rw [← hwz]
  have p0 : wz.cell? ⟨R, 0, none⟩ = some (takeM bx) := bz9.cell 0
  have p1 : wz.cell? ⟨R, 1, none⟩ = some (takeD bx) := bz9.cell 1
  refine bodyPost_ret (v := .agg #[takeM bx, takeD bx]) (by simp [results, Try.f77, go_sem, p0, p1]) rfl ?_
  obtain ⟨n1, n2, n3⟩ := HE.out
  have hR := HR.out
  have hzR := R0.out.1.lt
  have hz1 := K1.out.size
  have hzx := ZX.out
  have cR : col1 R = 10 + i := (M1.out.re R hzR).trans R0.out.2
  obtain ⟨col2, hcol2⟩ : ∃ col2, col2 = ext col1 w1.heap.size (10 + i) := ⟨_, rfl⟩
  have m2 : Move (· = 10 + i) col1 col2 w1 wz := by
    rw [hcol2]
    exact Move.ext ((Kept.step (S := fun y => y = R) (K2.out.mono (fun _ _ f => f.elim)) kz (fun _ _ h => h)).mono (fun y _ hy => by rw [hy]; exact cR)) _
  refine ⟨bx, col2, rfl, (HM0.out.trans M1.out).trans (m2.mono fun c h => .inr (.inr (.inr h))), ?_, H1.out.move m2 (by omega) (by omega) (by omega) (by omega), ⟨(HK1.out.1.still K2.out).kept kz (fun e => n1 e.symm), (m2.re k HK1.out.1.lt).trans HK1.out.2⟩, BX.out.kept kz (by omega), by rw [hcol2]; exact ext_new _ hzx⟩
  refine ((Kept.step (K0.out.mono (fun _ _ f => f.elim)) K1.out (fun y hy h => ?_)).of_still K2.out).step kz (fun y hy h => absurd hy (by omega))
  rw [HM0.out.re y hy] at h
  exact h
end Go.Proofs.Ytbikganlloopbaa
