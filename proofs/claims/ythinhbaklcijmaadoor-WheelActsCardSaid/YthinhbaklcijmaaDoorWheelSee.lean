/-
  What stands here: what a wheel tells of itself. Under no condition but that the world holds it.
-/
import Derived.Test.YthinhbaklcijmaaDoorWheelTake
namespace Go.Proofs.YthinhbaklcijmaaDoor
set_option linter.unusedVariables false
set_option linter.unusedSimpArgs false
open Go.RowKit Go.Proofs
theorem owns_lower {w : World} {base base' : Nat} {e : TypeId} {sz : Nat} {v : Value} {n : Nat} {xs : List Value} (h : w.ownsRow base e sz v n xs) (hb : base' ≤ base) : w.ownsRow base' e sz v n xs := by
  obtain ⟨h1, h2 | ⟨g, cap, cur, h2, h3, h4⟩⟩ := h
  · exact ⟨h1, .inl h2⟩
  · exact ⟨h1, .inr ⟨g, cap, cur, h2, Nat.le_trans hb h3, h4⟩⟩
theorem wrow_e {s : LS} {v : Nat} {lv : Nat → Nat} {sl : Nat → Nat → Nat} {bd : Nat} {S : WSt} {L : List Nat} {n : Nat} {w : World} (h : WB_e s v lv sl bd S L n w) {q : Nat} (hq : q < 257) : valsOf_e s (s.sq (lq sl bd q)) = ptrs (S.pl q) ∧ ∀ x, x ∈ s.sq (lq sl bd q) → ∃ v, (s.nd x).val = .pointer v := by
  rw [h.sq q hq]
  constructor
  · unfold valsOf_e ptrs
    rw [List.map_map]
    exact List.map_congr_left fun e he => (h.ent q e hq he).2.2.2.1
  · intro x hx
    obtain ⟨e, he, rfl⟩ := List.mem_map.1 hx
    exact ⟨_, (h.ent q e hq he).2.2.2.1⟩
theorem wval_e {s : LS} {v : Nat} {lv : Nat → Nat} {sl : Nat → Nat → Nat} {bd : Nat} {S : WSt} {L : List Nat} {n : Nat} {w : World} (h : WB_e s v lv sl bd S L n w) {e : Nat} (he : s.kd e = 6) : e < w.heap.size ∧ w.cell? ⟨e, 0, none⟩ = some (S.dl e) ∧ w.cell? ⟨e, 1, none⟩ = some (S.val e 0) := by
  rcases h.out e he with ⟨q, hq, h1⟩ | h1 | h1
  · have b := (h.ent q e hq h1).2.1
    exact ⟨Blk.lt b, Blk.cell b 0, Blk.cell b 1⟩
  · have b := (h.hang e h1).2.1
    exact ⟨Blk.lt b, Blk.cell b 0, Blk.cell b 1⟩
  · exact ⟨Blk.lt h1, Blk.cell h1 0, Blk.cell h1 1⟩
theorem wlen_nil_e (w : World) : Calls Tryd.prog 20 #[.pointer none] w fun r w' => r = .returned (.int .i64 0) ∧ w = w' := by
  go_enter Tryd.func20, Tryd.ntmps20
  go_wp2
  go_ret
  exact ⟨rfl, rfl⟩
theorem wlen_e {s : LS} {v : Nat} {lv : Nat → Nat} {sl : Nat → Nat → Nat} {bd : Nat} {S : WSt} {L : List Nat} {n : Nat} (w : World) (h : WB_e s v lv sl bd S L n w) : Calls Tryd.prog 20 #[.pointer (some ⟨v, 0, none⟩)] w fun r w' => r = .returned (.int .i64 n) ∧ w = w' := by
  have c0 : w.cell? ⟨v, 6, none⟩ = some (.int .i64 n) := h.blk.cell 6
  clear h
  go_enter Tryd.func20, Tryd.ntmps20
  go_wp2
  go_ret
  exact ⟨rfl, rfl⟩
theorem wnow_nil_e (w : World) : Calls Tryd.prog 21 #[.pointer none] w fun r w' => r = .returned (.int .u64 0) ∧ w = w' := by
  go_enter Tryd.func21, Tryd.ntmps21
  go_wp2
  go_ret
  exact ⟨rfl, rfl⟩
theorem wnow_e {s : LS} {v : Nat} {lv : Nat → Nat} {sl : Nat → Nat → Nat} {bd : Nat} {S : WSt} {L : List Nat} {n : Nat} (w : World) (h : WB_e s v lv sl bd S L n w) : Calls Tryd.prog 21 #[.pointer (some ⟨v, 0, none⟩)] w fun r w' => r = .returned (.int .u64 S.now) ∧ w = w' := by
  have c0 : w.cell? ⟨v, 0, none⟩ = some (.int .u64 S.now) := h.blk.cell 0
  clear h
  go_enter Tryd.func21, Tryd.ntmps21
  go_wp2
  go_ret
  exact ⟨rfl, rfl⟩
theorem infoVal_e : (Tryd.prog.info? 3).map (fun i => (i.zero, i.size, i.bytes)) = some (some (Value.int .i64 0), 1, 8) := by kernel_rfl
set_option maxHeartbeats 1000000 in
theorem wvalues_e (w : World) (r : Value) (es : List Nat) (f : Nat → Int) (hr : VRow (fun _ => True) w r (ptrs es)) (hc : ∀ e, e ∈ es → e < w.heap.size ∧ w.cell? ⟨e, 1, none⟩ = some (Value.int .i64 (f e))) (hl : es.length ≤ 100000) :
    Calls Tryd.prog 40 #[r] w fun e w' => (∃ v, e = .returned v ∧ w'.ownsRow w.heap.size 3 1 v es.length (es.map fun e => Value.int .i64 (f e))) ∧ Below w.heap.size w w' := by
  obtain ⟨i0, hi, hz0, hz1, hz2⟩ := info_parts infoVal_e
  obtain ⟨ra, rc, rfl⟩ := hr.len
  rw [ptrs_len] at hr ⊢
  have HR := Lib.hid hr
  have HC := Lib.hid hc
  clear hr hc
  go_enter Tryd.func40, Tryd.ntmps40
  go_wp2_with fail
  go_loopw [3, 5, 8] (fun ov _ i wx => ∃ j : Nat, j ≤ es.length ∧ i = .int .i64 j ∧ wx.ownsRow w.heap.size 3 1 ov j ((es.take j).map fun e => Value.int .i64 (f e)) ∧ Below w.heap.size w wx) (fun _ _ i _ => es.length - (intOf i).toNat)
  case atStart => exact ⟨0, Nat.zero_le _, rfl, World.ownsRow_nil _ _ _ _, Below.refl _ _⟩
  case round =>
    obtain ⟨j, hj, rfl, hown, hbel⟩ := hrel
    have O := Lib.hid hown
    have BEL := Lib.hid hbel
    have hsz := hbel.size
    clear hown hbel
    by_cases hjl : j < es.length
    · obtain ⟨e, he⟩ : ∃ e, e = es[j] := ⟨_, rfl⟩
      have hem : e ∈ es := by rw [he]; exact List.getElem_mem hjl
      have hc0 := HR.out.at_.2.2.2
      rw [ptrs_len] at hc0
      obtain ⟨b, o, rfl, hbl, _, hcell⟩ := hc0 (by omega)
      have c1 : wr.cell? ⟨b, o + j, none⟩ = some (.pointer (some ⟨e, 0, none⟩)) := by
        rw [BEL.out.cell (p := ⟨b, o + j, none⟩) hbl, hcell j hjl]
        unfold ptrs
        rw [List.getElem?_map, List.getElem?_eq_getElem hjl, he]; rfl
      obtain ⟨hel, hev⟩ := HC.out e hem
      have c2 : wr.cell? ⟨e, 1, none⟩ = some (Value.int .i64 (f e)) := by
        rw [BEL.out.cell (p := ⟨e, 1, none⟩) hel, hev]
      have HEJ := Lib.hid he
      have hoa : (wr.alloc (.cells #[Value.int .i64 (f e)] 3)).ownsRow w.heap.size 3 1 u3 j ((es.take j).map fun e => Value.int .i64 (f e)) := owns_kept2 O.out ((Kept.refl (fun _ => False) _).alloc _) (fun _ _ f => f)
      have hbz : w.heap.size ≤ (wr.alloc (.cells #[Value.int .i64 (f e)] 3)).heap.size := by simp; omega
      clear hc0 hcell he hev
      go_wp2_with (first | (at_builtin; refine wpList_append _ rfl _ _ 52 rfl w.heap.size 3 i0 (Value.int .i64 0) 1 8 Tryd.underlying52 hi hz0 hz1 hz2 rfl (by decide) _ _ _ rfl (hoa) ⟨wr.heap.size, 0, none⟩ 1 1 [Value.int .i64 (f e)] rfl rfl (by intro j u hj; match j, hj with | 0, hj => simp at hj; subst hj; first | (simp [Addr.add]; done) | exact (Blk.newAt _ _ _ (by simp)).cell 0) (by intro u hu; simp at hu; subst hu; rfl) (by unfold maxLen; omega) (by omega) (by first | omega | (simp; omega) | simp) ?_) | fail)
      intro ov w2 hap
      have O2 := Lib.hid hap.owns
      have B2 := Lib.hid (BEL.out.trans ((hap.kept (S := fun y => w.heap.size ≤ y) (Kept.refl _ wr) (fun b _ hb => owns_block hoa b hb)).below hsz (fun _ h => h)))
      clear hap hoa
      go_wp2_with fail
      go_roundw
      case rel =>
        refine ⟨j + 1, by omega, by go_num, ?_, B2.out⟩
        have := O2.out
        rw [← List.map_take] at this
        rw [List.take_succ_eq_append_getElem hjl, List.map_append, show [es[j]].map (fun e => Value.int .i64 (f e)) = [Value.int .i64 (f e)] by rw [← HEJ.out]; rfl]
        exact this
      case measure => simp [intOf]; omega
    · obtain rfl : j = es.length := by omega
      go_wp2_with fail
      go_ret
      have := O.out
      rw [List.take_length] at this
      exact ⟨⟨_, rfl, this⟩, BEL.out⟩
theorem wat_out_e (v : Nat) (l k : Int) (w : World) (hl : ¬ (0 ≤ l ∧ l < 4)) : Calls Tryd.prog 18 #[.pointer (some ⟨v, 0, none⟩), .int .i64 l, .int .i64 k] w fun e w' => e = .returned (.slice none 0 0) ∧ w = w' := by
  by_cases h1 : 0 ≤ l
  · have h2 : ¬ l < 4 := fun h => hl ⟨h1, h⟩
    have h3 : decide (4 ≤ l) = true := decide_eq_true (by omega)
    have h4 : decide (l < 0) = false := decide_eq_false (by omega)
    clear hl
    go_enter Tryd.func18, Tryd.ntmps18
    go_wp2_with fail
    go_ret
    exact ⟨rfl, rfl⟩
  · have h4 : decide (l < 0) = true := decide_eq_true (by omega)
    clear hl
    go_enter Tryd.func18, Tryd.ntmps18
    go_wp2_with fail
    go_ret
    exact ⟨rfl, rfl⟩
theorem wat_nil_e (l k : Int) (w : World) : Calls Tryd.prog 18 #[.pointer none, .int .i64 l, .int .i64 k] w fun e w' => e = .returned (.slice none 0 0) ∧ w = w' := by
  go_enter Tryd.func18, Tryd.ntmps18
  go_wp2_with fail
  go_ret
  exact ⟨rfl, rfl⟩
theorem wat_slot_e {s : LS} {v : Nat} {lv : Nat → Nat} {sl : Nat → Nat → Nat} {bd : Nat} {S : WSt} {L : List Nat} {n : Nat} (w : World) (h : WB_e s v lv sl bd S L n w) (l : Nat) (hl : l < 4) (k : Int) (hk : ¬ (0 ≤ k ∧ k < 64)) :
    Calls Tryd.prog 18 #[.pointer (some ⟨v, 0, none⟩), .int .i64 (l : Int), .int .i64 k] w fun e w' => (∃ v, e = .returned v ∧ w'.ownsRow w.heap.size 3 1 v 0 []) ∧ Below w.heap.size w w' := by
  have cl : w.cell? ⟨v, 1 + l, none⟩ = some (.pointer (some ⟨lv l, 0, none⟩)) := by
    refine (h.blk.cell (1 + l)).trans ?_
    obtain rfl | rfl | rfl | rfl : l = 0 ∨ l = 1 ∨ l = 2 ∨ l = 3 := by omega
    all_goals rfl
  have h3 : decide (4 ≤ (l : Int)) = false := decide_eq_false (by omega)
  have h4 : decide ((l : Int) < 0) = false := decide_eq_false (by omega)
  clear h
  go_enter Tryd.func18, Tryd.ntmps18
  go_wp2_with fail
  refine (lvat_range_e (lv l) k w hk).mono ?_
  rintro e w1 ⟨rfl, rfl⟩
  go_wp2_with fail
  refine (wvalues_e w (.slice none 0 0) [] (fun _ => 0) (VRow.nil _ _ _ _ (Nat.zero_le _)) (fun e he => by cases he) (Nat.zero_le _)).mono ?_
  rintro e w2 ⟨⟨r, rfl, ho⟩, bel⟩
  go_wp2_with fail
  go_ret
  exact ⟨⟨_, rfl, ho⟩, bel⟩
theorem wat_e {s : LS} {v : Nat} {lv : Nat → Nat} {sl : Nat → Nat → Nat} {bd : Nat} {S : WSt} {L : List Nat} {n : Nat} (w : World) (h : WB_e s v lv sl bd S L n w) (hbig : nAll S.pl < 90000) (f : Nat → Int) (l k : Nat) (hl : l < 4) (hk : k < 64) (hf : ∀ e, e ∈ S.pl (l * 64 + k) → S.val e 0 = Value.int .i64 (f e)) :
    Calls Tryd.prog 18 #[.pointer (some ⟨v, 0, none⟩), .int .i64 (l : Int), .int .i64 (k : Int)] w fun e w' => (∃ v, e = .returned v ∧ w'.ownsRow w.heap.size 3 1 v (S.pl (l * 64 + k)).length ((S.pl (l * 64 + k)).map fun e => Value.int .i64 (f e))) ∧ Below w.heap.size w w' := by
  have cl : w.cell? ⟨v, 1 + l, none⟩ = some (.pointer (some ⟨lv l, 0, none⟩)) := by
    refine (h.blk.cell (1 + l)).trans ?_
    obtain rfl | rfl | rfl | rfl : l = 0 ∨ l = 1 ∨ l = 2 ∨ l = 3 := by omega
    all_goals rfl
  have h3 : decide (4 ≤ (l : Int)) = false := decide_eq_false (by omega)
  have h4 : decide ((l : Int) < 0) = false := decide_eq_false (by omega)
  have hq : l * 64 + k < 257 := by omega
  have H := Lib.hid h
  have HF := Lib.hid hf
  have hlq : lq sl bd (l * 64 + k) = sl l k := lq_lev sl bd hl hk
  obtain ⟨r1, r2⟩ := wrow_e h hq
  have hle : (S.pl (l * 64 + k)).length ≤ nAll S.pl := le_nAll S.pl hq
  have htot := h.tot hl
  have hln := h.len hq
  rw [hlq] at r1 r2 hln
  have R1 := Lib.hid r1
  have R2 := Lib.hid r2
  have HLN := Lib.hid hln
  clear h hf r1 r2 hlq hln
  go_enter Tryd.func18, Tryd.ntmps18
  go_wp2_with fail
  refine (lvat_e s (lv l) (sl l) k w H.out.lw (H.out.lev l hl) hk (by omega) R2.out).mono ?_
  rintro e w1 ⟨⟨r, rfl, ho⟩, bel⟩
  rw [R1.out, HLN.out] at ho
  have hk1 : Still w w1 := ⟨bel.os, bel.tape, bel.output, bel.size, fun k hk _ => bel.block k hk⟩
  have H1 := Lib.hid (H.out.still hk1)
  have BEL := Lib.hid bel
  have hsz := bel.size
  have hr := (VRow.of_owns ho).mono (R := fun _ => True) (fun _ _ => trivial)
  have HR := Lib.hid hr
  clear bel ho hk1 hr
  go_wp2_with fail
  refine (wvalues_e w1 r (S.pl (l * 64 + k)) f HR.out (fun e he => by
    obtain ⟨g1, _, g3⟩ := wval_e H1.out (H1.out.ent _ e hq he).1
    exact ⟨g1, by rw [g3, HF.out e he]⟩) (by omega)).mono ?_
  rintro e w2 ⟨⟨r2, rfl, ho2⟩, bel2⟩
  go_wp2_with fail
  go_ret
  refine ⟨⟨_, rfl, ?_⟩, BEL.out.trans (bel2.mono hsz)⟩
  exact owns_lower ho2 hsz
theorem wbeyond_nil_e (w : World) : Calls Tryd.prog 19 #[.pointer none] w fun e w' => e = .returned (.slice none 0 0) ∧ w = w' := by
  go_enter Tryd.func19, Tryd.ntmps19
  go_wp2_with fail
  go_ret
  exact ⟨rfl, rfl⟩
theorem wbeyond_e {s : LS} {v : Nat} {lv : Nat → Nat} {sl : Nat → Nat → Nat} {bd : Nat} {S : WSt} {L : List Nat} {n : Nat} (w : World) (h : WB_e s v lv sl bd S L n w) (hbig : nAll S.pl < 90000) (f : Nat → Int) (hf : ∀ e, e ∈ S.pl 256 → S.val e 0 = Value.int .i64 (f e)) :
    Calls Tryd.prog 19 #[.pointer (some ⟨v, 0, none⟩)] w fun e w' => (∃ v, e = .returned v ∧ w'.ownsRow w.heap.size 3 1 v (S.pl 256).length ((S.pl 256).map fun e => Value.int .i64 (f e))) ∧ Below w.heap.size w w' := by
  have cl : w.cell? ⟨v, 5, none⟩ = some (.pointer (some ⟨bd, 0, none⟩)) := h.blk.cell 5
  have hq : 256 < 257 := by omega
  have H := Lib.hid h
  have HF := Lib.hid hf
  have hlq : lq sl bd 256 = bd := lq_bd sl bd
  obtain ⟨r1, r2⟩ := wrow_e h hq
  have hle : (S.pl 256).length ≤ nAll S.pl := le_nAll S.pl hq
  have hln := h.len hq
  have hkl := h.kl 256 hq
  rw [hlq] at r1 r2 hln hkl
  have R1 := Lib.hid r1
  have R2 := Lib.hid r2
  have HLN := Lib.hid hln
  have HKL := Lib.hid hkl
  clear h hf r1 r2 hlq hln hkl
  go_enter Tryd.func19, Tryd.ntmps19
  go_wp2_with fail
  refine (lallo_e s w H.out.lw bd HKL.out (by rw [HLN.out]; omega) R2.out).mono ?_
  rintro e w1 ⟨⟨r, rfl, ho⟩, bel⟩
  rw [R1.out, HLN.out] at ho
  have hk1 : Still w w1 := ⟨bel.os, bel.tape, bel.output, bel.size, fun k hk _ => bel.block k hk⟩
  have H1 := Lib.hid (H.out.still hk1)
  have BEL := Lib.hid bel
  have hsz := bel.size
  have hr := (VRow.of_owns ho).mono (R := fun _ => True) (fun _ _ => trivial)
  have HR := Lib.hid hr
  clear bel ho hk1 hr
  go_wp2_with fail
  refine (wvalues_e w1 r (S.pl 256) f HR.out (fun e he => by
    obtain ⟨g1, _, g3⟩ := wval_e H1.out (H1.out.ent _ e hq he).1
    exact ⟨g1, by rw [g3, HF.out e he]⟩) (by omega)).mono ?_
  rintro e w2 ⟨⟨r2, rfl, ho2⟩, bel2⟩
  go_wp2_with fail
  go_ret
  refine ⟨⟨_, rfl, ?_⟩, BEL.out.trans (bel2.mono hsz)⟩
  exact owns_lower ho2 hsz

end Go.Proofs.YthinhbaklcijmaaDoor
