/-
  What stands here: the walk of RingActs. Under no condition but that its arguments fit their types.
-/
import Derived.Test.YtegkijlgbkedmaaRingBoth
import Derived.Lib.MinMax
namespace Go.Proofs.Ytegkijlgbkedmaa
set_option linter.unusedVariables false
set_option linter.unusedSimpArgs false
open Go.RowKit Go.Proofs

theorem atK_snoc (ts : List TS) : ts.map atK ++ [(0, 0)] = (ts ++ [(⟨0, 0, 0, false⟩ : TS)]).map atK := by simp [atK]
theorem infoPtr4 : (Try.prog.info? 37).map (fun i => (i.zero, i.size, i.bytes)) = some (some (.pointer none), 1, 8) := by kernel_rfl
/-- all that goes on, behind so many acts -/
def ActsAt (room b sb wb base : Nat) (most : Nat) (lv : Value) (W : World) : Prop :=
  ∃ col r ts tks P V, ActsW col b sb wb base lv r ts tks room P V r.h (ts.map atK) W ∧ TieR r ts P V ∧ r.N = room ∧ r.t ≤ most ∧ ts.length ≤ most

set_option maxRecDepth 100000 in
set_option maxHeartbeats 4000000 in
theorem ringActs_walk (a0 : Int) (a1 : Option Addr) (len1 cap1 : Nat) (f1_0 : Nat → Int) (f1_1 : Nat → Int) (f1_2 : Nat → Int) (w : World) (w0 : (Lit.int .i64 a0).wf = true) (w1 : (len1 ≤ cap1 ∧ cap1 ≤ maxLen) ∧ (0 < len1 → ∃ b o, a1 = some ⟨b, o, none⟩ ∧ b < w.heap.size ∧ ∀ i, i < len1 → w.cell? ⟨b, o + i * 3, none⟩ = some (.int .i64 (f1_0 i)) ∧ (Lit.int .i64 (f1_0 i)).wf = true ∧ w.cell? ⟨b, o + i * 3 + 1, none⟩ = some (.int .i64 (f1_1 i)) ∧ (Lit.int .i64 (f1_1 i)).wf = true ∧ w.cell? ⟨b, o + i * 3 + 2, none⟩ = some (.int .i64 (f1_2 i)) ∧ (Lit.int .i64 (f1_2 i)).wf = true)) :
    Calls Try.prog 3 #[.int .i64 a0, .slice a1 len1 cap1] w fun e w' => e = .returned (.bool true) ∧ Below w.heap.size w w' := by
  have hbd := bd_i64 w0
  obtain ⟨⟨hle, hm⟩, hrow⟩ := w1
  unfold maxLen at hm
  have HR := Lib.hid hrow
  clear hrow w0
  by_cases h200 : 200 < len1
  · go_enter Try.func3, Try.ntmps3
    go_wp2_with fail
    refine (alive_any _).mono ?_
    rintro e w1 ⟨rfl, k1⟩
    go_wp2_with fail
    go_ret
    exact ⟨rfl, k1⟩
  by_cases hn : a0 < 1 ∨ 64 < a0
  · have HN := Lib.hid (new_no_i a0 hn)
    rcases hn with hn | hn
    · go_enter Try.func3, Try.ntmps3
      go_wp2_with fail
      refine (alive_any _).mono ?_
      rintro e w1 ⟨rfl, k1⟩
      go_wp2_with fail
      refine (HN.out _).mono ?_
      rintro e w2 ⟨rfl, k2⟩
      go_wp2_with fail
      go_ret
      exact ⟨rfl, below_still k1 k2 (Nat.le_refl _)⟩
    · have hn' : ¬ a0 < 1 := by omega
      go_enter Try.func3, Try.ntmps3
      go_wp2_with fail
      refine (alive_any _).mono ?_
      rintro e w1 ⟨rfl, k1⟩
      go_wp2_with fail
      refine (HN.out _).mono ?_
      rintro e w2 ⟨rfl, k2⟩
      go_wp2_with fail
      go_ret
      exact ⟨rfl, below_still k1 k2 (Nat.le_refl _)⟩
  obtain ⟨room, rfl⟩ : ∃ room : Nat, a0 = room := ⟨a0.toNat, by omega⟩
  have hn1 : ¬ (room : Int) < 1 := by omega
  have hn2 : ¬ 64 < (room : Int) := by omega
  have hr1 : 1 ≤ room := by omega
  have hr64 : room ≤ 64 := by omega
  clear hn hbd
  go_enter Try.func3, Try.ntmps3
  go_wp2_with fail
  refine (alive_any _).mono ?_
  rintro e w1 ⟨rfl, k1⟩
  go_wp2_with fail
  refine (new_i room hr1 hr64 w1).mono ?_
  rintro e w2 ⟨b, sb, rfl, hI, k2, hb, hsb⟩
  have hlt := hI.lt
  have hz1 := k1.size
  have hbs := hI.ne
  obtain ⟨wb, hwb⟩ : ∃ wb, w2.heap.size = wb := ⟨_, rfl⟩
  have bW := Blk.newAt w2 #[.int .i64 room, .slice none 0 0, .slice none 0 0, .int .i64 0, .slice none 0 0] 33 hwb
  have hst := (still_refl w2).alloc (.cells #[.int .i64 room, .slice none 0 0, .slice none 0 0, .int .i64 0, .slice none 0 0] 33)
  have hk2 : Below w.heap.size w (w2.alloc (.cells #[.int .i64 room, .slice none 0 0, .slice none 0 0, .int .i64 0, .slice none 0 0] 33)) := below_still (k1.trans (k2.mono k1.size)) hst (Nat.le_refl _)
  have HI : Hid (ActsAt room b sb wb w.heap.size 0 (.slice none 0 0) (w2.alloc (.cells #[.int .i64 room, .slice none 0 0, .slice none 0 0, .int .i64 0, .slice none 0 0] 33))) := Lib.hid (by
    refine ⟨fun x => if x = b ∨ x = sb then 1 else if x = wb then 2 else 0, _, [], [], [], [], ⟨hI.still hst, by simp, by simp, ⟨by simp; omega, _, _, _, bW, Owns.nil _ _ _ _ _, Owns.nil _ _ _ _ _, Owns.nil _ _ _ _ _⟩, Owns.nil _ _ _ _ _, rfl, fun i t k h => by simp at h, fun x hx => ?_⟩, TieR.start room, rfl, Nat.le_refl _, Nat.le_refl _⟩
    simp only [ne_eq, ite_eq_right_iff, Classical.not_imp] at hx
    split at hx
    · rename_i h; omega
    · split at hx
      · omega
      · exact absurd rfl hx)
  clear hI bW hst k2
  go_wp2_with fail
  go_loopw [8, 9] (fun lv i wr => ∃ k : Nat, k ≤ len1 ∧ i = .int .i64 k ∧ ActsAt room b sb wb w.heap.size k lv wr ∧ Below w.heap.size w wr) (fun _ i _ => len1 - (intOf i).toNat)
  case atStart => exact ⟨0, by omega, rfl, HI.out, hk2⟩
  case round =>
    obtain ⟨k, hk, rfl, hA, hbel⟩ := hrel
    by_cases hlk : k < len1
    · obtain ⟨ab, ao, ha, hab, hac⟩ := HR.out (by omega)
      obtain ⟨q0, x0, q1, x1, q2, x2⟩ := hac k hlk
      have hix := run_indexAt_at (P := Try.prog) (t := 22) (cap := cap1) (s := 3) ha Try.underlying22 (fun _ => by kernel_rfl) hlk
      clear hac ha
      have e0 := (hbel.cell (p := ⟨ab, ao + k * 3, none⟩) hab).trans q0
      have e1 := (hbel.cell (p := ⟨ab, ao + k * 3 + 1, none⟩) hab).trans q1
      have e2 := (hbel.cell (p := ⟨ab, ao + k * 3 + 2, none⟩) hab).trans q2
      replace x1 := bd_i64 x1
      clear q0 q1 q2
      generalize f1_0 k = kind at *
      generalize f1_1 k = ki at *
      generalize f1_2 k = vi at *
      have HX2 := Lib.hid x2
      clear x2 x0
      obtain ⟨A, hAA⟩ : ∃ A, wr.heap.size = A := ⟨_, rfl⟩
      have bA := Blk.newAt wr #[.int .i64 kind, .int .i64 ki, .int .i64 vi] 36 hAA
      have hkA : Below w.heap.size w (wr.alloc (.cells #[.int .i64 kind, .int .i64 ki, .int .i64 vi] 36)) := below_still hbel ((still_refl wr).alloc _) (Nat.le_refl _)
      obtain ⟨col, r, ts, tks, P, V, hW, hT, hN, hrt, htl⟩ := hA
      have hW2 := (hW.recol (recol_ext col wr.heap.size 0)).kept ((still_refl wr).alloc (.cells #[.int .i64 kind, .int .i64 ki, .int .i64 vi] 36)) (fun _ _ _ f => f)
      have hcA : ext col wr.heap.size 0 A = 0 := ext_new col (Nat.le_of_eq hAA)
      generalize ext col wr.heap.size 0 = col' at *
      obtain ⟨la, lc, rfl, hlc, hlm⟩ := hW.l.form
      rw [hW.tl] at *
      have HW := Lib.hid hW2
      have HT := Lib.hid hT
      clear hW hW2 hT HI
      by_cases hk0 : kind = 0
      · subst hk0
        go_wp2_with fail
        refine (begin_i b _).mono ?_
        rintro e w3 ⟨rfl, k3, t3⟩
        rw [show (wr.alloc (.cells #[.int .i64 0, .int .i64 ki, .int .i64 vi] 36)).heap.size = A + 1 by simp [hAA]] at t3
        have hz3 := t3.lt
        have hWA := HW.out
        have hq := fun o => ((hWA.l.still k3).still ((still_refl w3).alloc o)).1
        rw [hWA.tl] at hq
        obtain ⟨i0, hi, hz0, hz1, hz2⟩ := info_parts infoPtr4
        go_wp2_with (first | (at_builtin; refine wpList_append _ rfl _ _ 34 rfl 0 37 i0 (.pointer none) 1 8 Try.underlying34 hi hz0 hz1 hz2 rfl (by decide) _ _ _ rfl (hq _) ⟨w3.heap.size, 0, none⟩ 1 1 [.pointer (some ⟨A + 1, 0, none⟩)] rfl rfl (by intro j u hj; match j, hj with | 0, hj => simp at hj; subst hj; first | (simp [Addr.add]; done) | exact (Blk.newAt _ _ _ (by simp)).cell 0) (by intro u hu; simp at hu; subst hu; rfl) (by unfold maxLen; omega) (by omega) (by first | omega | (simp; omega) | simp) ?_) | fail)
        intro lv1 w4 ha
        obtain ⟨col4, rc4, hW4, k4⟩ := hWA.more k3 ⟨0, 0, 0, false⟩ (by simp [hAA]) t3 ha
        have bA4 := bA.kept k4 (by omega)
        have hcA4 : col4 A = 0 := (rc4 A (by omega)).trans hcA
        have hb4 := below_step hkA k4 (Nat.le_refl _) (fun x hx e => by have := hWA.low x (by omega); omega)
        obtain ⟨pv, vv, tv, bw4, ht4, hfin⟩ := hW4.ref.tick
        obtain ⟨la4, lc4, rfl, hlc4, hlm4⟩ := hW4.l.form
        have htl4 := hW4.tl
        rw [htl4, List.length_append, List.length_singleton] at hlc4 hW4 ⊢
        clear htl4
        have d4 := bw4.cell 4
        have g4 := bw4.free 4
        have hq2 := fun o => (ht4.still ((still_refl w4).alloc o)).1
        rw [List.length_map] at hq2
        obtain ⟨j0, hj, hy0, hy1, hy2⟩ := info_parts infoTick4
        have HW4 := Lib.hid hW4
        have HF := Lib.hid hfin
        have HB4 := Lib.hid hb4
        have HBA4 := Lib.hid bA4
        clear ha hq hi hz0 hz1 hz2 k3 t3 hW4 hfin hb4 ht4 bA4 bA hkA hWA HW
        go_wp2_with (first | (at_builtin; refine wpList_append _ rfl _ _ 31 rfl 0 40 j0 (.agg #[.int .i64 0, .int .i64 0]) 2 16 Try.underlying31 hj hy0 hy1 hy2 rfl (by decide) _ _ _ rfl (hq2 _) ⟨w4.heap.size, 0, none⟩ 1 1 [.int .i64 0, .int .i64 0] rfl rfl (by intro j u hju; match j, hju with | 0, hju => simp at hju; subst hju; exact (Blk.newAt _ _ _ rfl).cell 0 | 1, hju => simp at hju; subst hju; exact (Blk.newAt _ _ _ rfl).cell 1) (by intro u hu; simp at hu; subst hu; rfl) (by unfold maxLen; omega) (by omega) (by simp) ?_) | fail)
        intro tv1 w5 ha5
        obtain ⟨hr5, k5, k5', bw5⟩ := HF.out _ _ _ (by rw [List.length_map]; exact ha5)
        obtain ⟨ta, tc, rfl⟩ := owns_slice ha5.owns
        have hW5 := HW4.out.refTo (recol_ext col4 w4.heap.size 5) hr5 k5
        rw [atK_snoc] at hW5
        have nA : A ≠ wb := by intro e; have := HW4.out.ref.1; rw [e] at hcA4; omega
        have bA5' := HBA4.out.kept k5' (by omega)
        have bA5 := (HBA4.out.kept k5' (by omega)).other (a := ⟨wb, 4, none⟩) (by show A ≠ wb; intro e; have := HW4.out.ref.1; rw [e] at hcA4; omega) (.slice ta (ts.length + 1) tc)
        have hcA5 : ext col4 w4.heap.size 5 A = 0 := (recol_ext col4 _ 5 A HBA4.out.lt).trans hcA4
        have hb5 := below_step HB4.out k5 (Nat.le_refl _) (fun x hx ⟨e1, e2⟩ => by have := HW4.out.low x (by omega); omega)
        have c54 := bw5.cell 4
        have f54 := bw5.free 4
        have HT5 := Lib.hid HT.out.begin
        obtain ⟨w6, hw6⟩ : ∃ w6, w6 = w5.setCell ⟨wb, 4, none⟩ (.slice ta (ts.length + 1) tc) := ⟨_, rfl⟩
        rw [← hw6] at hW5 bA5 hb5
        generalize ext col4 w4.heap.size 5 = col6 at *
        have HW5 := Lib.hid hW5
        have a0 := bA5'.cell 0
        have a1' := bA5'.cell 1
        have a2' := bA5'.cell 2
        have HBA5 := Lib.hid bA5
        have HB5 := Lib.hid hb5
        have HW6 := Lib.hid hw6
        clear hw6 ha5 hr5 k5 k5' bw5 bA5' hW5 bA5 hb5 HF HB4 HBA4 HW4 hj hy0 hy1 hy2 hq2 d4 g4 k4 bw4
        go_wp2_with fail
        all_goals rw [← HW6.out]
        all_goals
          have HS := HW5
          have HTS := HT5
          have htl' : (ts ++ [(⟨0, 0, 0, false⟩ : TS)]).length ≤ k + 1 := by rw [List.length_append]; simp; omega
          have hrt' : r.t ≤ k + 1 := by omega
          generalize ts ++ [(⟨0, 0, 0, false⟩ : TS)] = TSS at *
        all_goals obtain ⟨R, rfl⟩ : ∃ R : RS, R = r := ⟨_, rfl⟩
        all_goals obtain ⟨W6, rfl⟩ : ∃ W : World, W = w6 := ⟨_, rfl⟩
        all_goals
          have ok := HS.out.ring.ok
          have hbig := ok.big
          have hht := ok.ht
          have hpub := HTS.out.pub ok R.h
          have hplen := HTS.out.plen
          obtain ⟨hwc, pv, vv, tv, bw, hp, -, -⟩ := HS.out.ref
          obtain ⟨pa, pc, rfl, -, -⟩ := hp.form
          rw [hplen] at bw
          have y1 := bw.cell 1
          have y3 := bw.cell 3
          have hnb : wb ≠ b := by intro e; have := HS.out.cb; rw [← e] at this; omega
          have hnsb : wb ≠ sb := by intro e; have := HS.out.cs; rw [← e] at this; omega
          have hwl := bw.lt
          have HBW := Lib.hid bw
          have HPL := Lib.hid hplen
          have HPU := Lib.hid hpub
          clear hp bw hpub hplen
          refine wp_region_text ([4], [9, 28]) [wb] (by kernel_rfl) (by kernel_rfl) (cellsB_cons HBW.out.cells cellsB_nil) (by simp [segs, isEff, isLoad, askOps, asks, eqOrNe, isNil]; rfl) ?_
          refine segs_go stay_drew (by simp [isLoad]) ?_
          go_wp2_with fail
          refine (len_i _ (HS.out.ring.still ((still_refl _).drew))).mono ?_
          rintro e w7 ⟨rfl, hr7, k7⟩
          have hS7 := (HS.out.kept ((still_refl W6).drew) (fun _ _ _ f => f)).ringOnly hr7 k7 (fun x h => .inl h)
          have bw7 := (HBW.out.drew).only k7 hnb
          have y1' := bw7.cell 1
          have y3' := bw7.cell 3
          have hst7 : StayB [wb] W6 w7 := stay_drew.kept k7 (fun x hx => by simp only [List.mem_singleton] at hx; subst hx; exact ⟨hwl, hnb⟩)
          have hb7 := below_step HB5.out ((((Kept.refl (fun x => x = b) W6).drew).trans k7)) (Nat.le_refl _) (fun x hx e => by have := HS.out.low x (by rw [e, HS.out.cb]; omega); omega)
          have hbA7 := HBA5.out.kept (((Kept.refl (fun x => x = b) W6).drew).trans k7) (fun e => by have := HS.out.cb; rw [← e] at this; omega)
          have HS7 := Lib.hid hS7
          have HBW7 := Lib.hid bw7
          have HB7 := Lib.hid hb7
          have HBA7 := Lib.hid hbA7
          clear hr7 k7 hS7 bw7 hb7 hbA7
          go_wp2_with fail
          refine segs_go hst7 (by simp [isLoad]) ?_
          go_wp2_with fail
          refine segs_load hst7 (fun _ => (by exact ⟨wb, _, rfl, by simp⟩)) ?_
          go_wp2_with fail
          refine segs_load hst7 (fun _ => (by exact ⟨wb, _, rfl, by simp⟩)) ?_
          go_wp2_with fail
          refine (ready_i w7 HS7.out.ring).mono ?_
          rintro e w8 ⟨rfl, hr8, k8⟩
          have hS8 := HS7.out.ringOnly hr8 k8 (fun x h => .inr h)
          have hst8 : StayB [wb] W6 w8 := hst7.kept k8 (fun x hx => by simp only [List.mem_singleton] at hx; subst hx; exact ⟨HBW7.out.lt, hnsb⟩)
          have hb8 := below_step HB7.out k8 (Nat.le_refl _) (fun x hx e => by have := HS7.out.low x (by rw [e, HS7.out.cs]; omega); omega)
          have HS8 := Lib.hid hS8
          have HB8 := Lib.hid hb8
          have hrr := refready_any w8 hS8.ref (by omega) (by rw [HPL.out]; omega)
          rw [HPU.out] at hrr
          have HRR := Lib.hid hrr
          have hyy : R.ready = R.pub R.h := rfl
          rw [hyy]
          have hz78 := k8.size
          clear hr8 k8 hS8 hb8 hrr hyy
          obtain ⟨y, hy⟩ : ∃ y, y = R.pub R.h := ⟨_, rfl⟩
          rw [← hy] at HRR ⊢
          clear hy
          go_wp2_with fail
          refine segs_go hst8 (by simp [isLoad]) ?_
          go_wp2_with fail
          refine HRR.out.mono ?_
          rintro e w9 ⟨rfl, k9⟩
          have hS9 := HS8.out.kept k9 (fun _ _ _ f => f)
          have hst9 : StayB [wb] W6 w9 := hst8.kept k9 (fun x hx => by simp only [List.mem_singleton] at hx; subst hx; exact ⟨Nat.lt_of_lt_of_le HBW7.out.lt hz78, fun f => f⟩)
          have hb9 := below_still HB8.out k9 (Nat.le_refl _)
          have HS9 := Lib.hid hS9
          have HB9 := Lib.hid hb9
          clear k9 hS9 hb9
          go_wp2_with fail
          refine segs_go hst9 (by simp [isLoad]) ?_
          go_wp2_with fail
          refine segs_nil ?_
          go_wp2_with fail
          go_roundw
          case rel => exact ⟨k + 1, by omega, by go_num, ⟨_, R, TSS, _, _, _, HS9.out, HTS.out, hN, hrt', htl'⟩, HB9.out⟩
          case measure => simp [intOf]; omega

      · by_cases hl0 : ts.length = 0
        · have htl0 : tks.length = 0 := by rw [HW.out.tl]; exact hl0
          go_wp2_with fail
          go_roundw
          case rel => exact ⟨k + 1, by omega, by go_num, ⟨_, r, ts, _, P, V, HW.out, HT.out, hN, by omega, by omega⟩, hkA⟩
          case measure => simp [intOf]; omega
        · obtain ⟨j, hj⟩ : ∃ j : Nat, (max 0 ki) % (ts.length : Int) = j := ⟨((max 0 ki) % (ts.length : Int)).toNat, by have := Int.emod_nonneg (max 0 ki) (b := (ts.length : Int)) (by omega); omega⟩
          have hjl : j < ts.length := by have := Int.emod_lt_of_pos (max 0 ki) (b := (ts.length : Int)) (by omega); omega
          obtain ⟨g, cap, t, kk, hv, hc, hg, hgl, htks, hts, hbt, htb, htsb, cg, hcg⟩ := HW.out.ptr hjl
          simp only [Value.slice.injEq] at hv
          obtain ⟨rfl, -, rfl⟩ := hv
          have ok := HW.out.ring.ok
          have hti := HT.out.ticks j kk hts
          have a0 := bA.cell 0
          have a1' := bA.cell 1
          have a2' := bA.cell 2
          have hplen := HT.out.plen
          have hvlen := HT.out.v
          have hKj : (ts.map atK)[j]? = some (atK kk) := by rw [List.getElem?_map, hts]; rfl
          have HBT := Lib.hid hbt
          have HPL := Lib.hid hplen
          have HVL := Lib.hid hvlen
          have HKJ := Lib.hid hKj
          have HTS1 := Lib.hid hts
          have HTK := Lib.hid htks
          have HTI := Lib.hid hti
          have HBA := Lib.hid bA
          have HKA := Lib.hid hkA
          have hcg2 : ∃ c, Blk (wr.alloc (.cells #[.int .i64 kind, .int .i64 ki, .int .i64 vi] 36)) g c 37 := ⟨cg, hcg⟩
          have HCG := Lib.hid hcg2
          have hbig := ok.big
          have hht := ok.ht
          clear hbt hplen hvlen hKj hts htks bA hkA hcg hcg2 hti
          by_cases hk1 : kind = 1
          · subst hk1
            obtain ⟨hT', hrT, hN', hh', hs2, hn2⟩ := HT.out.step ok HTS1.out
            rw [hN] at hrT
            have hans := ans_at _ hs2 hn2
            rw [← hrT] at hans
            have hc1 := stepped_i _ HW.out.ring HBT.out htb htsb HTI.out.ok (by omega)
            generalize hsk : stepK r kk = sk at *
            obtain ⟨R, k'⟩ := sk
            have HC1 := Lib.hid hc1
            have HANS := Lib.hid hans
            clear hc1 hans
            go_wp2_with fail
            refine HC1.out.mono ?_
            rintro e w4 ⟨rfl, hr4, ht4, k4⟩
            have hS4 := HW.out.ringTo j t k' HTK.out hr4 ht4 k4 (fun x h => h)
            have hbA4 := HBA.out.kept k4 (by
              have h1 := HW.out.cb
              have h2 := HW.out.cs
              have h3 := (HW.out.ticks j t kk HTK.out HTS1.out).2
              intro hx
              rcases hx with h | h | h <;> (rw [h] at hcA; omega))
            have hb4 := below_step HKA.out k4 (Nat.le_refl _) (fun x hx e => by
              have h1 := HW.out.low x
              have h2 := HW.out.cb
              have h3 := HW.out.cs
              have h4 := (HW.out.ticks j t kk HTK.out HTS1.out).2
              rcases e with e | e | e <;> (rw [e] at h1 hx; omega))
            have hc2 := refstep_any w4 hS4.ref j (atK kk) HKJ.out (by have h1 := HTI.out.ok.next; unfold atK; simp only; split; omega; split; omega; split <;> omega) (by rw [HPL.out]; omega) (by rw [HVL.out]; omega) (by have h1 := HTI.out.ok.pos; show kk.pos < _; omega) (by omega) (by omega)
            rw [HANS.out] at hc2
            have HC2 := Lib.hid hc2
            have HS4 := Lib.hid hS4
            have HB4 := Lib.hid hb4
            have HBA4 := Lib.hid hbA4
            have HK4 := Lib.hid k4
            clear hr4 ht4 k4 hS4 hb4 hbA4 hc2
            go_wp2_with fail
            refine HC2.out.mono ?_
            rintro e w5 ⟨rfl, ⟨col5, rc5, hr5⟩, k5⟩
            have hS5 := HS4.out.refTo rc5 hr5 k5
            rw [hrT, ← List.map_set, ← hh'] at hS5
            have hbA5 := HBA4.out.kept k5 (fun ⟨h1, h2⟩ => by omega)
            have hb5 := below_step HB4.out k5 (Nat.le_refl _) (fun x hx ⟨h1, h2⟩ => by have := HS4.out.low x (by omega); omega)
            have hcA5 : col5 A = 0 := (rc5 A HBA4.out.lt).trans hcA
            generalize (if (atK kk).1 = 2 ∧ (atK kk).2 = P.length then P ++ [false] else P) = P' at *
            generalize (if (atK kk).1 = 2 ∧ (atK kk).2 = P.length then V ++ [0] else V) = V' at *
            have hrt' : R.t ≤ k + 1 := by
              have : R = (stepK r kk).1 := by rw [hsk]
              rw [this]; unfold stepK; split
              · split
                · show r.t ≤ _; omega
                · split
                  · show r.t ≤ _; omega
                  · split
                    · show r.t + 1 ≤ _; omega
                    · show r.t ≤ _; omega
              · show r.t ≤ _; omega
            have htl' : (ts.set j k').length ≤ k + 1 := by rw [List.length_set]; omega
            have hN2 : R.N = room := hN'.trans hN
            have HB5 := Lib.hid hb5
            have HBA5 := Lib.hid hbA5
            have HS := Lib.hid hS5
            have HTS := Lib.hid hT'
            clear hT' hS5 hbA5 hb5 k5 hr5 HANS hrT
            have e0' := HBA5.out.cell 0
            obtain ⟨TSS, hTSS⟩ : ∃ x, x = ts.set j k' := ⟨_, rfl⟩
            rw [← hTSS] at HS HTS htl'
            obtain ⟨P1, hP1⟩ : ∃ x, x = P' := ⟨_, rfl⟩
            rw [← hP1] at HS HTS
            clear hTSS hP1 hsk hh' hN' hN ok hbig hht hs2 hn2 htb htsb
            have hN := hN2
            obtain ⟨W6, rfl⟩ : ∃ W : World, W = w5 := ⟨_, rfl⟩
            go_wp2_with fail
            all_goals
              have ok := HS.out.ring.ok
              have hbig := ok.big
              have hht := ok.ht
              have hpub := HTS.out.pub ok R.h
              have hplen := HTS.out.plen
              obtain ⟨hwc, pv, vv, tv, bw, hp, -, -⟩ := HS.out.ref
              obtain ⟨pa, pc, rfl, -, -⟩ := hp.form
              rw [hplen] at bw
              have y1 := bw.cell 1
              have y3 := bw.cell 3
              have hnb : wb ≠ b := by intro e; have := HS.out.cb; rw [← e] at this; omega
              have hnsb : wb ≠ sb := by intro e; have := HS.out.cs; rw [← e] at this; omega
              have hwl := bw.lt
              have HBW := Lib.hid bw
              have HPL := Lib.hid hplen
              have HPU := Lib.hid hpub
              clear hp bw hpub hplen
              refine wp_region_text ([4], [9, 28]) [wb] (by kernel_rfl) (by kernel_rfl) (cellsB_cons HBW.out.cells cellsB_nil) (by simp [segs, isEff, isLoad, askOps, asks, eqOrNe, isNil]; rfl) ?_
              refine segs_go stay_drew (by simp [isLoad]) ?_
              go_wp2_with fail
              refine (len_i _ (HS.out.ring.still ((still_refl _).drew))).mono ?_
              rintro e w7 ⟨rfl, hr7, k7⟩
              have hS7 := (HS.out.kept ((still_refl W6).drew) (fun _ _ _ f => f)).ringOnly hr7 k7 (fun x h => .inl h)
              have bw7 := (HBW.out.drew).only k7 hnb
              have y1' := bw7.cell 1
              have y3' := bw7.cell 3
              have hst7 : StayB [wb] W6 w7 := stay_drew.kept k7 (fun x hx => by simp only [List.mem_singleton] at hx; subst hx; exact ⟨hwl, hnb⟩)
              have hb7 := below_step HB5.out ((((Kept.refl (fun x => x = b) W6).drew).trans k7)) (Nat.le_refl _) (fun x hx e => by have := HS.out.low x (by rw [e, HS.out.cb]; omega); omega)
              have hbA7 := HBA5.out.kept (((Kept.refl (fun x => x = b) W6).drew).trans k7) (fun e => by have := HS.out.cb; rw [← e] at this; omega)
              have HS7 := Lib.hid hS7
              have HBW7 := Lib.hid bw7
              have HB7 := Lib.hid hb7
              have HBA7 := Lib.hid hbA7
              clear hr7 k7 hS7 bw7 hb7 hbA7
              go_wp2_with fail
              refine segs_go hst7 (by simp [isLoad]) ?_
              go_wp2_with fail
              refine segs_load hst7 (fun _ => (by exact ⟨wb, _, rfl, by simp⟩)) ?_
              go_wp2_with fail
              refine segs_load hst7 (fun _ => (by exact ⟨wb, _, rfl, by simp⟩)) ?_
              go_wp2_with fail
              refine (ready_i w7 HS7.out.ring).mono ?_
              rintro e w8 ⟨rfl, hr8, k8⟩
              have hS8 := HS7.out.ringOnly hr8 k8 (fun x h => .inr h)
              have hst8 : StayB [wb] W6 w8 := hst7.kept k8 (fun x hx => by simp only [List.mem_singleton] at hx; subst hx; exact ⟨HBW7.out.lt, hnsb⟩)
              have hb8 := below_step HB7.out k8 (Nat.le_refl _) (fun x hx e => by have := HS7.out.low x (by rw [e, HS7.out.cs]; omega); omega)
              have HS8 := Lib.hid hS8
              have HB8 := Lib.hid hb8
              have hrr := refready_any w8 hS8.ref (by omega) (by rw [HPL.out]; omega)
              rw [HPU.out] at hrr
              have HRR := Lib.hid hrr
              have hyy : R.ready = R.pub R.h := rfl
              rw [hyy]
              have hz78 := k8.size
              clear hr8 k8 hS8 hb8 hrr hyy
              obtain ⟨y, hy⟩ : ∃ y, y = R.pub R.h := ⟨_, rfl⟩
              rw [← hy] at HRR ⊢
              clear hy
              go_wp2_with fail
              refine segs_go hst8 (by simp [isLoad]) ?_
              go_wp2_with fail
              refine HRR.out.mono ?_
              rintro e w9 ⟨rfl, k9⟩
              have hS9 := HS8.out.kept k9 (fun _ _ _ f => f)
              have hst9 : StayB [wb] W6 w9 := hst8.kept k9 (fun x hx => by simp only [List.mem_singleton] at hx; subst hx; exact ⟨Nat.lt_of_lt_of_le HBW7.out.lt hz78, fun f => f⟩)
              have hb9 := below_still HB8.out k9 (Nat.le_refl _)
              have HS9 := Lib.hid hS9
              have HB9 := Lib.hid hb9
              clear k9 hS9 hb9
              go_wp2_with fail
              refine segs_go hst9 (by simp [isLoad]) ?_
              go_wp2_with fail
              refine segs_nil ?_
              go_wp2_with fail
              go_roundw
              case rel => exact ⟨k + 1, by omega, by go_num, ⟨_, R, TSS, _, _, _, HS9.out, HTS.out, hN, hrt', htl'⟩, HB9.out⟩
              case measure => simp [intOf]; omega

          by_cases hk2 : kind = 2
          · subst hk2
            obtain ⟨cgc, hcgc⟩ := HCG.out
            by_cases hf : kk.status = 2 ∧ kk.filled = false
            · obtain ⟨hs2, hf2⟩ := hf
              have hheld := HTI.out.held hs2
              have hmine := (HTI.out.mine hs2 hf2).1
              have HS2 := Lib.hid hs2
              have HF2 := Lib.hid hf2
              clear hs2 hf2
              go_wp2_with fail
              refine wp_region_text ([4], [9, 28]) [g, A] (by kernel_rfl) (by kernel_rfl) (cellsB_cons hcgc.cells (cellsB_cons HBA.out.cells cellsB_nil)) (by simp [segs, isEff, isLoad, askOps, asks, eqOrNe, isNil]; rfl) ?_
              refine segs_go stay_drew (by simp [isLoad]) ?_
              go_wp2_with fail
              refine segs_load stay_drew (fun _ => (by exact ⟨g, _, rfl, by simp⟩)) ?_
              go_wp2_with fail
              refine segs_load stay_drew (fun _ => (by exact ⟨A, _, rfl, by simp⟩)) ?_
              go_wp2_with fail
              have hWd := HW.out.kept ((still_refl _).drew) (fun _ _ _ f => f)
              refine (fill_i vi _ hWd.ring (HBT.out.drew) htb htsb HS2.out HF2.out hmine hheld).mono ?_
              rintro e w4 ⟨rfl, hr4, ht4, k4⟩
              have hcol4 : ∀ x, (x = sb ∨ x = t) → col' x ≠ 0 ∧ col' x ≠ 6 ∧ ¬ RefS col' x := by
                have h1 := HW.out.cb
                have h2 := HW.out.cs
                have h3 := (HW.out.ticks j t kk HTK.out HTS1.out).2
                intro x hx
                unfold RefS
                rcases hx with rfl | rfl <;> omega
              have hS4 := hWd.ringTo j t _ HTK.out hr4 ht4 k4 (fun x h => .inr h)
              have hbA4 := HBA.out.drew.kept k4 (fun hx => (hcol4 A hx).1 hcA)
              have hst4 : StayB [g, A] (wr.alloc (.cells #[.int .i64 2, .int .i64 ki, .int .i64 vi] 36)) w4 := stay_drew.kept k4 (fun x hx => by
                simp only [List.mem_cons, List.not_mem_nil, or_false] at hx
                rcases hx with rfl | rfl
                · exact ⟨hgl, fun h => (hcol4 _ h).2.1 hg⟩
                · exact ⟨HBA.out.lt, fun h => (hcol4 _ h).1 hcA⟩)
              have hb4 := below_step HKA.out.drew k4 (Nat.le_refl _) (fun x hx e => by have := HW.out.low x (hcol4 x e).1; omega)
              have hc2 := reffill_any w4 hS4.ref j kk.pos vi (by rw [HKJ.out]; unfold atK; rw [HS2.out, HF2.out]; rfl) (by rw [HPL.out]; exact hheld) (by rw [HVL.out, HPL.out]) (by rw [HPL.out]; omega)
              have hTX := HT.out.fill HTS1.out HS2.out HF2.out vi
              have hKX : (ts.map atK).set j (5, kk.pos) = (ts.set j { kk with filled := true }).map atK := by rw [List.map_set]; congr 1; unfold atK; rw [HS2.out]; rfl
              have HC2 := Lib.hid hc2
              have HS4 := Lib.hid hS4
              have HB4 := Lib.hid hb4
              have HBA4 := Lib.hid hbA4
              have HTX := Lib.hid hTX
              have HKX := Lib.hid hKX
              have e2' := hbA4.cell 2
              clear hr4 ht4 k4 hS4 hb4 hbA4 hc2 hTX hKX hWd hcol4
              go_wp2_with fail
              refine segs_go hst4 (by simp [isLoad]) ?_
              go_wp2_with fail
              refine segs_nil ?_
              go_wp2_with fail
              refine HC2.out.mono ?_
              rintro e w5 ⟨rfl, hr5, k5⟩
              have hS5 := HS4.out.refTo (recol_refl _ _) hr5 k5
              rw [HKX.out] at hS5
              have hbA5 := HBA4.out.kept k5 (fun ⟨h1, h2⟩ => by omega)
              have hb5 := below_step HB4.out k5 (Nat.le_refl _) (fun x hx ⟨h1, h2⟩ => by have := HS4.out.low x (by omega); omega)
              have hrt' : (r.publish kk.pos (.int .i64 vi)).t ≤ k + 1 := by show r.t ≤ _; omega
              have htl' : (ts.set j { kk with filled := true }).length ≤ k + 1 := by rw [List.length_set]; omega
              have hN2 : (r.publish kk.pos (.int .i64 vi)).N = room := hN
              have hTX := HTX.out
              clear hN
              have hN := hN2
              have hS6 : ActsW col' b sb wb w.heap.size (.slice (some ⟨g, 0, none⟩) ts.length lc) (r.publish kk.pos (.int .i64 vi)) (ts.set j { kk with filled := true }) tks room (P.set kk.pos true) (V.set kk.pos vi) (r.publish kk.pos (.int .i64 vi)).h ((ts.set j { kk with filled := true }).map atK) w5 := hS5
              obtain ⟨TSS, hTSS⟩ : ∃ x, x = ts.set j { kk with filled := true } := ⟨_, rfl⟩
              rw [← hTSS] at hS6 hTX htl'
              obtain ⟨R, hR⟩ : ∃ x, x = r.publish kk.pos (.int .i64 vi) := ⟨_, rfl⟩
              rw [← hR] at hS6 hTX hrt' hN
              have HS := Lib.hid hS6
              have HTS := Lib.hid hTX
              have HB5 := Lib.hid hb5
              have HBA5 := Lib.hid hbA5
              clear hS5 hS6 hTX hb5 hbA5 hr5 k5 hTSS hR hN2 ok hbig hht htb htsb
              have e0' := HBA5.out.cell 0
              obtain ⟨W6, rfl⟩ : ∃ W : World, W = w5 := ⟨_, rfl⟩
              go_wp2_with fail
              all_goals
                have ok := HS.out.ring.ok
                have hbig := ok.big
                have hht := ok.ht
                have hpub := HTS.out.pub ok R.h
                have hplen := HTS.out.plen
                obtain ⟨hwc, pv, vv, tv, bw, hp, -, -⟩ := HS.out.ref
                obtain ⟨pa, pc, rfl, -, -⟩ := hp.form
                rw [hplen] at bw
                have y1 := bw.cell 1
                have y3 := bw.cell 3
                have hnb : wb ≠ b := by intro e; have := HS.out.cb; rw [← e] at this; omega
                have hnsb : wb ≠ sb := by intro e; have := HS.out.cs; rw [← e] at this; omega
                have hwl := bw.lt
                have HBW := Lib.hid bw
                have HPL := Lib.hid hplen
                have HPU := Lib.hid hpub
                clear hp bw hpub hplen
                refine wp_region_text ([4], [9, 28]) [wb] (by kernel_rfl) (by kernel_rfl) (cellsB_cons HBW.out.cells cellsB_nil) (by simp [segs, isEff, isLoad, askOps, asks, eqOrNe, isNil]; rfl) ?_
                refine segs_go stay_drew (by simp [isLoad]) ?_
                go_wp2_with fail
                refine (len_i _ (HS.out.ring.still ((still_refl _).drew))).mono ?_
                rintro e w7 ⟨rfl, hr7, k7⟩
                have hS7 := (HS.out.kept ((still_refl W6).drew) (fun _ _ _ f => f)).ringOnly hr7 k7 (fun x h => .inl h)
                have bw7 := (HBW.out.drew).only k7 hnb
                have y1' := bw7.cell 1
                have y3' := bw7.cell 3
                have hst7 : StayB [wb] W6 w7 := stay_drew.kept k7 (fun x hx => by simp only [List.mem_singleton] at hx; subst hx; exact ⟨hwl, hnb⟩)
                have hb7 := below_step HB5.out ((((Kept.refl (fun x => x = b) W6).drew).trans k7)) (Nat.le_refl _) (fun x hx e => by have := HS.out.low x (by rw [e, HS.out.cb]; omega); omega)
                have hbA7 := HBA5.out.kept (((Kept.refl (fun x => x = b) W6).drew).trans k7) (fun e => by have := HS.out.cb; rw [← e] at this; omega)
                have HS7 := Lib.hid hS7
                have HBW7 := Lib.hid bw7
                have HB7 := Lib.hid hb7
                have HBA7 := Lib.hid hbA7
                clear hr7 k7 hS7 bw7 hb7 hbA7
                go_wp2_with fail
                refine segs_go hst7 (by simp [isLoad]) ?_
                go_wp2_with fail
                refine segs_load hst7 (fun _ => (by exact ⟨wb, _, rfl, by simp⟩)) ?_
                go_wp2_with fail
                refine segs_load hst7 (fun _ => (by exact ⟨wb, _, rfl, by simp⟩)) ?_
                go_wp2_with fail
                refine (ready_i w7 HS7.out.ring).mono ?_
                rintro e w8 ⟨rfl, hr8, k8⟩
                have hS8 := HS7.out.ringOnly hr8 k8 (fun x h => .inr h)
                have hst8 : StayB [wb] W6 w8 := hst7.kept k8 (fun x hx => by simp only [List.mem_singleton] at hx; subst hx; exact ⟨HBW7.out.lt, hnsb⟩)
                have hb8 := below_step HB7.out k8 (Nat.le_refl _) (fun x hx e => by have := HS7.out.low x (by rw [e, HS7.out.cs]; omega); omega)
                have HS8 := Lib.hid hS8
                have HB8 := Lib.hid hb8
                have hrr := refready_any w8 hS8.ref (by omega) (by rw [HPL.out]; omega)
                rw [HPU.out] at hrr
                have HRR := Lib.hid hrr
                have hyy : R.ready = R.pub R.h := rfl
                rw [hyy]
                have hz78 := k8.size
                clear hr8 k8 hS8 hb8 hrr hyy
                obtain ⟨y, hy⟩ : ∃ y, y = R.pub R.h := ⟨_, rfl⟩
                rw [← hy] at HRR ⊢
                clear hy
                go_wp2_with fail
                refine segs_go hst8 (by simp [isLoad]) ?_
                go_wp2_with fail
                refine HRR.out.mono ?_
                rintro e w9 ⟨rfl, k9⟩
                have hS9 := HS8.out.kept k9 (fun _ _ _ f => f)
                have hst9 : StayB [wb] W6 w9 := hst8.kept k9 (fun x hx => by simp only [List.mem_singleton] at hx; subst hx; exact ⟨Nat.lt_of_lt_of_le HBW7.out.lt hz78, fun f => f⟩)
                have hb9 := below_still HB8.out k9 (Nat.le_refl _)
                have HS9 := Lib.hid hS9
                have HB9 := Lib.hid hb9
                clear k9 hS9 hb9
                go_wp2_with fail
                refine segs_go hst9 (by simp [isLoad]) ?_
                go_wp2_with fail
                refine segs_nil ?_
                go_wp2_with fail
                go_roundw
                case rel => exact ⟨k + 1, by omega, by go_num, ⟨_, R, TSS, _, _, _, HS9.out, HTS.out, hN, hrt', htl'⟩, HB9.out⟩
                case measure => simp [intOf]; omega

            · have hno : kk.status ≠ 2 ∨ kk.filled = true := by
                by_cases h2 : kk.status = 2
                · right
                  cases hff : kk.filled
                  · exact absurd ⟨h2, hff⟩ hf
                  · rfl
                · exact .inl h2
              have HNO := Lib.hid hno
              clear hno hf
              go_wp2_with fail
              refine wp_region_text ([4], [9, 28]) [g, A] (by kernel_rfl) (by kernel_rfl) (cellsB_cons hcgc.cells (cellsB_cons HBA.out.cells cellsB_nil)) (by simp [segs, isEff, isLoad, askOps, asks, eqOrNe, isNil]; rfl) ?_
              refine segs_go stay_drew (by simp [isLoad]) ?_
              go_wp2_with fail
              refine segs_load stay_drew (fun _ => (by exact ⟨g, _, rfl, by simp⟩)) ?_
              go_wp2_with fail
              refine segs_load stay_drew (fun _ => (by exact ⟨A, _, rfl, by simp⟩)) ?_
              go_wp2_with fail
              refine (fill_no_i vi _ (HBT.out.drew) HNO.out).mono ?_
              rintro e w4 ⟨rfl, rfl⟩
              have hWd := HW.out.kept ((still_refl _).drew) (fun _ _ _ f => f)
              have hc2 := reffill_no _ hWd.ref j (atK kk).1 (atK kk).2 vi HKJ.out (by
                have h1 := HTI.out.ok.next
                have h2 := HTI.out.st
                unfold atK
                simp only
                rcases HNO.out with h | h
                · split
                  · omega
                  · rw [if_pos (by omega)]; omega
                · rw [h]; split
                  · omega
                  · split <;> simp) (by
                have h1 := HTI.out.ok.next
                unfold atK
                simp only
                split
                · omega
                · split
                  · omega
                  · split <;> omega)
              have HC2 := Lib.hid hc2
              clear hc2 hWd
              go_wp2_with fail
              refine segs_go stay_drew (by simp [isLoad]) ?_
              go_wp2_with fail
              refine segs_nil ?_
              go_wp2_with fail
              refine HC2.out.mono ?_
              rintro e w5 ⟨rfl, rfl⟩
              have hS5 := HW.out.kept ((still_refl _).drew) (fun _ _ _ f => f)
              have hrt' : r.t ≤ k + 1 := by omega
              have htl' : ts.length ≤ k + 1 := by omega
              have hTX := HT.out
              have hbA5 := HBA.out.drew
              have hb5 := HKA.out.drew
              obtain ⟨TSS, rfl⟩ : ∃ x, x = ts := ⟨_, rfl⟩
              obtain ⟨R, rfl⟩ : ∃ x, x = r := ⟨_, rfl⟩
              generalize (wr.alloc (.cells #[.int .i64 2, .int .i64 ki, .int .i64 vi] 36)).drew = W6 at *
              have HS := Lib.hid hS5
              have HTS := Lib.hid hTX
              have HB5 := Lib.hid hb5
              have HBA5 := Lib.hid hbA5
              clear hS5 hTX hb5 hbA5 ok hbig hht htb htsb
              have e0' := HBA5.out.cell 0
              go_wp2_with fail
              all_goals
                have ok := HS.out.ring.ok
                have hbig := ok.big
                have hht := ok.ht
                have hpub := HTS.out.pub ok R.h
                have hplen := HTS.out.plen
                obtain ⟨hwc, pv, vv, tv, bw, hp, -, -⟩ := HS.out.ref
                obtain ⟨pa, pc, rfl, -, -⟩ := hp.form
                rw [hplen] at bw
                have y1 := bw.cell 1
                have y3 := bw.cell 3
                have hnb : wb ≠ b := by intro e; have := HS.out.cb; rw [← e] at this; omega
                have hnsb : wb ≠ sb := by intro e; have := HS.out.cs; rw [← e] at this; omega
                have hwl := bw.lt
                have HBW := Lib.hid bw
                have HPL := Lib.hid hplen
                have HPU := Lib.hid hpub
                clear hp bw hpub hplen
                refine wp_region_text ([4], [9, 28]) [wb] (by kernel_rfl) (by kernel_rfl) (cellsB_cons HBW.out.cells cellsB_nil) (by simp [segs, isEff, isLoad, askOps, asks, eqOrNe, isNil]; rfl) ?_
                refine segs_go stay_drew (by simp [isLoad]) ?_
                go_wp2_with fail
                refine (len_i _ (HS.out.ring.still ((still_refl _).drew))).mono ?_
                rintro e w7 ⟨rfl, hr7, k7⟩
                have hS7 := (HS.out.kept ((still_refl W6).drew) (fun _ _ _ f => f)).ringOnly hr7 k7 (fun x h => .inl h)
                have bw7 := (HBW.out.drew).only k7 hnb
                have y1' := bw7.cell 1
                have y3' := bw7.cell 3
                have hst7 : StayB [wb] W6 w7 := stay_drew.kept k7 (fun x hx => by simp only [List.mem_singleton] at hx; subst hx; exact ⟨hwl, hnb⟩)
                have hb7 := below_step HB5.out ((((Kept.refl (fun x => x = b) W6).drew).trans k7)) (Nat.le_refl _) (fun x hx e => by have := HS.out.low x (by rw [e, HS.out.cb]; omega); omega)
                have hbA7 := HBA5.out.kept (((Kept.refl (fun x => x = b) W6).drew).trans k7) (fun e => by have := HS.out.cb; rw [← e] at this; omega)
                have HS7 := Lib.hid hS7
                have HBW7 := Lib.hid bw7
                have HB7 := Lib.hid hb7
                have HBA7 := Lib.hid hbA7
                clear hr7 k7 hS7 bw7 hb7 hbA7
                go_wp2_with fail
                refine segs_go hst7 (by simp [isLoad]) ?_
                go_wp2_with fail
                refine segs_load hst7 (fun _ => (by exact ⟨wb, _, rfl, by simp⟩)) ?_
                go_wp2_with fail
                refine segs_load hst7 (fun _ => (by exact ⟨wb, _, rfl, by simp⟩)) ?_
                go_wp2_with fail
                refine (ready_i w7 HS7.out.ring).mono ?_
                rintro e w8 ⟨rfl, hr8, k8⟩
                have hS8 := HS7.out.ringOnly hr8 k8 (fun x h => .inr h)
                have hst8 : StayB [wb] W6 w8 := hst7.kept k8 (fun x hx => by simp only [List.mem_singleton] at hx; subst hx; exact ⟨HBW7.out.lt, hnsb⟩)
                have hb8 := below_step HB7.out k8 (Nat.le_refl _) (fun x hx e => by have := HS7.out.low x (by rw [e, HS7.out.cs]; omega); omega)
                have HS8 := Lib.hid hS8
                have HB8 := Lib.hid hb8
                have hrr := refready_any w8 hS8.ref (by omega) (by rw [HPL.out]; omega)
                rw [HPU.out] at hrr
                have HRR := Lib.hid hrr
                have hyy : R.ready = R.pub R.h := rfl
                rw [hyy]
                have hz78 := k8.size
                clear hr8 k8 hS8 hb8 hrr hyy
                obtain ⟨y, hy⟩ : ∃ y, y = R.pub R.h := ⟨_, rfl⟩
                rw [← hy] at HRR ⊢
                clear hy
                go_wp2_with fail
                refine segs_go hst8 (by simp [isLoad]) ?_
                go_wp2_with fail
                refine HRR.out.mono ?_
                rintro e w9 ⟨rfl, k9⟩
                have hS9 := HS8.out.kept k9 (fun _ _ _ f => f)
                have hst9 : StayB [wb] W6 w9 := hst8.kept k9 (fun x hx => by simp only [List.mem_singleton] at hx; subst hx; exact ⟨Nat.lt_of_lt_of_le HBW7.out.lt hz78, fun f => f⟩)
                have hb9 := below_still HB8.out k9 (Nat.le_refl _)
                have HS9 := Lib.hid hS9
                have HB9 := Lib.hid hb9
                clear k9 hS9 hb9
                go_wp2_with fail
                refine segs_go hst9 (by simp [isLoad]) ?_
                go_wp2_with fail
                refine segs_nil ?_
                go_wp2_with fail
                go_roundw
                case rel => exact ⟨k + 1, by omega, by go_num, ⟨_, R, TSS, _, _, _, HS9.out, HTS.out, hN, hrt', htl'⟩, HB9.out⟩
                case measure => simp [intOf]; omega

          by_cases hk3 : kind = 3
          · subst hk3
            have hpub := HT.out.pub ok r.h
            have hvals := HT.out.vals r.h
            have hp1 := pop_i _ HW.out.ring (fun q => ⟨_, HT.out.vals q⟩)
            rw [hvals] at hp1
            have hpo := HT.out.pop
            obtain ⟨y, hy⟩ : ∃ y, y = r.ready := ⟨_, rfl⟩
            obtain ⟨v0, hv0⟩ : ∃ v0, v0 = V.getD r.h 0 := ⟨_, rfl⟩
            rw [← hy, ← hv0] at hp1
            rw [← hy] at hpo
            have hpy : P.getD r.h false = y := by rw [hpub, hy]; rfl
            have HY := Lib.hid hpy
            have HV0 := Lib.hid hv0
            clear hy hpub hvals hpy hv0
            obtain ⟨R, hR⟩ : ∃ R, R = (if y = true then r.pop else r) := ⟨_, rfl⟩
            rw [← hR] at hp1
            have hTX : TieR R ts P V := by
              rw [hR]; cases y
              · exact HT.out
              · exact hpo rfl
            have hRh : R.h = if y = true then r.h + 1 else r.h := by rw [hR]; cases y <;> rfl
            have hRt : R.t = r.t := by rw [hR]; cases y <;> rfl
            have hRN : R.N = room := by rw [hR, ← hN]; cases y <;> rfl
            have HRH := Lib.hid hRh
            have HTX := Lib.hid hTX
            have HP1 := Lib.hid hp1
            clear hp1 hTX hRh hpo hR
            cases y
            all_goals
              simp only [Bool.false_eq_true, if_false, if_true] at HP1 HRH
              go_wp2_with fail
              refine HP1.out.mono ?_
              rintro e w4 ⟨rfl, hr4, k4⟩
              have hcol4 : ∀ x, (x = b ∨ x = sb) → col' x ≠ 0 ∧ ¬ RefS col' x := by
                have h1 := HW.out.cb
                have h2 := HW.out.cs
                intro x hx
                unfold RefS
                rcases hx with rfl | rfl <;> omega
              have hS4 := HW.out.ringOnly hr4 k4 (fun x h => h)
              have hbA4 := HBA.out.kept k4 (fun hx => (hcol4 A hx).1 hcA)
              have hb4 := below_step HKA.out k4 (Nat.le_refl _) (fun x hx e => by have := HW.out.low x (hcol4 x e).1; omega)
              have hc2 := refpop_any w4 hS4.ref (by omega) (by rw [HPL.out]; omega) (by rw [HVL.out, HPL.out])
              rw [HY.out, ← HV0.out, ← HRH.out] at hc2
              simp only [Bool.false_eq_true, if_false, if_true] at hc2
              have HC2 := Lib.hid hc2
              have HS4 := Lib.hid hS4
              have HB4 := Lib.hid hb4
              have HBA4 := Lib.hid hbA4
              clear hr4 k4 hS4 hb4 hbA4 hc2 hcol4
              go_wp2_with fail
              refine HC2.out.mono ?_
              rintro e w5 ⟨rfl, hr5, k5⟩
              have hS5 := HS4.out.refTo (recol_refl _ _) hr5 k5
              have hbA5 := HBA4.out.kept k5 (fun ⟨h1, h2⟩ => by omega)
              have hb5 := below_step HB4.out k5 (Nat.le_refl _) (fun x hx ⟨h1, h2⟩ => by have := HS4.out.low x (by omega); omega)
              have hrt' : R.t ≤ k + 1 := by omega
              have htl' : ts.length ≤ k + 1 := by omega
              have hTX := HTX.out
              obtain ⟨TSS, rfl⟩ : ∃ x, x = ts := ⟨_, rfl⟩
              clear hN
              have hN := hRN
              have HS := Lib.hid hS5
              have HTS := Lib.hid hTX
              have HB5 := Lib.hid hb5
              have HBA5 := Lib.hid hbA5
              clear hS5 hTX hb5 hbA5 ok hbig hht htb htsb hr5 k5 hRN hRt
              have e0' := HBA5.out.cell 0
              obtain ⟨W6, rfl⟩ : ∃ W : World, W = w5 := ⟨_, rfl⟩
              go_wp2_with fail
              all_goals
                have ok := HS.out.ring.ok
                have hbig := ok.big
                have hht := ok.ht
                have hpub := HTS.out.pub ok R.h
                have hplen := HTS.out.plen
                obtain ⟨hwc, pv, vv, tv, bw, hp, -, -⟩ := HS.out.ref
                obtain ⟨pa, pc, rfl, -, -⟩ := hp.form
                rw [hplen] at bw
                have y1 := bw.cell 1
                have y3 := bw.cell 3
                have hnb : wb ≠ b := by intro e; have := HS.out.cb; rw [← e] at this; omega
                have hnsb : wb ≠ sb := by intro e; have := HS.out.cs; rw [← e] at this; omega
                have hwl := bw.lt
                have HBW := Lib.hid bw
                have HPL := Lib.hid hplen
                have HPU := Lib.hid hpub
                clear hp bw hpub hplen
                refine wp_region_text ([4], [9, 28]) [wb] (by kernel_rfl) (by kernel_rfl) (cellsB_cons HBW.out.cells cellsB_nil) (by simp [segs, isEff, isLoad, askOps, asks, eqOrNe, isNil]; rfl) ?_
                refine segs_go stay_drew (by simp [isLoad]) ?_
                go_wp2_with fail
                refine (len_i _ (HS.out.ring.still ((still_refl _).drew))).mono ?_
                rintro e w7 ⟨rfl, hr7, k7⟩
                have hS7 := (HS.out.kept ((still_refl W6).drew) (fun _ _ _ f => f)).ringOnly hr7 k7 (fun x h => .inl h)
                have bw7 := (HBW.out.drew).only k7 hnb
                have y1' := bw7.cell 1
                have y3' := bw7.cell 3
                have hst7 : StayB [wb] W6 w7 := stay_drew.kept k7 (fun x hx => by simp only [List.mem_singleton] at hx; subst hx; exact ⟨hwl, hnb⟩)
                have hb7 := below_step HB5.out ((((Kept.refl (fun x => x = b) W6).drew).trans k7)) (Nat.le_refl _) (fun x hx e => by have := HS.out.low x (by rw [e, HS.out.cb]; omega); omega)
                have hbA7 := HBA5.out.kept (((Kept.refl (fun x => x = b) W6).drew).trans k7) (fun e => by have := HS.out.cb; rw [← e] at this; omega)
                have HS7 := Lib.hid hS7
                have HBW7 := Lib.hid bw7
                have HB7 := Lib.hid hb7
                have HBA7 := Lib.hid hbA7
                clear hr7 k7 hS7 bw7 hb7 hbA7
                go_wp2_with fail
                refine segs_go hst7 (by simp [isLoad]) ?_
                go_wp2_with fail
                refine segs_load hst7 (fun _ => (by exact ⟨wb, _, rfl, by simp⟩)) ?_
                go_wp2_with fail
                refine segs_load hst7 (fun _ => (by exact ⟨wb, _, rfl, by simp⟩)) ?_
                go_wp2_with fail
                refine (ready_i w7 HS7.out.ring).mono ?_
                rintro e w8 ⟨rfl, hr8, k8⟩
                have hS8 := HS7.out.ringOnly hr8 k8 (fun x h => .inr h)
                have hst8 : StayB [wb] W6 w8 := hst7.kept k8 (fun x hx => by simp only [List.mem_singleton] at hx; subst hx; exact ⟨HBW7.out.lt, hnsb⟩)
                have hb8 := below_step HB7.out k8 (Nat.le_refl _) (fun x hx e => by have := HS7.out.low x (by rw [e, HS7.out.cs]; omega); omega)
                have HS8 := Lib.hid hS8
                have HB8 := Lib.hid hb8
                have hrr := refready_any w8 hS8.ref (by omega) (by rw [HPL.out]; omega)
                rw [HPU.out] at hrr
                have HRR := Lib.hid hrr
                have hyy : R.ready = R.pub R.h := rfl
                rw [hyy]
                have hz78 := k8.size
                clear hr8 k8 hS8 hb8 hrr hyy
                obtain ⟨y, hy⟩ : ∃ y, y = R.pub R.h := ⟨_, rfl⟩
                rw [← hy] at HRR ⊢
                clear hy
                go_wp2_with fail
                refine segs_go hst8 (by simp [isLoad]) ?_
                go_wp2_with fail
                refine HRR.out.mono ?_
                rintro e w9 ⟨rfl, k9⟩
                have hS9 := HS8.out.kept k9 (fun _ _ _ f => f)
                have hst9 : StayB [wb] W6 w9 := hst8.kept k9 (fun x hx => by simp only [List.mem_singleton] at hx; subst hx; exact ⟨Nat.lt_of_lt_of_le HBW7.out.lt hz78, fun f => f⟩)
                have hb9 := below_still HB8.out k9 (Nat.le_refl _)
                have HS9 := Lib.hid hS9
                have HB9 := Lib.hid hb9
                clear k9 hS9 hb9
                go_wp2_with fail
                refine segs_go hst9 (by simp [isLoad]) ?_
                go_wp2_with fail
                refine segs_nil ?_
                go_wp2_with fail
                go_roundw
                case rel => exact ⟨k + 1, by omega, by go_num, ⟨_, R, TSS, _, _, _, HS9.out, HTS.out, hN, hrt', htl'⟩, HB9.out⟩
                case measure => simp [intOf]; omega

          · go_wp2_with fail
            have hS5 := HW.out
            have hrt' : r.t ≤ k + 1 := by omega
            have htl' : ts.length ≤ k + 1 := by omega
            have hTX := HT.out
            have hbA5 := HBA.out
            have hb5 := HKA.out
            obtain ⟨TSS, rfl⟩ : ∃ x, x = ts := ⟨_, rfl⟩
            obtain ⟨R, rfl⟩ : ∃ x, x = r := ⟨_, rfl⟩
            generalize (wr.alloc (.cells #[.int .i64 kind, .int .i64 ki, .int .i64 vi] 36)) = W6 at *
            have HS := Lib.hid hS5
            have HTS := Lib.hid hTX
            have HB5 := Lib.hid hb5
            have HBA5 := Lib.hid hbA5
            clear hS5 hTX hb5 hbA5 ok hbig hht htb htsb
            all_goals
              have ok := HS.out.ring.ok
              have hbig := ok.big
              have hht := ok.ht
              have hpub := HTS.out.pub ok R.h
              have hplen := HTS.out.plen
              obtain ⟨hwc, pv, vv, tv, bw, hp, -, -⟩ := HS.out.ref
              obtain ⟨pa, pc, rfl, -, -⟩ := hp.form
              rw [hplen] at bw
              have y1 := bw.cell 1
              have y3 := bw.cell 3
              have hnb : wb ≠ b := by intro e; have := HS.out.cb; rw [← e] at this; omega
              have hnsb : wb ≠ sb := by intro e; have := HS.out.cs; rw [← e] at this; omega
              have hwl := bw.lt
              have HBW := Lib.hid bw
              have HPL := Lib.hid hplen
              have HPU := Lib.hid hpub
              clear hp bw hpub hplen
              refine wp_region_text ([4], [9, 28]) [wb] (by kernel_rfl) (by kernel_rfl) (cellsB_cons HBW.out.cells cellsB_nil) (by simp [segs, isEff, isLoad, askOps, asks, eqOrNe, isNil]; rfl) ?_
              refine segs_go stay_drew (by simp [isLoad]) ?_
              go_wp2_with fail
              refine (len_i _ (HS.out.ring.still ((still_refl _).drew))).mono ?_
              rintro e w7 ⟨rfl, hr7, k7⟩
              have hS7 := (HS.out.kept ((still_refl W6).drew) (fun _ _ _ f => f)).ringOnly hr7 k7 (fun x h => .inl h)
              have bw7 := (HBW.out.drew).only k7 hnb
              have y1' := bw7.cell 1
              have y3' := bw7.cell 3
              have hst7 : StayB [wb] W6 w7 := stay_drew.kept k7 (fun x hx => by simp only [List.mem_singleton] at hx; subst hx; exact ⟨hwl, hnb⟩)
              have hb7 := below_step HB5.out ((((Kept.refl (fun x => x = b) W6).drew).trans k7)) (Nat.le_refl _) (fun x hx e => by have := HS.out.low x (by rw [e, HS.out.cb]; omega); omega)
              have hbA7 := HBA5.out.kept (((Kept.refl (fun x => x = b) W6).drew).trans k7) (fun e => by have := HS.out.cb; rw [← e] at this; omega)
              have HS7 := Lib.hid hS7
              have HBW7 := Lib.hid bw7
              have HB7 := Lib.hid hb7
              have HBA7 := Lib.hid hbA7
              clear hr7 k7 hS7 bw7 hb7 hbA7
              go_wp2_with fail
              refine segs_go hst7 (by simp [isLoad]) ?_
              go_wp2_with fail
              refine segs_load hst7 (fun _ => (by exact ⟨wb, _, rfl, by simp⟩)) ?_
              go_wp2_with fail
              refine segs_load hst7 (fun _ => (by exact ⟨wb, _, rfl, by simp⟩)) ?_
              go_wp2_with fail
              refine (ready_i w7 HS7.out.ring).mono ?_
              rintro e w8 ⟨rfl, hr8, k8⟩
              have hS8 := HS7.out.ringOnly hr8 k8 (fun x h => .inr h)
              have hst8 : StayB [wb] W6 w8 := hst7.kept k8 (fun x hx => by simp only [List.mem_singleton] at hx; subst hx; exact ⟨HBW7.out.lt, hnsb⟩)
              have hb8 := below_step HB7.out k8 (Nat.le_refl _) (fun x hx e => by have := HS7.out.low x (by rw [e, HS7.out.cs]; omega); omega)
              have HS8 := Lib.hid hS8
              have HB8 := Lib.hid hb8
              have hrr := refready_any w8 hS8.ref (by omega) (by rw [HPL.out]; omega)
              rw [HPU.out] at hrr
              have HRR := Lib.hid hrr
              have hyy : R.ready = R.pub R.h := rfl
              rw [hyy]
              have hz78 := k8.size
              clear hr8 k8 hS8 hb8 hrr hyy
              obtain ⟨y, hy⟩ : ∃ y, y = R.pub R.h := ⟨_, rfl⟩
              rw [← hy] at HRR ⊢
              clear hy
              go_wp2_with fail
              refine segs_go hst8 (by simp [isLoad]) ?_
              go_wp2_with fail
              refine HRR.out.mono ?_
              rintro e w9 ⟨rfl, k9⟩
              have hS9 := HS8.out.kept k9 (fun _ _ _ f => f)
              have hst9 : StayB [wb] W6 w9 := hst8.kept k9 (fun x hx => by simp only [List.mem_singleton] at hx; subst hx; exact ⟨Nat.lt_of_lt_of_le HBW7.out.lt hz78, fun f => f⟩)
              have hb9 := below_still HB8.out k9 (Nat.le_refl _)
              have HS9 := Lib.hid hS9
              have HB9 := Lib.hid hb9
              clear k9 hS9 hb9
              go_wp2_with fail
              refine segs_go hst9 (by simp [isLoad]) ?_
              go_wp2_with fail
              refine segs_nil ?_
              go_wp2_with fail
              go_roundw
              case rel => exact ⟨k + 1, by omega, by go_num, ⟨_, R, TSS, _, _, _, HS9.out, HTS.out, hN, hrt', htl'⟩, HB9.out⟩
              case measure => simp [intOf]; omega

    · go_wp2_with fail
      go_ret
      exact ⟨rfl, hbel⟩
end Go.Proofs.Ytegkijlgbkedmaa
