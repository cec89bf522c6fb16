/-
  What stands here: a step of a ticket of the document's ring. Under no condition but that it holds it.
-/
import Derived.Test.YtegkijlgbkedmaaRingRef
namespace Go.Proofs.Ytegkijlgbkedmaa
set_option linter.unusedVariables false
set_option linter.unusedSimpArgs false
open Go.RowKit Go.Proofs

/-- a ticket is turned in a world in which the document's ring is as it was -/
theorem ref_set {col : Nat → Nat} {wb h : Nat} {N : Int} {P : List Bool} {V : List Int} {K : List (Nat × Nat)} {w : World} (r : RefI col wb N P V h K w) {k : Nat} {t : Nat × Nat} (hk : K[k]? = some t) {g n cap : Nat} (hc : w.cell? ⟨wb, 4, none⟩ = some (.slice (some ⟨g, 0, none⟩) n cap))
    {S : Nat → Prop} {W : World} (hW : Kept S w W) (hS : ∀ x, x < w.heap.size → RefS col x → ¬ S x) (a' p' : Nat) : RefI col wb N P V h (K.set k (a', p')) ((W.setCell ⟨g, k * 2, none⟩ (.int .i64 a')).setCell ⟨g, k * 2 + 1, none⟩ (.int .i64 p')) ∧ col g = 5 := by
  obtain ⟨h2, pv, vv, tv, hb, hpo, hvo, hto⟩ := r
  obtain ⟨g', cap', cur, rfl, hg, hbg, hn, hm, hin, hcs, e0, e1, hset, -⟩ := tick_cells hto hk
  have c4 := hb.cell 4
  rw [hc] at c4
  simp only [Option.some.injEq, Value.slice.injEq, Addr.mk.injEq, and_true, true_and, List.getElem?_toArray, List.getElem?_cons_succ, List.getElem?_cons_zero] at c4
  obtain ⟨rfl, rfl, rfl⟩ := c4
  have hbw := hb.kept hW (hS wb hb.lt ⟨by omega, by omega⟩)
  have hgw := hbg.kept hW (hS g hbg.lt ⟨by omega, by omega⟩)
  have n1 : g ≠ wb := by intro e; rw [e] at hg; omega
  refine ⟨⟨h2, _, _, _, (hbw.other (a := ⟨g, k * 2, none⟩) (Ne.symm n1) _).other (a := ⟨g, k * 2 + 1, none⟩) (Ne.symm n1) _, ?_, ?_, ?_⟩, hg⟩
  · exact ((hpo.kept hW (fun x hx hc => hS x hx ⟨by omega, by omega⟩)).set_other (a := ⟨g, k * 2, none⟩) (by show col g ≠ 3; omega) _).set_other (a := ⟨g, k * 2 + 1, none⟩) (by show col g ≠ 3; omega) _
  · exact ((hvo.kept hW (fun x hx hc => hS x hx ⟨by omega, by omega⟩)).set_other (a := ⟨g, k * 2, none⟩) (by show col g ≠ 4; omega) _).set_other (a := ⟨g, k * 2 + 1, none⟩) (by show col g ≠ 4; omega) _
  · have := hset _ (a', p') ((hgw.set (k * 2) (.int .i64 a')).set (k * 2 + 1) (.int .i64 p'))
    rw [List.length_set] at this ⊢
    exact this

theorem infoBool4 : (Try.prog.info? 4).map (fun i => (i.zero, i.size, i.bytes)) = some (some (.bool false), 1, 1) := by kernel_rfl
theorem infoInt4 : (Try.prog.info? 3).map (fun i => (i.zero, i.size, i.bytes)) = some (some (.int .i64 0), 1, 8) := by kernel_rfl
theorem infoTick4 : (Try.prog.info? 40).map (fun i => (i.zero, i.size, i.bytes)) = some (some (.agg #[.int .i64 0, .int .i64 0]), 2, 16) := by kernel_rfl

set_option maxRecDepth 100000 in
set_option maxHeartbeats 4000000 in
theorem refstep_2 {col : Nat → Nat} {wb h : Nat} {N : Int} {P : List Bool} {V : List Int} {K : List (Nat × Nat)} (w : World) (r : RefI col wb N P V h K w) (k p : Nat) (hk : K[k]? = some (2, p)) (hP : P.length < 1000000000000) (hV : V.length < 1000000000000) (hp : p < 1000000000000) :
    Calls Try.prog 12 #[.pointer (some ⟨wb, 0, none⟩), .int .i64 k] w fun e w' => e = .returned (.int .i64 (refAns (refT P h N (2, p)).1)) ∧
      (∃ col', Recol w.heap.size col col' ∧ RefI col' wb N (if p = P.length then P ++ [false] else P) (if p = P.length then V ++ [0] else V) h (K.set k (refT P h N (2, p))) w') ∧ Kept (RefS col) w w' := by
  simp only [refT, show ((2 : Nat) = 0) = False by simp, if_false, if_true, show ((2 : Nat) = 1) = False by simp]
  by_cases hpl' : p = P.length
  · rw [if_pos hpl', if_pos hpl', if_pos hpl']
    obtain ⟨i0, hi, hz0, hz1, hz2⟩ := info_parts infoBool4
    have HI := Lib.hid (info_parts infoInt4)
    obtain ⟨h2, pv, vv, tv, hb, hpo, hvo, hto⟩ := r
    obtain ⟨g, cap, cur, rfl, hg, hbg, hn, hm, hin, hcs, e0, e1, -, -⟩ := tick_cells hto hk
    obtain ⟨ap, cp, rfl, hpl, hpm⟩ := hpo.form
    obtain ⟨av, cv, rfl, hvl, hvm⟩ := hvo.form
    have n1 : g ≠ wb := by intro e; rw [e] at hg; omega
    have c4 := hb.cell 4
    have c1 := hb.cell 1
    have fg := hbg.free (k * 2)
    have fg1 := hbg.free (k * 2 + 1)
    have hgl := hbg.lt
    have hwl := hb.lt
    obtain ⟨L, hL⟩ : ∃ L, L = K.length := ⟨_, rfl⟩
    obtain ⟨M, hM⟩ : ∃ M, M = P.length := ⟨_, rfl⟩
    rw [← hM] at c1 hP hpl hpl' hpo hb
    subst hpl'
    rw [← hL] at hin c4 hn hb
    have HB := Lib.hid hb
    have HBG := Lib.hid hbg
    have HPO := Lib.hid hpo
    have HVO := Lib.hid hvo
    have HTO := Lib.hid hto
    have HL := Lib.hid hL
    have HM := Lib.hid hM
    clear hb hbg hpo hvo hto hL hM
    go_enter Try.func12, Try.ntmps12
    go_wp2_with fail
    go_quiet (fail)
    obtain ⟨B, hB⟩ : ∃ B, B = w.heap.size := ⟨_, rfl⟩
    have bT : Blk (w.alloc (.cells #[.int .i64 2, .int .i64 p] 40)) B #[.int .i64 2, .int .i64 p] 40 := Blk.newAt _ _ _ hB.symm
    have k1 := (still_refl w).alloc (.cells #[.int .i64 2, .int .i64 p] 40)
    have z1 : (w.alloc (.cells #[.int .i64 2, .int .i64 p] 40)).heap.size = B + 1 := by simp [hB]
    rw [← hB]
    generalize hw1 : World.drewN (w.alloc (.cells #[.int .i64 2, .int .i64 p] 40)) _ = w1
    have bT1 : Blk w1 B #[.int .i64 2, .int .i64 p] 40 := hw1 ▸ bT.drewN _
    have k1' : Still w w1 := hw1 ▸ k1.drewN _
    have z1' : w1.heap.size = B + 1 := hw1 ▸ z1
    clear bT k1 z1 hw1
    have HZ1 := Lib.hid z1'
    clear z1'
    have hb1 := HB.out.still k1'
    have hg1 := HBG.out.still k1'
    have hp1 := HPO.out.grow k1' rfl 0 (fun _ _ _ f => f)
    have hv1 := HVO.out.grow k1' rfl 0 (fun _ _ _ f => f)
    have ht1 := HTO.out.grow k1' rfl 0 (fun _ _ _ f => f)
    have c11 := hb1.cell 1
    have c12 := hb1.cell 2
    have c14 := hb1.cell 4
    have f11 := hb1.free 1
    have HB1 := Lib.hid hb1
    have HG1 := Lib.hid hg1
    have HP1 := Lib.hid hp1
    have HV1 := Lib.hid hv1
    have HT1 := Lib.hid ht1
    have HBB := Lib.hid hB
    have HT := Lib.hid bT1
    clear hb1 hg1 hp1 hv1 ht1 c1 c4 e0 e1 fg fg1 bT1 hB
    have hq1 := fun o => (HP1.out.still ((still_refl w1).alloc o)).1
    go_wp2_with (first | (at_builtin; refine wpList_append _ rfl _ _ 29 rfl 0 4 i0 (.bool false) 1 1 Try.underlying29 hi hz0 hz1 hz2 rfl (by decide) _ _ _ rfl (hq1 _) ⟨w1.heap.size, 0, none⟩ 1 1 [.bool false] rfl rfl (by intro j u hj; match j, hj with | 0, hj => simp at hj; subst hj; first | (simp [Addr.add]; done) | exact (Blk.newAt _ _ _ (by simp)).cell 0) (by intro u hu; simp at hu; subst hu; rfl) (by unfold maxLen; omega) (by omega) (by first | omega | (simp; omega) | simp) ?_) | fail)
    intro v1 w2 ha
    obtain ⟨col1, hc1⟩ : ∃ col1, col1 = ext col w.heap.size 0 := ⟨_, rfl⟩
    rw [← hc1] at HP1 HV1 HT1
    have rc1 : Recol w.heap.size col col1 := hc1 ▸ recol_ext _ _ _
    have cB1 : col1 B = 0 := by rw [hc1]; exact ext_new col (by rw [HBB.out]; exact Nat.le_refl _)
    have cw1 : col1 wb = 2 := (rc1 wb hwl).trans h2
    have k2 : Kept (fun x => col1 x = 3) w1 w2 := HP1.out.app_kept ha (Kept.refl _ w1) (fun x _ h => h)
    have hp2 := HP1.out.appended (m := w1.heap.size) ha (Nat.le_refl _) (owns_lt HP1.out.1)
    have hv2 := HV1.out.grow k2 rfl 3 (fun x _ h e => by omega)
    have ht2 := HT1.out.grow k2 rfl 3 (fun x _ h e => by omega)
    have hb2 := HB1.out.kept k2 (by omega)
    have hT2 := HT.out.kept k2 (by omega)
    obtain ⟨col2, hc2⟩ : ∃ col2, col2 = ext col1 w1.heap.size 3 := ⟨_, rfl⟩
    rw [← hc2] at hp2 hv2 ht2
    have rc2 : Recol w1.heap.size col1 col2 := hc2 ▸ recol_ext _ _ _
    have zB : B < w1.heap.size := by rw [HZ1.out]; omega
    have zw : wb < w1.heap.size := by rw [HZ1.out, HBB.out]; omega
    have cB2 : col2 B = 0 := (rc2 B zB).trans cB1
    have cw2 : col2 wb = 2 := (rc2 wb zw).trans cw1
    obtain ⟨a1, cp1, rfl, hl1, hm1⟩ := hp2.form
    have d11 := hb2.cell 1
    have d12 := hb2.cell 2
    have d14 := hb2.cell 4
    have f21 := hb2.free 1
    have f22 := hb2.free 2
    have hb3 := hb2.set 1 (.slice a1 (p + 1) cp1)
    have d22 := hb3.cell 2
    have hp3 := hp2.set_other (a := ⟨wb, 1, none⟩) (by show col2 wb ≠ 3; omega) (.slice a1 (p + 1) cp1)
    have hv3 := hv2.set_other (a := ⟨wb, 1, none⟩) (by show col2 wb ≠ 4; omega) (.slice a1 (p + 1) cp1)
    have ht3 := ht2.set_other (a := ⟨wb, 1, none⟩) (by show col2 wb ≠ 5; omega) (.slice a1 (p + 1) cp1)
    have hT3 := hT2.other (a := ⟨wb, 1, none⟩) (by show B ≠ wb; intro e; rw [e] at cB2; omega) (.slice a1 (p + 1) cp1)
    have hkw3 : Kept (RefS col) w (w2.setCell ⟨wb, 1, none⟩ (.slice a1 (p + 1) cp1)) := ((k1'.mono (fun _ _ f => f.elim)).step k2 (fun x hx h => ⟨by rw [← rc1 x hx]; omega, by rw [← rc1 x hx]; omega⟩)).setCell (fun _ => ⟨Nat.le_of_eq h2.symm, by show col wb ≤ 5; omega⟩) _
    have HV3 := Lib.hid hv3
    have HP3 := Lib.hid hp3
    have HT3 := Lib.hid ht3
    have HB3 := Lib.hid hb3
    have HTT := Lib.hid hT3
    have HK3 := Lib.hid hkw3
    have hq3 := fun o => (HV3.out.still ((still_refl _).alloc o)).1
    obtain ⟨j0, hj, hy0, hy1, hy2⟩ := HI.out
    have hle2 := k2.size
    clear ha k2 hp2 hv2 ht2 hb2 hT2 hv3 hp3 ht3 hb3 hT3 hkw3 hi hz0 hz1 hz2 hq1
    have hi := hj
    have hz0 := hy0
    have hz1 := hy1
    have hz2 := hy2
    clear hj hy0 hy1 hy2
    obtain ⟨i0, rfl⟩ : ∃ i0, i0 = j0 := ⟨_, rfl⟩
    go_wp2_with (first | (at_builtin; refine wpList_append _ rfl _ _ 30 rfl 0 3 i0 (.int .i64 0) 1 8 Try.underlying30 hi hz0 hz1 hz2 rfl (by decide) _ _ _ rfl (hq3 _) ⟨w2.heap.size, 0, none⟩ 1 1 [.int .i64 0] rfl rfl (by intro j u hj; match j, hj with | 0, hj => simp at hj; subst hj; first | (simp [Addr.add]; done) | exact (Blk.newAt _ _ _ (by simp)).cell 0) (by intro u hu; simp at hu; subst hu; rfl) (by unfold maxLen; omega) (by omega) (by first | omega | (simp; omega) | simp) ?_) | fail)
    intro v2 w4 ha
    have k4 : Kept (fun x => col2 x = 4) (w2.setCell ⟨wb, 1, none⟩ (.slice a1 (p + 1) cp1)) w4 := HV3.out.app_kept ha (Kept.refl _ _) (fun x _ h => h)
    have zs2 : (w2.setCell ⟨wb, 1, none⟩ (.slice a1 (p + 1) cp1)).heap.size = w2.heap.size := by simp
    have hv4 := HV3.out.appended (m := w2.heap.size) ha (Nat.le_of_eq zs2.symm) (fun g hg => by rw [← zs2]; exact owns_lt HV3.out.1 g hg)
    have hp4 := HP3.out.grow k4 zs2.symm 4 (fun x _ h e => by omega)
    have ht4 := HT3.out.grow k4 zs2.symm 4 (fun x _ h e => by omega)
    have hb4 := HB3.out.kept k4 (by omega)
    have hT4 := HTT.out.kept k4 (by omega)
    obtain ⟨col3, hc3⟩ : ∃ col3, col3 = ext col2 w2.heap.size 4 := ⟨_, rfl⟩
    rw [← hc3] at hp4 hv4 ht4
    have rc3 : Recol w2.heap.size col2 col3 := hc3 ▸ recol_ext _ _ _
    have z2B : B < w2.heap.size := by have := HB3.out.lt; have := HTT.out.lt; rwa [zs2] at this
    have z2w : wb < w2.heap.size := by have := HB3.out.lt; rwa [zs2] at this
    have cB3 : col3 B = 0 := (rc3 B z2B).trans cB2
    have cw3 : col3 wb = 2 := (rc3 wb z2w).trans cw2
    obtain ⟨a2, cp2, rfl, hl2, hm2⟩ := hv4.form
    have hle : w.heap.size ≤ w1.heap.size := by rw [HZ1.out, HBB.out]; omega
    have hf42 := hb4.free 2
    have hr4 : RefI col3 wb N (P ++ [false]) (V ++ [0]) h K (w4.setCell ⟨wb, 2, none⟩ (.slice a2 (V.length + 1) cp2)) := by
      refine ⟨cw3, .slice a1 (p + 1) cp1, .slice a2 (V.length + 1) cp2, .slice (some ⟨g, 0, none⟩) L cap, (hb4.set 2 _).cast (by simp), ?_, ?_, ?_⟩
      · have := hp4.set_other (a := ⟨wb, 2, none⟩) (by show col3 wb ≠ 3; omega) (.slice a2 (V.length + 1) cp2)
        rw [List.length_append, List.map_append, ← HM.out]; exact this
      · have := hv4.set_other (a := ⟨wb, 2, none⟩) (by show col3 wb ≠ 4; omega) (.slice a2 (V.length + 1) cp2)
        rw [List.length_append, List.map_append]; exact this
      · have := ht4.set_other (a := ⟨wb, 2, none⟩) (by show col3 wb ≠ 5; omega) (.slice a2 (V.length + 1) cp2)
        rw [HL.out]; exact this
    obtain ⟨g', cap', cur', hgv, hg5, hbg4, -, -, -, -, q0, q1, -, -⟩ := tick_cells ht4 hk
    simp only [Value.slice.injEq, Option.some.injEq, Addr.mk.injEq, and_true, true_and] at hgv
    obtain ⟨rfl, -, -⟩ := hgv
    have u4 := hb4.cell 4
    have u2 := hb4.cell 2
    have u0 := hT4.cell 0
    have u1 := hT4.cell 1
    have fB := hT4.free 0
    have fg4 := hbg4.free (k * 2)
    have fg5 := hbg4.free (k * 2 + 1)
    have nB : B ≠ wb := by intro e; rw [e] at cB3; omega
    have nBg : B ≠ g := by intro e; rw [e] at cB3; omega
    have hK4 : Kept (RefS col) w (w4.setCell ⟨wb, 2, none⟩ (.slice a2 (V.length + 1) cp2)) := ((HK3.out).step k4 (fun x hx h => by
      have e1 := rc2 x (by omega)
      have e2 := rc1 x hx
      exact ⟨by rw [← e2, ← e1]; omega, by rw [← e2, ← e1]; omega⟩)).setCell (fun _ => ⟨Nat.le_of_eq h2.symm, by show col wb ≤ 5; omega⟩) _
    have hfin := fun (W : World) (hW : Kept (fun x => x = B) (w4.setCell ⟨wb, 2, none⟩ (.slice a2 (V.length + 1) cp2)) W) => (ref_set hr4 hk (g := g) (n := L) (cap := cap) (by
      have := (hb4.set 2 (.slice a2 (V.length + 1) cp2)).cell 4
      exact this) hW (fun x hx h e => by subst e; obtain ⟨h1, h2⟩ := h; omega) 4 p).1
    have HF := Lib.hid hfin
    have HK4 := Lib.hid hK4
    have HRC : Hid (Recol w.heap.size col col3) := Lib.hid ((rc1.trans rc2 hle).trans rc3 (by omega))
    clear hfin hK4 hr4 ht4 hp4 hv4 hb4 hT4 hbg4 k4 ha hq3 hk
    go_wp2
    go_region
    go_wp2
    go_ret
    have hfin := (HF.out _ ((Kept.refl (fun x => x = B) (w4.setCell ⟨wb, 2, none⟩ (.slice a2 (V.length + 1) cp2))).setCell (p := ⟨B, 0, none⟩) (fun _ => rfl) (.int .i64 4))).drew
    have hkf := (((HK4.out.setCell (p := ⟨B, 0, none⟩) (fun h => absurd h (by show ¬ B < w.heap.size; rw [HBB.out]; omega)) (.int .i64 4)).setCell (p := ⟨g, k * 2, none⟩) (fun _ => ⟨by show 2 ≤ col g; omega, by show col g ≤ 5; omega⟩) (.int .i64 4)).setCell (p := ⟨g, k * 2 + 1, none⟩) (fun _ => ⟨by show 2 ≤ col g; omega, by show col g ≤ 5; omega⟩) (.int .i64 p)).drew
    exact ⟨rfl, ⟨col3, HRC.out, hfin⟩, hkf⟩
  · rw [if_neg hpl', if_neg hpl', if_neg hpl']
    obtain ⟨g, cap, cp, ap, pl, kl, vv, ⟨c0, c1, c3, c4, e0, e1, n1, fg, fg1, hgl, hwl, hpl, hkl, hkk, hset⟩, -⟩ := ref_open r hk
    rw [← hpl] at hP hpl'
    clear hpl hkl hk
    have HS := Lib.hid (fun W hW => hset W hW 0 p)
    clear hset
    go_enter Try.func12, Try.ntmps12
    go_wp2_with fail
    go_quiet (fail)
    go_wp2_with fail
    go_region
    go_wp2_with fail
    go_ret
    exact ⟨rfl, ⟨col, recol_refl _ _, RefI.drew (HS.out _ ((((still_refl w).alloc _).drewN _).setCell (p := ⟨w.heap.size, 0, none⟩) (fun h => absurd h (Nat.lt_irrefl _)) _) _ _ rfl rfl).1⟩, Kept.drew (HS.out _ ((((still_refl w).alloc _).drewN _).setCell (p := ⟨w.heap.size, 0, none⟩) (fun h => absurd h (Nat.lt_irrefl _)) _) _ _ rfl rfl).2⟩

theorem refstep_any {col : Nat → Nat} {wb h : Nat} {N : Int} {P : List Bool} {V : List Int} {K : List (Nat × Nat)} (w : World) (r : RefI col wb N P V h K w) (k : Nat) (t : Nat × Nat) (hk : K[k]? = some t) (ha : t.1 ≤ 5) (hP : P.length < 1000000000000) (hV : V.length < 1000000000000) (hp : t.2 < 1000000000000) (hh : h < 1000000000000) (hN : 0 ≤ N ∧ N ≤ 64) :
    Calls Try.prog 12 #[.pointer (some ⟨wb, 0, none⟩), .int .i64 k] w fun e w' => e = .returned (.int .i64 (refAns (refT P h N t).1)) ∧
      (∃ col', Recol w.heap.size col col' ∧ RefI col' wb N (if t.1 = 2 ∧ t.2 = P.length then P ++ [false] else P) (if t.1 = 2 ∧ t.2 = P.length then V ++ [0] else V) h (K.set k (refT P h N t)) w') ∧ Kept (RefS col) w w' := by
  obtain ⟨a, p⟩ := t
  have ha' : a = 0 ∨ a = 1 ∨ a = 2 ∨ (a = 3 ∨ a = 4 ∨ a = 5) := by have : a ≤ 5 := ha; omega
  rcases ha' with rfl | rfl | rfl | h3
  · refine (refstep_0 w r k p hk hP).mono ?_
    rintro e w' ⟨rfl, h1, h2⟩
    exact ⟨rfl, ⟨col, recol_refl _ _, by simpa [refT] using h1⟩, h2⟩
  · refine (refstep_1 w r k p hk hP hp hh hN).mono ?_
    rintro e w' ⟨rfl, h1, h2⟩
    exact ⟨rfl, ⟨col, recol_refl _ _, by simpa using h1⟩, h2⟩
  · refine (refstep_2 w r k p hk hP hV hp).mono ?_
    rintro e w' ⟨rfl, ⟨col', h0, h1⟩, h2⟩
    exact ⟨rfl, ⟨col', h0, by simpa using h1⟩, h2⟩
  · refine (refstep_end w r k a p hk h3).mono ?_
    rintro e w' ⟨rfl, h1, h2⟩
    have e1 : refT P h N (a, p) = (a, p) := by unfold refT; simp only; rw [if_neg (by omega), if_neg (by omega), if_neg (by omega)]
    rw [e1]
    refine ⟨rfl, ⟨col, recol_refl _ _, ?_⟩, h2⟩
    rw [if_neg (by simp only; omega), if_neg (by simp only; omega)]; exact h1
end Go.Proofs.Ytegkijlgbkedmaa
