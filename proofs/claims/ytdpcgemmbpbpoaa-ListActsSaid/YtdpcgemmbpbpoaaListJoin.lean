/-
  What stands here: all of a list is put behind another one. Under no condition but that the world holds them.
-/
import Derived.Test.YtdpcgemmbpbpoaaListMem
namespace Go.Proofs.Ytdpcgemmbpbpoaa
set_option linter.unusedVariables false
set_option linter.unusedSimpArgs false
open Go.RowKit Go.Proofs

theorem sizeList_i : (Try.prog.info? 71).map (fun i => i.size) = some (3 + 1) := by kernel_rfl
theorem lsplice_zero_i (s : LS) (w : World) (h : LW_i s w) (l o : Nat) (hl : s.kd l = 1) (ho : s.kd o = 1) (hlo : l ≠ o) (h0 : s.sq o = []) :
    Calls Try.prog 11 #[.pointer (some ⟨l, 0, none⟩), .pointer (some ⟨o, 0, none⟩)] w fun e w' => e = .returned (.int .i64 0) ∧ w = w' := by
  have bO := h.lists o ho
  rw [h0] at bO
  have co2 : w.cell? ⟨o, 2, none⟩ = some (.int .i64 0) := bO.cell 2
  have heq := eq_ptr Try.underlying24 sizeList_i (h.lists o ho) (h.lists l hl)
  rw [show decide (o = l) = false by simp; exact Ne.symm hlo] at heq
  clear bO h h0
  go_enter Try.func11, Try.ntmps11
  go_wp2_with fail
  go_ret
  exact ⟨rfl, rfl⟩
theorem lsplice_self_i (s : LS) (w : World) (h : LW_i s w) (l : Nat) (hl : s.kd l = 1) :
    Calls Try.prog 11 #[.pointer (some ⟨l, 0, none⟩), .pointer (some ⟨l, 0, none⟩)] w fun e w' => e = .returned (.int .i64 1) ∧ w = w' := by
  have heq := eq_ptr Try.underlying24 sizeList_i (h.lists l hl) (h.lists l hl)
  rw [show decide (l = l) = true by simp] at heq
  clear h
  go_enter Try.func11, Try.ntmps11
  go_wp2_with fail
  go_ret
  exact ⟨rfl, rfl⟩
set_option maxHeartbeats 2000000 in
theorem lsplice_i (s : LS) (w : World) (h : LW_i s w) (l o : Nat) (hl : s.kd l = 1) (ho : s.kd o = 1) (hlo : l ≠ o) (hne : s.sq o ≠ []) (hbig : (s.sq l).length + (s.sq o).length < 9223372036854775807) :
    Calls Try.prog 11 #[.pointer (some ⟨l, 0, none⟩), .pointer (some ⟨o, 0, none⟩)] w fun e w' => e = .returned (.int .i64 0) ∧ LW_i (s.splice l o w.heap.size) w' ∧ Kept (fun y => s.kd y = 1 ∨ s.kd y = 2 ∨ s.kd y = 3) w w' := by
  have f0 := h.fresh w.heap.size (Nat.le_refl _)
  have hinv := h.inv.splice hl ho hlo f0
  obtain ⟨hl3, hl0⟩ := h.inv.hmk l hl
  obtain ⟨ho3, ho0⟩ := h.inv.hmk o ho
  have heq := eq_ptr Try.underlying24 sizeList_i (h.lists o ho) (h.lists l hl)
  rw [show decide (o = l) = false by simp; exact Ne.symm hlo] at heq
  have hma : ∀ y, y ∈ s.sq l → s.kd y = 2 := fun y hy => (h.inv.mem l y hl hy).1
  have hmb : ∀ y, y ∈ s.sq o → s.kd y = 2 := fun y hy => (h.inv.mem o y ho hy).1
  have hdis : ∀ y, y ∈ s.sq l → y ∉ s.sq o := fun y h1 h2 => hlo (h.inv.one hl ho h1 h2)
  obtain ⟨q, b0, hb⟩ : ∃ q b0, s.sq o = q :: b0 := by
    cases hh : s.sq o with
    | nil => exact absurd hh hne
    | cons q b0 => exact ⟨q, b0, rfl⟩
  have hqp : (s.nd q).prev = none := by have h9 := h.inv.lnk o ho; rw [hb] at h9; exact h9.1
  have HQP := Lib.hid hqp
  clear hqp
  obtain ⟨a, haa⟩ : ∃ a, a = s.sq l := ⟨_, rfl⟩
  have bL := h.lists l hl
  have bO := h.lists o ho
  have bH := h.homes (s.hm o) ho3
  rw [ho0] at bH
  rw [← haa] at bL hma hdis hbig
  rw [hb] at bO hmb hdis hbig
  obtain ⟨n, hn⟩ : ∃ n, n = a.length := ⟨_, rfl⟩
  obtain ⟨m, hm⟩ : ∃ m, m = (q :: b0).length := ⟨_, rfl⟩
  have hmp : 0 < m := by rw [hm]; simp
  rw [← hn] at bL hbig
  rw [← hm] at bO hbig
  have hq2 := hmb q (by simp)
  have bQ := h.nodes q hq2
  obtain ⟨H, hH⟩ : ∃ H, H = w.heap.size := ⟨_, rfl⟩
  rw [← hH] at f0 hinv ⊢
  have nd : ∀ y, (s.splice l o H).nd y = if lst none a = some y then { s.nd y with next := some q } else if some q = some y then { s.nd y with prev := lst none a } else s.nd y := fun y => by
    show joinNd _ _ _ y = _
    unfold joinNd; rw [← haa, hb]; rfl
  have sql : (s.splice l o H).sq l = a ++ q :: b0 := by show upd (upd s.sq l _) o [] l = _; rw [upd_ne _ _ hlo, upd_same, ← haa, hb]
  have sqo : (s.splice l o H).sq o = [] := by show upd (upd s.sq l _) o [] o = _; rw [upd_same]
  have hhmo : (s.splice l o H).hm o = H := upd_same _ _ _
  have hhml : (s.splice l o H).hm l = s.hm l := upd_ne _ _ hlo
  have hnH : ∀ y, s.kd y ≠ 0 → y ≠ H := fun y hy e => hy (by rw [e]; exact f0)
  have fin : ∀ (w' : World), Kept (fun y => y = l ∨ y = o ∨ y = s.hm o ∨ lst none a = some y ∨ y = q) w w' →
      Blk w' H #[.pointer none] 69 → Blk w' (s.hm o) #[.pointer (some ⟨s.hm l, 0, none⟩)] 69 →
      Blk w' l #[ptrO (hd (a ++ q :: b0) none), ptrO (lst none (a ++ q :: b0)), .int .i64 ((n : Int) + m), .pointer (some ⟨s.hm l, 0, none⟩)] 71 →
      Blk w' o #[.pointer none, .pointer none, .int .i64 0, .pointer (some ⟨H, 0, none⟩)] 71 →
      (∀ y, lst none a = some y → Blk w' y #[(s.nd y).val, ptrO (s.nd y).prev, .pointer (some ⟨q, 0, none⟩), ptrO (s.nd y).home] 48) →
      Blk w' q #[(s.nd q).val, ptrO (lst none a), ptrO (s.nd q).next, ptrO (s.nd q).home] 48 →
      LW_i (s.splice l o H) w' ∧ Kept (fun y => s.kd y = 1 ∨ s.kd y = 2 ∨ s.kd y = 3) w w' := fun w' k bH' bh bl bo bp bq => by
    have hS : ∀ y, (y = l ∨ y = o ∨ y = s.hm o ∨ lst none a = some y ∨ y = q) → s.kd y = 1 ∨ s.kd y = 2 ∨ s.kd y = 3 := by
      rintro y (rfl | rfl | rfl | h1 | rfl)
      · exact .inl hl
      · exact .inl ho
      · exact .inr (.inr ho3)
      · exact .inr (.inl (hma y (lst_mem h1)))
      · exact .inr (.inl hq2)
    have kd : ∀ y, (s.splice l o H).kd y = if y = H then 3 else s.kd y := fun y => rfl
    have hqa : lst none a ≠ some q := fun e => hdis q (lst_mem e) (by simp)
    refine ⟨⟨hinv, fun y hy => ?_, fun y hy => ?_, fun y hy => ?_, fun y hy => ?_⟩, k.mono (fun y _ hy => hS y hy)⟩
    · show Blk w' y #[ptrO (upd (upd s.to (s.hm o) (some (s.hm l))) H none y)] _
      rw [kd] at hy
      by_cases e : y = H
      · rw [e, upd_same]; exact bH'
      · rw [if_neg e] at hy
        rw [upd_ne _ _ e]
        by_cases e2 : y = s.hm o
        · rw [e2, upd_same]; exact bh
        · rw [upd_ne _ _ e2]
          refine (h.homes y hy).kept k ?_
          rintro (h1 | h1 | h1 | h1 | h1)
          · rw [h1, hl] at hy; cases hy
          · rw [h1, ho] at hy; cases hy
          · exact e2 h1
          · rw [hma y (lst_mem h1)] at hy; cases hy
          · rw [h1, hq2] at hy; cases hy
    · rw [kd] at hy
      by_cases e : y = H
      · rw [if_pos e] at hy; cases hy
      · rw [if_neg e] at hy
        rw [nd]
        by_cases e2 : lst none a = some y
        · rw [if_pos e2]; exact bp y e2
        · rw [if_neg e2]
          by_cases e3 : y = q
          · subst e3; rw [if_pos rfl]; exact bq
          · rw [if_neg (fun h => e3 (by cases h; rfl))]
            refine (h.nodes y hy).kept k ?_
            rintro (h1 | h1 | h1 | h1 | h1)
            · rw [h1, hl] at hy; cases hy
            · rw [h1, ho] at hy; cases hy
            · rw [h1, ho3] at hy; cases hy
            · exact e2 h1
            · exact e3 h1
    · rw [kd] at hy
      by_cases e : y = H
      · rw [if_pos e] at hy; cases hy
      · rw [if_neg e] at hy
        by_cases e2 : y = l
        · subst e2
          rw [sql, hhml]
          refine bl.cast ?_
          simp only [List.length_append, ← hm, ← hn]
          rfl
        · by_cases e3 : y = o
          · subst e3; rw [sqo, hhmo]; exact bo
          · have q1 : (s.splice l o H).sq y = s.sq y := by show upd (upd s.sq l _) o [] y = _; rw [upd_ne _ _ e3, upd_ne _ _ e2]
            have q2 : (s.splice l o H).hm y = s.hm y := upd_ne _ _ e3
            rw [q1, q2]
            refine (h.lists y hy).kept k ?_
            rintro (h1 | h1 | h1 | h1 | h1)
            · exact e2 h1
            · exact e3 h1
            · rw [h1, ho3] at hy; cases hy
            · rw [hma y (lst_mem h1)] at hy; cases hy
            · rw [h1, hq2] at hy; cases hy
    · have hlt := bH'.lt
      rw [kd, if_neg (by omega)]
      exact h.fresh y (Nat.le_trans k.size hy)
  have FIN := Lib.hid fin
  have HW := Lib.hid h
  have HMA := Lib.hid hma
  have HDIS := Lib.hid hdis
  have HNH := Lib.hid hnH
  have HA := Lib.hid haa
  have hHl := (hnH l (by omega))
  have hHo := (hnH o (by omega))
  have hHh := (hnH (s.hm o) (by omega))
  have hHq := (hnH q (by omega))
  have hlh : l ≠ s.hm o := by intro e; rw [e, ho3] at hl; cases hl
  have hoh : o ≠ s.hm o := by intro e; rw [← e, ho] at ho3; cases ho3
  have hqh : q ≠ s.hm o := by intro e; rw [e, ho3] at hq2; cases hq2
  have hql : q ≠ l := by intro e; rw [e, hl] at hq2; cases hq2
  have hqo : q ≠ o := by intro e; rw [e, ho] at hq2; cases hq2
  clear fin h hma hmb hdis hnH haa hb hn hm nd sql sqo hhmo hhml hinv hne hl0 ho0 f0
  have HH := Lib.hid hH
  obtain ⟨hml, hhml⟩ : ∃ x, x = s.hm l := ⟨_, rfl⟩
  obtain ⟨hmo, hhmo⟩ : ∃ x, x = s.hm o := ⟨_, rfl⟩
  rw [← hhml] at bL
  rw [← hhmo] at bO bH hHh hlh hoh hqh
  have cl3 : w.cell? ⟨l, 3, none⟩ = some (.pointer (some ⟨hml, 0, none⟩)) := bL.cell 3
  have co3 : w.cell? ⟨o, 3, none⟩ = some (.pointer (some ⟨hmo, 0, none⟩)) := bO.cell 3
  have co2 : w.cell? ⟨o, 2, none⟩ = some (.int .i64 m) := bO.cell 2
  have cl2 : w.cell? ⟨l, 2, none⟩ = some (.int .i64 n) := bL.cell 2
  have co0 : w.cell? ⟨o, 0, none⟩ = some (.pointer (some ⟨q, 0, none⟩)) := bO.cell 0
  obtain ⟨lo, hvo⟩ : ∃ lo, lst none (q :: b0) = some lo := by
    rcases snoc_cases b0 with h | ⟨c, z, h⟩
    · rw [h]; exact ⟨q, rfl⟩
    · rw [h, ← List.cons_append, lst_snoc]; exact ⟨z, rfl⟩
  rw [hvo] at bO
  have co1 : w.cell? ⟨o, 1, none⟩ = some (.pointer (some ⟨lo, 0, none⟩)) := bO.cell 1
  obtain ⟨v0, hv0⟩ : ∃ v, v = ptrO (hd a none) := ⟨_, rfl⟩
  rw [← hv0] at bL
  have cl0 : w.cell? ⟨l, 0, none⟩ = some v0 := bL.cell 0
  have ch0 : w.cell? ⟨hmo, 0, none⟩ = some (.pointer none) := bH.cell 0
  obtain ⟨vq, hvq⟩ : ∃ v, v = ptrO (s.nd q).prev := ⟨_, rfl⟩
  rw [← hvq] at bQ
  have cq1 : w.cell? ⟨q, 1, none⟩ = some vq := bQ.cell 1
  have fl0 := bL.free 0
  have fl1 := bL.free 1
  have fl2 := bL.free 2
  have fo0 := bO.free 0
  have fo1 := bO.free 1
  have fo2 := bO.free 2
  have fo3 := bO.free 3
  have fh0 := bH.free 0
  have fq1 := bQ.free 1
  have HLO := Lib.hid hvo
  have HBO := Lib.hid bO
  have HBH := Lib.hid bH
  have HBQ := Lib.hid bQ
  have HV0 := Lib.hid hv0
  have HVQ := Lib.hid hvq
  have HML := Lib.hid hhml
  have HMO := Lib.hid hhmo
  have hlw := bL.lt
  have how := bO.lt
  have hhw := bH.lt
  have hqw := bQ.lt
  rcases snoc_cases a with ha | ⟨a0, p, ha⟩
  · rw [ha] at bL
    have cl1 : w.cell? ⟨l, 1, none⟩ = some (.pointer none) := bL.cell 1
    have HBL := Lib.hid bL
    clear bL bO bH bQ hvo hv0 hvq hhml hhmo hH
    go_enter Try.func11, Try.ntmps11
    go_wp2_with fail
    go_region
    go_wp2_with fail
    go_region
    go_wp2_with fail
    go_ret
    refine ⟨rfl, FIN.out _ ?_ ?_ ?_ ?_ ?_ ?_ ?_⟩
    · repeat (first | (with_reducible exact Kept.refl _ _) | (with_reducible refine Kept.drew ?_) | (with_reducible refine Kept.alloc ?_ _) | (with_reducible refine Kept.setCell ?_ (fun _ => by first | exact .inl rfl | exact .inr (.inl rfl) | exact .inr (.inr (.inl HMO.out)) | exact .inr (.inr (.inr (.inr rfl))) | exact .inr (.inr (.inr (.inl (by rw [ha]; exact lst_snoc _ _ _))))) _))
    · exact (Blk.newAt _ _ _ (by simp [HH.out])).drew.drew
    · rw [← HMO.out, ← HML.out]; ((repeat' (first | (with_reducible apply Blk.cast HBH.out) | (with_reducible apply Blk.drewN) | (with_reducible apply Blk.drew) | (with_reducible apply Blk.alloc) | (with_reducible apply Blk.set') | (with_reducible apply Blk.other))); (repeat (any_goals rfl)); (all_goals first | omega | (simp; omega)))
    · have e0 : ptrO (hd (a ++ q :: b0) none) = .pointer (some ⟨q, 0, none⟩) := by rw [ha]; rfl
      have e1 : ptrO (lst none (a ++ q :: b0)) = .pointer (some ⟨lo, 0, none⟩) := by rw [lst_append]; have h9 := HLO.out; simp only [lst] at h9 ⊢; rw [h9]; rfl
      rw [e0, e1, ← HML.out]; ((repeat' (first | (with_reducible apply Blk.cast HBL.out) | (with_reducible apply Blk.drewN) | (with_reducible apply Blk.drew) | (with_reducible apply Blk.alloc) | (with_reducible apply Blk.set') | (with_reducible apply Blk.other))); (repeat (any_goals rfl)); (all_goals first | omega | (simp; omega)))
    · rw [HH.out]; ((repeat' (first | (with_reducible apply Blk.cast HBO.out) | (with_reducible apply Blk.drewN) | (with_reducible apply Blk.drew) | (with_reducible apply Blk.alloc) | (with_reducible apply Blk.set') | (with_reducible apply Blk.other))); (repeat (any_goals rfl)); (all_goals first | omega | (simp; omega)))
    · intro y hy; rw [ha] at hy; cases hy
    · have e2 : ptrO (lst none a) = vq := by rw [ha, HVQ.out, HQP.out]; rfl
      rw [e2]; ((repeat' (first | (with_reducible apply Blk.cast HBQ.out) | (with_reducible apply Blk.drewN) | (with_reducible apply Blk.drew) | (with_reducible apply Blk.alloc) | (with_reducible apply Blk.set') | (with_reducible apply Blk.other))); (repeat (any_goals rfl)); (all_goals first | omega | (simp; omega)))
  · have hp2 := HMA.out p (by rw [ha]; simp)
    have hpl : p ≠ l := by intro e; rw [e, hl] at hp2; cases hp2
    have hpo : p ≠ o := by intro e; rw [e, ho] at hp2; cases hp2
    have hpq : p ≠ q := by intro e; subst e; exact HDIS.out p (by rw [ha]; simp) (by simp)
    have hpH := HNH.out p (by omega)
    have hph : p ≠ hmo := by intro e; rw [e, HMO.out, ho3] at hp2; cases hp2
    have bP := HW.out.nodes p hp2
    obtain ⟨vn, hvn⟩ : ∃ v, v = ptrO (s.nd p).next := ⟨_, rfl⟩
    rw [← hvn] at bP
    have cp2 : w.cell? ⟨p, 2, none⟩ = some vn := bP.cell 2
    have fp2 := bP.free 2
    have hpw := bP.lt
    have HBP := Lib.hid bP
    clear bP hvn
    rw [ha, lst_snoc] at bL
    have cl1 : w.cell? ⟨l, 1, none⟩ = some (.pointer (some ⟨p, 0, none⟩)) := bL.cell 1
    have HBL := Lib.hid bL
    clear bL bO bH bQ hvo hv0 hvq hhml hhmo hH
    go_enter Try.func11, Try.ntmps11
    go_wp2_with fail
    go_region
    go_wp2_with fail
    go_region
    go_wp2_with fail
    go_region
    go_wp2_with fail
    go_ret
    refine ⟨rfl, FIN.out _ ?_ ?_ ?_ ?_ ?_ ?_ ?_⟩
    · repeat (first | (with_reducible exact Kept.refl _ _) | (with_reducible refine Kept.drew ?_) | (with_reducible refine Kept.alloc ?_ _) | (with_reducible refine Kept.setCell ?_ (fun _ => by first | exact .inl rfl | exact .inr (.inl rfl) | exact .inr (.inr (.inl HMO.out)) | exact .inr (.inr (.inr (.inr rfl))) | exact .inr (.inr (.inr (.inl (by rw [ha]; exact lst_snoc _ _ _))))) _))
    · exact (Blk.newAt _ _ _ (by simp [HH.out])).drew.drew.drew
    · rw [← HMO.out, ← HML.out]; ((repeat' (first | (with_reducible apply Blk.cast HBH.out) | (with_reducible apply Blk.drewN) | (with_reducible apply Blk.drew) | (with_reducible apply Blk.alloc) | (with_reducible apply Blk.set') | (with_reducible apply Blk.other))); (repeat (any_goals rfl)); (all_goals first | omega | (simp; omega)))
    · have e0 : ptrO (hd (a ++ q :: b0) none) = v0 := by rw [HV0.out, ha]; cases a0 <;> rfl
      have e1 : ptrO (lst none (a ++ q :: b0)) = .pointer (some ⟨lo, 0, none⟩) := by rw [lst_append]; have h9 := HLO.out; simp only [lst] at h9 ⊢; rw [h9]; rfl
      rw [e0, e1, ← HML.out]; ((repeat' (first | (with_reducible apply Blk.cast HBL.out) | (with_reducible apply Blk.drewN) | (with_reducible apply Blk.drew) | (with_reducible apply Blk.alloc) | (with_reducible apply Blk.set') | (with_reducible apply Blk.other))); (repeat (any_goals rfl)); (all_goals first | omega | (simp; omega)))
    · rw [HH.out]; ((repeat' (first | (with_reducible apply Blk.cast HBO.out) | (with_reducible apply Blk.drewN) | (with_reducible apply Blk.drew) | (with_reducible apply Blk.alloc) | (with_reducible apply Blk.set') | (with_reducible apply Blk.other))); (repeat (any_goals rfl)); (all_goals first | omega | (simp; omega)))
    · intro y hy; rw [ha, lst_snoc] at hy; cases hy; ((repeat' (first | (with_reducible apply Blk.cast HBP.out) | (with_reducible apply Blk.drewN) | (with_reducible apply Blk.drew) | (with_reducible apply Blk.alloc) | (with_reducible apply Blk.set') | (with_reducible apply Blk.other))); (repeat (any_goals rfl)); (all_goals first | omega | (simp; omega)))
    · rw [ha, lst_snoc]; ((repeat' (first | (with_reducible apply Blk.cast HBQ.out) | (with_reducible apply Blk.drewN) | (with_reducible apply Blk.drew) | (with_reducible apply Blk.alloc) | (with_reducible apply Blk.set') | (with_reducible apply Blk.other))); (repeat (any_goals rfl)); (all_goals first | omega | (simp; omega)))


theorem sizeList_s : (Try.prog.info? 77).map (fun i => i.size) = some (3 + 1) := by kernel_rfl
theorem lsplice_zero_s (s : LS) (w : World) (h : LW_s s w) (l o : Nat) (hl : s.kd l = 1) (ho : s.kd o = 1) (hlo : l ≠ o) (h0 : s.sq o = []) :
    Calls Try.prog 27 #[.pointer (some ⟨l, 0, none⟩), .pointer (some ⟨o, 0, none⟩)] w fun e w' => e = .returned (.int .i64 0) ∧ w = w' := by
  have bO := h.lists o ho
  rw [h0] at bO
  have co2 : w.cell? ⟨o, 2, none⟩ = some (.int .i64 0) := bO.cell 2
  have heq := eq_ptr Try.underlying60 sizeList_s (h.lists o ho) (h.lists l hl)
  rw [show decide (o = l) = false by simp; exact Ne.symm hlo] at heq
  clear bO h h0
  go_enter Try.func27, Try.ntmps27
  go_wp2_with fail
  go_ret
  exact ⟨rfl, rfl⟩
theorem lsplice_self_s (s : LS) (w : World) (h : LW_s s w) (l : Nat) (hl : s.kd l = 1) :
    Calls Try.prog 27 #[.pointer (some ⟨l, 0, none⟩), .pointer (some ⟨l, 0, none⟩)] w fun e w' => e = .returned (.int .i64 1) ∧ w = w' := by
  have heq := eq_ptr Try.underlying60 sizeList_s (h.lists l hl) (h.lists l hl)
  rw [show decide (l = l) = true by simp] at heq
  clear h
  go_enter Try.func27, Try.ntmps27
  go_wp2_with fail
  go_ret
  exact ⟨rfl, rfl⟩
set_option maxHeartbeats 2000000 in
theorem lsplice_s (s : LS) (w : World) (h : LW_s s w) (l o : Nat) (hl : s.kd l = 1) (ho : s.kd o = 1) (hlo : l ≠ o) (hne : s.sq o ≠ []) (hbig : (s.sq l).length + (s.sq o).length < 9223372036854775807) :
    Calls Try.prog 27 #[.pointer (some ⟨l, 0, none⟩), .pointer (some ⟨o, 0, none⟩)] w fun e w' => e = .returned (.int .i64 0) ∧ LW_s (s.splice l o w.heap.size) w' ∧ Kept (fun y => s.kd y = 1 ∨ s.kd y = 2 ∨ s.kd y = 3) w w' := by
  have f0 := h.fresh w.heap.size (Nat.le_refl _)
  have hinv := h.inv.splice hl ho hlo f0
  obtain ⟨hl3, hl0⟩ := h.inv.hmk l hl
  obtain ⟨ho3, ho0⟩ := h.inv.hmk o ho
  have heq := eq_ptr Try.underlying60 sizeList_s (h.lists o ho) (h.lists l hl)
  rw [show decide (o = l) = false by simp; exact Ne.symm hlo] at heq
  have hma : ∀ y, y ∈ s.sq l → s.kd y = 2 := fun y hy => (h.inv.mem l y hl hy).1
  have hmb : ∀ y, y ∈ s.sq o → s.kd y = 2 := fun y hy => (h.inv.mem o y ho hy).1
  have hdis : ∀ y, y ∈ s.sq l → y ∉ s.sq o := fun y h1 h2 => hlo (h.inv.one hl ho h1 h2)
  obtain ⟨q, b0, hb⟩ : ∃ q b0, s.sq o = q :: b0 := by
    cases hh : s.sq o with
    | nil => exact absurd hh hne
    | cons q b0 => exact ⟨q, b0, rfl⟩
  have hqp : (s.nd q).prev = none := by have h9 := h.inv.lnk o ho; rw [hb] at h9; exact h9.1
  have HQP := Lib.hid hqp
  clear hqp
  obtain ⟨a, haa⟩ : ∃ a, a = s.sq l := ⟨_, rfl⟩
  have bL := h.lists l hl
  have bO := h.lists o ho
  have bH := h.homes (s.hm o) ho3
  rw [ho0] at bH
  rw [← haa] at bL hma hdis hbig
  rw [hb] at bO hmb hdis hbig
  obtain ⟨n, hn⟩ : ∃ n, n = a.length := ⟨_, rfl⟩
  obtain ⟨m, hm⟩ : ∃ m, m = (q :: b0).length := ⟨_, rfl⟩
  have hmp : 0 < m := by rw [hm]; simp
  rw [← hn] at bL hbig
  rw [← hm] at bO hbig
  have hq2 := hmb q (by simp)
  have bQ := h.nodes q hq2
  obtain ⟨H, hH⟩ : ∃ H, H = w.heap.size := ⟨_, rfl⟩
  rw [← hH] at f0 hinv ⊢
  have nd : ∀ y, (s.splice l o H).nd y = if lst none a = some y then { s.nd y with next := some q } else if some q = some y then { s.nd y with prev := lst none a } else s.nd y := fun y => by
    show joinNd _ _ _ y = _
    unfold joinNd; rw [← haa, hb]; rfl
  have sql : (s.splice l o H).sq l = a ++ q :: b0 := by show upd (upd s.sq l _) o [] l = _; rw [upd_ne _ _ hlo, upd_same, ← haa, hb]
  have sqo : (s.splice l o H).sq o = [] := by show upd (upd s.sq l _) o [] o = _; rw [upd_same]
  have hhmo : (s.splice l o H).hm o = H := upd_same _ _ _
  have hhml : (s.splice l o H).hm l = s.hm l := upd_ne _ _ hlo
  have hnH : ∀ y, s.kd y ≠ 0 → y ≠ H := fun y hy e => hy (by rw [e]; exact f0)
  have fin : ∀ (w' : World), Kept (fun y => y = l ∨ y = o ∨ y = s.hm o ∨ lst none a = some y ∨ y = q) w w' →
      Blk w' H #[.pointer none] 69 → Blk w' (s.hm o) #[.pointer (some ⟨s.hm l, 0, none⟩)] 69 →
      Blk w' l #[ptrO (hd (a ++ q :: b0) none), ptrO (lst none (a ++ q :: b0)), .int .i64 ((n : Int) + m), .pointer (some ⟨s.hm l, 0, none⟩)] 77 →
      Blk w' o #[.pointer none, .pointer none, .int .i64 0, .pointer (some ⟨H, 0, none⟩)] 77 →
      (∀ y, lst none a = some y → Blk w' y #[(s.nd y).val, ptrO (s.nd y).prev, .pointer (some ⟨q, 0, none⟩), ptrO (s.nd y).home] 79) →
      Blk w' q #[(s.nd q).val, ptrO (lst none a), ptrO (s.nd q).next, ptrO (s.nd q).home] 79 →
      LW_s (s.splice l o H) w' ∧ Kept (fun y => s.kd y = 1 ∨ s.kd y = 2 ∨ s.kd y = 3) w w' := fun w' k bH' bh bl bo bp bq => by
    have hS : ∀ y, (y = l ∨ y = o ∨ y = s.hm o ∨ lst none a = some y ∨ y = q) → s.kd y = 1 ∨ s.kd y = 2 ∨ s.kd y = 3 := by
      rintro y (rfl | rfl | rfl | h1 | rfl)
      · exact .inl hl
      · exact .inl ho
      · exact .inr (.inr ho3)
      · exact .inr (.inl (hma y (lst_mem h1)))
      · exact .inr (.inl hq2)
    have kd : ∀ y, (s.splice l o H).kd y = if y = H then 3 else s.kd y := fun y => rfl
    have hqa : lst none a ≠ some q := fun e => hdis q (lst_mem e) (by simp)
    refine ⟨⟨hinv, fun y hy => ?_, fun y hy => ?_, fun y hy => ?_, fun y hy => ?_⟩, k.mono (fun y _ hy => hS y hy)⟩
    · show Blk w' y #[ptrO (upd (upd s.to (s.hm o) (some (s.hm l))) H none y)] _
      rw [kd] at hy
      by_cases e : y = H
      · rw [e, upd_same]; exact bH'
      · rw [if_neg e] at hy
        rw [upd_ne _ _ e]
        by_cases e2 : y = s.hm o
        · rw [e2, upd_same]; exact bh
        · rw [upd_ne _ _ e2]
          refine (h.homes y hy).kept k ?_
          rintro (h1 | h1 | h1 | h1 | h1)
          · rw [h1, hl] at hy; cases hy
          · rw [h1, ho] at hy; cases hy
          · exact e2 h1
          · rw [hma y (lst_mem h1)] at hy; cases hy
          · rw [h1, hq2] at hy; cases hy
    · rw [kd] at hy
      by_cases e : y = H
      · rw [if_pos e] at hy; cases hy
      · rw [if_neg e] at hy
        rw [nd]
        by_cases e2 : lst none a = some y
        · rw [if_pos e2]; exact bp y e2
        · rw [if_neg e2]
          by_cases e3 : y = q
          · subst e3; rw [if_pos rfl]; exact bq
          · rw [if_neg (fun h => e3 (by cases h; rfl))]
            refine (h.nodes y hy).kept k ?_
            rintro (h1 | h1 | h1 | h1 | h1)
            · rw [h1, hl] at hy; cases hy
            · rw [h1, ho] at hy; cases hy
            · rw [h1, ho3] at hy; cases hy
            · exact e2 h1
            · exact e3 h1
    · rw [kd] at hy
      by_cases e : y = H
      · rw [if_pos e] at hy; cases hy
      · rw [if_neg e] at hy
        by_cases e2 : y = l
        · subst e2
          rw [sql, hhml]
          refine bl.cast ?_
          simp only [List.length_append, ← hm, ← hn]
          rfl
        · by_cases e3 : y = o
          · subst e3; rw [sqo, hhmo]; exact bo
          · have q1 : (s.splice l o H).sq y = s.sq y := by show upd (upd s.sq l _) o [] y = _; rw [upd_ne _ _ e3, upd_ne _ _ e2]
            have q2 : (s.splice l o H).hm y = s.hm y := upd_ne _ _ e3
            rw [q1, q2]
            refine (h.lists y hy).kept k ?_
            rintro (h1 | h1 | h1 | h1 | h1)
            · exact e2 h1
            · exact e3 h1
            · rw [h1, ho3] at hy; cases hy
            · rw [hma y (lst_mem h1)] at hy; cases hy
            · rw [h1, hq2] at hy; cases hy
    · have hlt := bH'.lt
      rw [kd, if_neg (by omega)]
      exact h.fresh y (Nat.le_trans k.size hy)
  have FIN := Lib.hid fin
  have HW := Lib.hid h
  have HMA := Lib.hid hma
  have HDIS := Lib.hid hdis
  have HNH := Lib.hid hnH
  have HA := Lib.hid haa
  have hHl := (hnH l (by omega))
  have hHo := (hnH o (by omega))
  have hHh := (hnH (s.hm o) (by omega))
  have hHq := (hnH q (by omega))
  have hlh : l ≠ s.hm o := by intro e; rw [e, ho3] at hl; cases hl
  have hoh : o ≠ s.hm o := by intro e; rw [← e, ho] at ho3; cases ho3
  have hqh : q ≠ s.hm o := by intro e; rw [e, ho3] at hq2; cases hq2
  have hql : q ≠ l := by intro e; rw [e, hl] at hq2; cases hq2
  have hqo : q ≠ o := by intro e; rw [e, ho] at hq2; cases hq2
  clear fin h hma hmb hdis hnH haa hb hn hm nd sql sqo hhmo hhml hinv hne hl0 ho0 f0
  have HH := Lib.hid hH
  obtain ⟨hml, hhml⟩ : ∃ x, x = s.hm l := ⟨_, rfl⟩
  obtain ⟨hmo, hhmo⟩ : ∃ x, x = s.hm o := ⟨_, rfl⟩
  rw [← hhml] at bL
  rw [← hhmo] at bO bH hHh hlh hoh hqh
  have cl3 : w.cell? ⟨l, 3, none⟩ = some (.pointer (some ⟨hml, 0, none⟩)) := bL.cell 3
  have co3 : w.cell? ⟨o, 3, none⟩ = some (.pointer (some ⟨hmo, 0, none⟩)) := bO.cell 3
  have co2 : w.cell? ⟨o, 2, none⟩ = some (.int .i64 m) := bO.cell 2
  have cl2 : w.cell? ⟨l, 2, none⟩ = some (.int .i64 n) := bL.cell 2
  have co0 : w.cell? ⟨o, 0, none⟩ = some (.pointer (some ⟨q, 0, none⟩)) := bO.cell 0
  obtain ⟨lo, hvo⟩ : ∃ lo, lst none (q :: b0) = some lo := by
    rcases snoc_cases b0 with h | ⟨c, z, h⟩
    · rw [h]; exact ⟨q, rfl⟩
    · rw [h, ← List.cons_append, lst_snoc]; exact ⟨z, rfl⟩
  rw [hvo] at bO
  have co1 : w.cell? ⟨o, 1, none⟩ = some (.pointer (some ⟨lo, 0, none⟩)) := bO.cell 1
  obtain ⟨v0, hv0⟩ : ∃ v, v = ptrO (hd a none) := ⟨_, rfl⟩
  rw [← hv0] at bL
  have cl0 : w.cell? ⟨l, 0, none⟩ = some v0 := bL.cell 0
  have ch0 : w.cell? ⟨hmo, 0, none⟩ = some (.pointer none) := bH.cell 0
  obtain ⟨vq, hvq⟩ : ∃ v, v = ptrO (s.nd q).prev := ⟨_, rfl⟩
  rw [← hvq] at bQ
  have cq1 : w.cell? ⟨q, 1, none⟩ = some vq := bQ.cell 1
  have fl0 := bL.free 0
  have fl1 := bL.free 1
  have fl2 := bL.free 2
  have fo0 := bO.free 0
  have fo1 := bO.free 1
  have fo2 := bO.free 2
  have fo3 := bO.free 3
  have fh0 := bH.free 0
  have fq1 := bQ.free 1
  have HLO := Lib.hid hvo
  have HBO := Lib.hid bO
  have HBH := Lib.hid bH
  have HBQ := Lib.hid bQ
  have HV0 := Lib.hid hv0
  have HVQ := Lib.hid hvq
  have HML := Lib.hid hhml
  have HMO := Lib.hid hhmo
  have hlw := bL.lt
  have how := bO.lt
  have hhw := bH.lt
  have hqw := bQ.lt
  rcases snoc_cases a with ha | ⟨a0, p, ha⟩
  · rw [ha] at bL
    have cl1 : w.cell? ⟨l, 1, none⟩ = some (.pointer none) := bL.cell 1
    have HBL := Lib.hid bL
    clear bL bO bH bQ hvo hv0 hvq hhml hhmo hH
    go_enter Try.func27, Try.ntmps27
    go_wp2_with fail
    go_region
    go_wp2_with fail
    go_region
    go_wp2_with fail
    go_ret
    refine ⟨rfl, FIN.out _ ?_ ?_ ?_ ?_ ?_ ?_ ?_⟩
    · repeat (first | (with_reducible exact Kept.refl _ _) | (with_reducible refine Kept.drew ?_) | (with_reducible refine Kept.alloc ?_ _) | (with_reducible refine Kept.setCell ?_ (fun _ => by first | exact .inl rfl | exact .inr (.inl rfl) | exact .inr (.inr (.inl HMO.out)) | exact .inr (.inr (.inr (.inr rfl))) | exact .inr (.inr (.inr (.inl (by rw [ha]; exact lst_snoc _ _ _))))) _))
    · exact (Blk.newAt _ _ _ (by simp [HH.out])).drew.drew
    · rw [← HMO.out, ← HML.out]; ((repeat' (first | (with_reducible apply Blk.cast HBH.out) | (with_reducible apply Blk.drewN) | (with_reducible apply Blk.drew) | (with_reducible apply Blk.alloc) | (with_reducible apply Blk.set') | (with_reducible apply Blk.other))); (repeat (any_goals rfl)); (all_goals first | omega | (simp; omega)))
    · have e0 : ptrO (hd (a ++ q :: b0) none) = .pointer (some ⟨q, 0, none⟩) := by rw [ha]; rfl
      have e1 : ptrO (lst none (a ++ q :: b0)) = .pointer (some ⟨lo, 0, none⟩) := by rw [lst_append]; have h9 := HLO.out; simp only [lst] at h9 ⊢; rw [h9]; rfl
      rw [e0, e1, ← HML.out]; ((repeat' (first | (with_reducible apply Blk.cast HBL.out) | (with_reducible apply Blk.drewN) | (with_reducible apply Blk.drew) | (with_reducible apply Blk.alloc) | (with_reducible apply Blk.set') | (with_reducible apply Blk.other))); (repeat (any_goals rfl)); (all_goals first | omega | (simp; omega)))
    · rw [HH.out]; ((repeat' (first | (with_reducible apply Blk.cast HBO.out) | (with_reducible apply Blk.drewN) | (with_reducible apply Blk.drew) | (with_reducible apply Blk.alloc) | (with_reducible apply Blk.set') | (with_reducible apply Blk.other))); (repeat (any_goals rfl)); (all_goals first | omega | (simp; omega)))
    · intro y hy; rw [ha] at hy; cases hy
    · have e2 : ptrO (lst none a) = vq := by rw [ha, HVQ.out, HQP.out]; rfl
      rw [e2]; ((repeat' (first | (with_reducible apply Blk.cast HBQ.out) | (with_reducible apply Blk.drewN) | (with_reducible apply Blk.drew) | (with_reducible apply Blk.alloc) | (with_reducible apply Blk.set') | (with_reducible apply Blk.other))); (repeat (any_goals rfl)); (all_goals first | omega | (simp; omega)))
  · have hp2 := HMA.out p (by rw [ha]; simp)
    have hpl : p ≠ l := by intro e; rw [e, hl] at hp2; cases hp2
    have hpo : p ≠ o := by intro e; rw [e, ho] at hp2; cases hp2
    have hpq : p ≠ q := by intro e; subst e; exact HDIS.out p (by rw [ha]; simp) (by simp)
    have hpH := HNH.out p (by omega)
    have hph : p ≠ hmo := by intro e; rw [e, HMO.out, ho3] at hp2; cases hp2
    have bP := HW.out.nodes p hp2
    obtain ⟨vn, hvn⟩ : ∃ v, v = ptrO (s.nd p).next := ⟨_, rfl⟩
    rw [← hvn] at bP
    have cp2 : w.cell? ⟨p, 2, none⟩ = some vn := bP.cell 2
    have fp2 := bP.free 2
    have hpw := bP.lt
    have HBP := Lib.hid bP
    clear bP hvn
    rw [ha, lst_snoc] at bL
    have cl1 : w.cell? ⟨l, 1, none⟩ = some (.pointer (some ⟨p, 0, none⟩)) := bL.cell 1
    have HBL := Lib.hid bL
    clear bL bO bH bQ hvo hv0 hvq hhml hhmo hH
    go_enter Try.func27, Try.ntmps27
    go_wp2_with fail
    go_region
    go_wp2_with fail
    go_region
    go_wp2_with fail
    go_region
    go_wp2_with fail
    go_ret
    refine ⟨rfl, FIN.out _ ?_ ?_ ?_ ?_ ?_ ?_ ?_⟩
    · repeat (first | (with_reducible exact Kept.refl _ _) | (with_reducible refine Kept.drew ?_) | (with_reducible refine Kept.alloc ?_ _) | (with_reducible refine Kept.setCell ?_ (fun _ => by first | exact .inl rfl | exact .inr (.inl rfl) | exact .inr (.inr (.inl HMO.out)) | exact .inr (.inr (.inr (.inr rfl))) | exact .inr (.inr (.inr (.inl (by rw [ha]; exact lst_snoc _ _ _))))) _))
    · exact (Blk.newAt _ _ _ (by simp [HH.out])).drew.drew.drew
    · rw [← HMO.out, ← HML.out]; ((repeat' (first | (with_reducible apply Blk.cast HBH.out) | (with_reducible apply Blk.drewN) | (with_reducible apply Blk.drew) | (with_reducible apply Blk.alloc) | (with_reducible apply Blk.set') | (with_reducible apply Blk.other))); (repeat (any_goals rfl)); (all_goals first | omega | (simp; omega)))
    · have e0 : ptrO (hd (a ++ q :: b0) none) = v0 := by rw [HV0.out, ha]; cases a0 <;> rfl
      have e1 : ptrO (lst none (a ++ q :: b0)) = .pointer (some ⟨lo, 0, none⟩) := by rw [lst_append]; have h9 := HLO.out; simp only [lst] at h9 ⊢; rw [h9]; rfl
      rw [e0, e1, ← HML.out]; ((repeat' (first | (with_reducible apply Blk.cast HBL.out) | (with_reducible apply Blk.drewN) | (with_reducible apply Blk.drew) | (with_reducible apply Blk.alloc) | (with_reducible apply Blk.set') | (with_reducible apply Blk.other))); (repeat (any_goals rfl)); (all_goals first | omega | (simp; omega)))
    · rw [HH.out]; ((repeat' (first | (with_reducible apply Blk.cast HBO.out) | (with_reducible apply Blk.drewN) | (with_reducible apply Blk.drew) | (with_reducible apply Blk.alloc) | (with_reducible apply Blk.set') | (with_reducible apply Blk.other))); (repeat (any_goals rfl)); (all_goals first | omega | (simp; omega)))
    · intro y hy; rw [ha, lst_snoc] at hy; cases hy; ((repeat' (first | (with_reducible apply Blk.cast HBP.out) | (with_reducible apply Blk.drewN) | (with_reducible apply Blk.drew) | (with_reducible apply Blk.alloc) | (with_reducible apply Blk.set') | (with_reducible apply Blk.other))); (repeat (any_goals rfl)); (all_goals first | omega | (simp; omega)))
    · rw [ha, lst_snoc]; ((repeat' (first | (with_reducible apply Blk.cast HBQ.out) | (with_reducible apply Blk.drewN) | (with_reducible apply Blk.drew) | (with_reducible apply Blk.alloc) | (with_reducible apply Blk.set') | (with_reducible apply Blk.other))); (repeat (any_goals rfl)); (all_goals first | omega | (simp; omega)))

end Go.Proofs.Ytdpcgemmbpbpoaa
