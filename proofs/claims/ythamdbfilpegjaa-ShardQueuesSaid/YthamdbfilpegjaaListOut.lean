/-
  What stands here: a node is taken out of a list. Under no condition but that the world holds it.
-/
import Derived.Test.YthamdbfilpegjaaListMem
namespace Go.Proofs.Ythamdbfilpegjaa
set_option linter.unusedVariables false
set_option linter.unusedSimpArgs false
open Go.RowKit Go.Proofs

set_option maxHeartbeats 2000000 in
theorem lunlink_t (s : LS) (w : World) (h : LW_t s w) (l x : Nat) (hl : s.kd l = 1) (hx : s.kd x = 2) (hm : x ∈ s.sq l) (hbig : (s.sq l).length < 9223372036854775807) :
    Calls Try.prog 63 #[.pointer (some ⟨l, 0, none⟩), .pointer (some ⟨x, 0, none⟩)] w fun e w' => e = .returned (.int .i64 0) ∧ LW_t (s.out l x) w' ∧ Kept (fun y => s.kd y = 1 ∨ s.kd y = 2) w w' := by
  have hh := lhas_t s w h l x hl hx
  rw [show decide (x ∈ s.sq l) = true by simpa using hm] at hh
  obtain ⟨a, b, h0, hxa, hxb, hab, her, hna, hnb⟩ := split_at hm (h.inv.nodup l hl)
  obtain ⟨hp, hn⟩ := h.inv.ends hl h0
  have hmem : ∀ y, y ∈ a ∨ y ∈ b → s.kd y = 2 ∧ y ≠ x := fun y hy => by
    refine ⟨(h.inv.mem l y hl (by rw [h0]; simp only [List.mem_append, List.mem_cons]; rcases hy with h | h; exact .inl h; exact .inr (.inr h))).1, ?_⟩
    rintro rfl
    rcases hy with h | h
    · exact hxa h
    · exact hxb h
  have hinv := h.inv.out hl hm
  have hlen : ((s.sq l).length : Int) - 1 = ((a ++ b).length : Int) := by rw [h0]; simp; omega
  have hsq : (s.out l x).sq l = a ++ b := by show upd s.sq l _ l = _; rw [upd_same, her]
  have nd : ∀ y, (s.out l x).nd y = if y = x then { s.nd x with prev := none, next := none, home := none } else if lst none a = some y then { s.nd y with next := hd b none } else if hd b none = some y then { s.nd y with prev := lst none a } else s.nd y := fun y => by
    show outNd s.nd x y = _
    unfold outNd; rw [hp, hn]
  have hxl : x ≠ l := by intro e; rw [e, hl] at hx; cases hx
  obtain ⟨n, hn0⟩ : ∃ n, n = (s.sq l).length := ⟨_, rfl⟩
  rw [← hn0] at hbig hlen
  have HN := Lib.hid hn0
  have HLEN := Lib.hid hlen
  have HSQ := Lib.hid hsq
  have HND := Lib.hid nd
  have HI := Lib.hid hinv
  have HH := Lib.hid hh
  have HW := Lib.hid h
  have HM := Lib.hid hmem
  have HAB := Lib.hid hab
  have H0 := Lib.hid h0
  have HP := Lib.hid hp
  have HNX := Lib.hid hn
  clear hn0 hlen hsq nd hinv hh hmem hab h0 hp hn her h hm hxa hxb hna hnb
  have fin : ∀ (w1 w' : World), Still w w1 → Kept (fun y => y = x ∨ y = l ∨ lst none a = some y ∨ hd b none = some y) w1 w' →
      Blk w' x #[(s.nd x).val, .pointer none, .pointer none, .pointer none] 114 →
      Blk w' l #[ptrO (hd (a ++ b) none), ptrO (lst none (a ++ b)), .int .i64 ((n : Int) - 1), .pointer (some ⟨s.hm l, 0, none⟩)] 122 →
      (∀ y, lst none a = some y → Blk w' y #[(s.nd y).val, ptrO (s.nd y).prev, ptrO (hd b none), ptrO (s.nd y).home] 114) →
      (∀ y, hd b none = some y → Blk w' y #[(s.nd y).val, ptrO (lst none a), ptrO (s.nd y).next, ptrO (s.nd y).home] 114) →
      LW_t (s.out l x) w' ∧ Kept (fun y => s.kd y = 1 ∨ s.kd y = 2) w w' := fun w1 w' k0 k bx bl bp bq => by
    have hS : ∀ y, (y = x ∨ y = l ∨ lst none a = some y ∨ hd b none = some y) → s.kd y = 1 ∨ s.kd y = 2 := by
      rintro y (rfl | rfl | h1 | h1)
      · exact .inr hx
      · exact .inl hl
      · exact .inr (HM.out y (.inl (lst_mem h1))).1
      · exact .inr (HM.out y (.inr (hd_mem h1))).1
    refine ⟨(HW.out.still k0).turn HI.out rfl rfl k (fun y hy => by have := hS y hy; omega) (fun y hy => ?_) (fun y hy => ?_), k0.then (k.mono (fun y _ hy => hS y hy))⟩
    · rw [HND.out]
      by_cases e : y = x
      · subst e; right; rw [if_pos rfl]; exact bx
      · rw [if_neg e]
        by_cases e2 : lst none a = some y
        · right; rw [if_pos e2]; exact bp y e2
        · rw [if_neg e2]
          by_cases e3 : hd b none = some y
          · right; rw [if_pos e3]; exact bq y e3
          · left; rw [if_neg e3]
            exact ⟨(by rintro (h1 | h1 | h1 | h1); exact e h1; (rw [h1, hl] at hy; cases hy); exact e2 h1; exact e3 h1), rfl⟩
    · by_cases e : y = l
      · subst e; right; rw [HSQ.out, ← HLEN.out]; exact bl
      · left
        refine ⟨?_, upd_ne _ _ e, rfl⟩
        rintro (h1 | h1 | h1 | h1)
        · rw [h1, hx] at hy; cases hy
        · exact e h1
        · rw [(HM.out y (.inl (lst_mem h1))).1] at hy; cases hy
        · rw [(HM.out y (.inr (hd_mem h1))).1] at hy; cases hy
  have FIN := Lib.hid fin
  clear fin
  have hcb : b = [] ∨ ∃ q b0, b = q :: b0 := by cases b with | nil => exact .inl rfl | cons q b0 => exact .inr ⟨q, b0, rfl⟩
  rcases snoc_cases a with ha | ⟨a0, p, ha⟩ <;> rcases hcb with hb | ⟨q, b0, hb⟩
  · obtain ⟨vp, hvp⟩ : ∃ v, v = ptrO (s.nd x).home := ⟨_, rfl⟩
    have hpv : (s.nd x).prev = none := HP.out.trans (by rw [ha]; rfl)
    have hnv : (s.nd x).next = none := HNX.out.trans (by rw [hb]; rfl)
    go_enter Try.func63, Try.ntmps63
    go_wp2_with fail
    refine HH.out.mono ?_
    rintro e w1 ⟨rfl, k1⟩
    have h1 := HW.out.still k1
    have bX := h1.nodes x hx
    have bL := h1.lists l hl
    rw [hpv, hnv, ← hvp] at bX
    rw [← HN.out] at bL
    have cx1 : w1.cell? ⟨x, 1, none⟩ = some (.pointer none) := bX.cell 1
    have cx2 : w1.cell? ⟨x, 2, none⟩ = some (.pointer none) := bX.cell 2
    have cx3 : w1.cell? ⟨x, 3, none⟩ = some vp := bX.cell 3
    have fx1 := bX.free 1
    have fx2 := bX.free 2
    have fx3 := bX.free 3
    have fl0 := bL.free 0
    have fl1 := bL.free 1
    have fl2 := bL.free 2
    obtain ⟨v0, hv0⟩ : ∃ v, v = ptrO (hd (s.sq l) none) := ⟨_, rfl⟩
    obtain ⟨v1, hv1⟩ : ∃ v, v = ptrO (lst none (s.sq l)) := ⟨_, rfl⟩
    rw [← hv0, ← hv1] at bL
    have cl0 : w1.cell? ⟨l, 0, none⟩ = some v0 := bL.cell 0
    have cl1 : w1.cell? ⟨l, 1, none⟩ = some v1 := bL.cell 1
    have cl2 : w1.cell? ⟨l, 2, none⟩ = some (.int .i64 n) := bL.cell 2
    have HBX := Lib.hid bX
    have HBL := Lib.hid bL
    have HV0 := Lib.hid hv0
    have HV1 := Lib.hid hv1
    clear bX bL hpv hnv h1 hvp hv0 hv1
    go_wp2_with fail
    go_ret
    refine ⟨rfl, FIN.out w1 _ k1 ?_ ?_ ?_ ?_ ?_⟩
    · repeat (first | (with_reducible exact Kept.refl _ _) | (with_reducible refine Kept.drewN ?_ _) | (with_reducible refine Kept.drew ?_) | (with_reducible refine Kept.setCell ?_ (fun _ => by rw [ha, hb]; simp [lst_snoc, lst, hd]) _))
    · ((repeat' (first | (with_reducible apply Blk.cast HBX.out) | (with_reducible apply Blk.drewN) | (with_reducible apply Blk.drew) | (with_reducible apply Blk.alloc) | (with_reducible apply Blk.set') | (with_reducible apply Blk.other))); (repeat (any_goals rfl)); (all_goals first | omega | (simp; omega)))
    · have e0 : ptrO (hd (a ++ b) none) = .pointer none := by rw [ha, hb]; rfl
      have e1 : ptrO (lst none (a ++ b)) = .pointer none := by rw [hb, List.append_nil, ha]; rfl
      rw [e0, e1]; ((repeat' (first | (with_reducible apply Blk.cast HBL.out) | (with_reducible apply Blk.drewN) | (with_reducible apply Blk.drew) | (with_reducible apply Blk.alloc) | (with_reducible apply Blk.set') | (with_reducible apply Blk.other))); (repeat (any_goals rfl)); (all_goals first | omega | (simp; omega)))
    · intro y hy; rw [ha] at hy; cases hy
    · intro y hy; rw [hb] at hy; cases hy
  · obtain ⟨vp, hvp⟩ : ∃ v, v = ptrO (s.nd x).home := ⟨_, rfl⟩
    have hpv : (s.nd x).prev = none := HP.out.trans (by rw [ha]; rfl)
    have hnv : (s.nd x).next = some q := HNX.out.trans (by rw [hb]; rfl)
    obtain ⟨hq2, hqx⟩ := HM.out q (.inr (by rw [hb]; simp))
    have hql : q ≠ l := by intro e; rw [e, hl] at hq2; cases hq2
    go_enter Try.func63, Try.ntmps63
    go_wp2_with fail
    refine HH.out.mono ?_
    rintro e w1 ⟨rfl, k1⟩
    have h1 := HW.out.still k1
    have bX := h1.nodes x hx
    have bL := h1.lists l hl
    rw [hpv, hnv, ← hvp] at bX
    rw [← HN.out] at bL
    have cx1 : w1.cell? ⟨x, 1, none⟩ = some (.pointer none) := bX.cell 1
    have cx2 : w1.cell? ⟨x, 2, none⟩ = some (.pointer (some ⟨q, 0, none⟩)) := bX.cell 2
    have cx3 : w1.cell? ⟨x, 3, none⟩ = some vp := bX.cell 3
    have fx1 := bX.free 1
    have fx2 := bX.free 2
    have fx3 := bX.free 3
    have fl0 := bL.free 0
    have fl1 := bL.free 1
    have fl2 := bL.free 2
    obtain ⟨v0, hv0⟩ : ∃ v, v = ptrO (hd (s.sq l) none) := ⟨_, rfl⟩
    obtain ⟨v1, hv1⟩ : ∃ v, v = ptrO (lst none (s.sq l)) := ⟨_, rfl⟩
    rw [← hv0, ← hv1] at bL
    have cl0 : w1.cell? ⟨l, 0, none⟩ = some v0 := bL.cell 0
    have cl1 : w1.cell? ⟨l, 1, none⟩ = some v1 := bL.cell 1
    have cl2 : w1.cell? ⟨l, 2, none⟩ = some (.int .i64 n) := bL.cell 2
    have bQ := h1.nodes q hq2
    obtain ⟨vq, hvq⟩ : ∃ v, v = ptrO (s.nd q).prev := ⟨_, rfl⟩
    rw [← hvq] at bQ
    have cq1 : w1.cell? ⟨q, 1, none⟩ = some vq := bQ.cell 1
    have fq1 := bQ.free 1
    have HBQ := Lib.hid bQ
    clear bQ hvq
    have HBX := Lib.hid bX
    have HBL := Lib.hid bL
    have HV0 := Lib.hid hv0
    have HV1 := Lib.hid hv1
    clear bX bL hpv hnv h1 hvp hv0 hv1
    go_wp2_with fail
    go_region
    go_wp2_with fail
    go_ret
    refine ⟨rfl, FIN.out w1 _ k1 ?_ ?_ ?_ ?_ ?_⟩
    · repeat (first | (with_reducible exact Kept.refl _ _) | (with_reducible refine Kept.drewN ?_ _) | (with_reducible refine Kept.drew ?_) | (with_reducible refine Kept.setCell ?_ (fun _ => by rw [ha, hb]; simp [lst_snoc, lst, hd]) _))
    · ((repeat' (first | (with_reducible apply Blk.cast HBX.out) | (with_reducible apply Blk.drewN) | (with_reducible apply Blk.drew) | (with_reducible apply Blk.alloc) | (with_reducible apply Blk.set') | (with_reducible apply Blk.other))); (repeat (any_goals rfl)); (all_goals first | omega | (simp; omega)))
    · have e0 : ptrO (hd (a ++ b) none) = .pointer (some ⟨q, 0, none⟩) := by rw [ha, hb]; rfl
      have e1 : ptrO (lst none (a ++ b)) = v1 := by rw [HV1.out, H0.out, hb]; simp [lst_append, lst]
      rw [e0, e1]; ((repeat' (first | (with_reducible apply Blk.cast HBL.out) | (with_reducible apply Blk.drewN) | (with_reducible apply Blk.drew) | (with_reducible apply Blk.alloc) | (with_reducible apply Blk.set') | (with_reducible apply Blk.other))); (repeat (any_goals rfl)); (all_goals first | omega | (simp; omega)))
    · intro y hy; rw [ha] at hy; cases hy
    · intro y hy; rw [hb] at hy; cases hy; rw [ha]; ((repeat' (first | (with_reducible apply Blk.cast HBQ.out) | (with_reducible apply Blk.drewN) | (with_reducible apply Blk.drew) | (with_reducible apply Blk.alloc) | (with_reducible apply Blk.set') | (with_reducible apply Blk.other))); (repeat (any_goals rfl)); (all_goals first | omega | (simp; omega)))
  · obtain ⟨vp, hvp⟩ : ∃ v, v = ptrO (s.nd x).home := ⟨_, rfl⟩
    have hpv : (s.nd x).prev = some p := HP.out.trans (by rw [ha]; exact lst_snoc _ _ _)
    have hnv : (s.nd x).next = none := HNX.out.trans (by rw [hb]; rfl)
    obtain ⟨hp2, hpx⟩ := HM.out p (.inl (by rw [ha]; simp))
    have hpl : p ≠ l := by intro e; rw [e, hl] at hp2; cases hp2
    go_enter Try.func63, Try.ntmps63
    go_wp2_with fail
    refine HH.out.mono ?_
    rintro e w1 ⟨rfl, k1⟩
    have h1 := HW.out.still k1
    have bX := h1.nodes x hx
    have bL := h1.lists l hl
    rw [hpv, hnv, ← hvp] at bX
    rw [← HN.out] at bL
    have cx1 : w1.cell? ⟨x, 1, none⟩ = some (.pointer (some ⟨p, 0, none⟩)) := bX.cell 1
    have cx2 : w1.cell? ⟨x, 2, none⟩ = some (.pointer none) := bX.cell 2
    have cx3 : w1.cell? ⟨x, 3, none⟩ = some vp := bX.cell 3
    have fx1 := bX.free 1
    have fx2 := bX.free 2
    have fx3 := bX.free 3
    have fl0 := bL.free 0
    have fl1 := bL.free 1
    have fl2 := bL.free 2
    obtain ⟨v0, hv0⟩ : ∃ v, v = ptrO (hd (s.sq l) none) := ⟨_, rfl⟩
    obtain ⟨v1, hv1⟩ : ∃ v, v = ptrO (lst none (s.sq l)) := ⟨_, rfl⟩
    rw [← hv0, ← hv1] at bL
    have cl0 : w1.cell? ⟨l, 0, none⟩ = some v0 := bL.cell 0
    have cl1 : w1.cell? ⟨l, 1, none⟩ = some v1 := bL.cell 1
    have cl2 : w1.cell? ⟨l, 2, none⟩ = some (.int .i64 n) := bL.cell 2
    have bP := h1.nodes p hp2
    obtain ⟨vn, hvn⟩ : ∃ v, v = ptrO (s.nd p).next := ⟨_, rfl⟩
    rw [← hvn] at bP
    have cp2 : w1.cell? ⟨p, 2, none⟩ = some vn := bP.cell 2
    have fp2 := bP.free 2
    have HBP := Lib.hid bP
    clear bP hvn
    have HBX := Lib.hid bX
    have HBL := Lib.hid bL
    have HV0 := Lib.hid hv0
    have HV1 := Lib.hid hv1
    clear bX bL hpv hnv h1 hvp hv0 hv1
    go_wp2_with fail
    go_region
    go_wp2_with fail
    go_ret
    refine ⟨rfl, FIN.out w1 _ k1 ?_ ?_ ?_ ?_ ?_⟩
    · repeat (first | (with_reducible exact Kept.refl _ _) | (with_reducible refine Kept.drewN ?_ _) | (with_reducible refine Kept.drew ?_) | (with_reducible refine Kept.setCell ?_ (fun _ => by rw [ha, hb]; simp [lst_snoc, lst, hd]) _))
    · ((repeat' (first | (with_reducible apply Blk.cast HBX.out) | (with_reducible apply Blk.drewN) | (with_reducible apply Blk.drew) | (with_reducible apply Blk.alloc) | (with_reducible apply Blk.set') | (with_reducible apply Blk.other))); (repeat (any_goals rfl)); (all_goals first | omega | (simp; omega)))
    · have e0 : ptrO (hd (a ++ b) none) = v0 := by rw [HV0.out, H0.out, ha]; cases a0 <;> rfl
      have e1 : ptrO (lst none (a ++ b)) = .pointer (some ⟨p, 0, none⟩) := by rw [hb, List.append_nil, ha, lst_snoc]; rfl
      rw [e0, e1]; ((repeat' (first | (with_reducible apply Blk.cast HBL.out) | (with_reducible apply Blk.drewN) | (with_reducible apply Blk.drew) | (with_reducible apply Blk.alloc) | (with_reducible apply Blk.set') | (with_reducible apply Blk.other))); (repeat (any_goals rfl)); (all_goals first | omega | (simp; omega)))
    · intro y hy; rw [ha, lst_snoc] at hy; cases hy; rw [hb]; ((repeat' (first | (with_reducible apply Blk.cast HBP.out) | (with_reducible apply Blk.drewN) | (with_reducible apply Blk.drew) | (with_reducible apply Blk.alloc) | (with_reducible apply Blk.set') | (with_reducible apply Blk.other))); (repeat (any_goals rfl)); (all_goals first | omega | (simp; omega)))
    · intro y hy; rw [hb] at hy; cases hy
  · obtain ⟨vp, hvp⟩ : ∃ v, v = ptrO (s.nd x).home := ⟨_, rfl⟩
    have hpv : (s.nd x).prev = some p := HP.out.trans (by rw [ha]; exact lst_snoc _ _ _)
    have hnv : (s.nd x).next = some q := HNX.out.trans (by rw [hb]; rfl)
    obtain ⟨hp2, hpx⟩ := HM.out p (.inl (by rw [ha]; simp))
    have hpl : p ≠ l := by intro e; rw [e, hl] at hp2; cases hp2
    obtain ⟨hq2, hqx⟩ := HM.out q (.inr (by rw [hb]; simp))
    have hql : q ≠ l := by intro e; rw [e, hl] at hq2; cases hq2
    have hpq : p ≠ q := by intro e; subst e; exact HAB.out p (by rw [ha]; simp) (by rw [hb]; simp)
    go_enter Try.func63, Try.ntmps63
    go_wp2_with fail
    refine HH.out.mono ?_
    rintro e w1 ⟨rfl, k1⟩
    have h1 := HW.out.still k1
    have bX := h1.nodes x hx
    have bL := h1.lists l hl
    rw [hpv, hnv, ← hvp] at bX
    rw [← HN.out] at bL
    have cx1 : w1.cell? ⟨x, 1, none⟩ = some (.pointer (some ⟨p, 0, none⟩)) := bX.cell 1
    have cx2 : w1.cell? ⟨x, 2, none⟩ = some (.pointer (some ⟨q, 0, none⟩)) := bX.cell 2
    have cx3 : w1.cell? ⟨x, 3, none⟩ = some vp := bX.cell 3
    have fx1 := bX.free 1
    have fx2 := bX.free 2
    have fx3 := bX.free 3
    have fl0 := bL.free 0
    have fl1 := bL.free 1
    have fl2 := bL.free 2
    obtain ⟨v0, hv0⟩ : ∃ v, v = ptrO (hd (s.sq l) none) := ⟨_, rfl⟩
    obtain ⟨v1, hv1⟩ : ∃ v, v = ptrO (lst none (s.sq l)) := ⟨_, rfl⟩
    rw [← hv0, ← hv1] at bL
    have cl0 : w1.cell? ⟨l, 0, none⟩ = some v0 := bL.cell 0
    have cl1 : w1.cell? ⟨l, 1, none⟩ = some v1 := bL.cell 1
    have cl2 : w1.cell? ⟨l, 2, none⟩ = some (.int .i64 n) := bL.cell 2
    have bP := h1.nodes p hp2
    obtain ⟨vn, hvn⟩ : ∃ v, v = ptrO (s.nd p).next := ⟨_, rfl⟩
    rw [← hvn] at bP
    have cp2 : w1.cell? ⟨p, 2, none⟩ = some vn := bP.cell 2
    have fp2 := bP.free 2
    have HBP := Lib.hid bP
    clear bP hvn
    have bQ := h1.nodes q hq2
    obtain ⟨vq, hvq⟩ : ∃ v, v = ptrO (s.nd q).prev := ⟨_, rfl⟩
    rw [← hvq] at bQ
    have cq1 : w1.cell? ⟨q, 1, none⟩ = some vq := bQ.cell 1
    have fq1 := bQ.free 1
    have HBQ := Lib.hid bQ
    clear bQ hvq
    have HBX := Lib.hid bX
    have HBL := Lib.hid bL
    have HV0 := Lib.hid hv0
    have HV1 := Lib.hid hv1
    clear bX bL hpv hnv h1 hvp hv0 hv1
    go_wp2_with fail
    go_region
    go_wp2_with fail
    go_region
    go_wp2_with fail
    go_ret
    refine ⟨rfl, FIN.out w1 _ k1 ?_ ?_ ?_ ?_ ?_⟩
    · repeat (first | (with_reducible exact Kept.refl _ _) | (with_reducible refine Kept.drewN ?_ _) | (with_reducible refine Kept.drew ?_) | (with_reducible refine Kept.setCell ?_ (fun _ => by rw [ha, hb]; simp [lst_snoc, lst, hd]) _))
    · ((repeat' (first | (with_reducible apply Blk.cast HBX.out) | (with_reducible apply Blk.drewN) | (with_reducible apply Blk.drew) | (with_reducible apply Blk.alloc) | (with_reducible apply Blk.set') | (with_reducible apply Blk.other))); (repeat (any_goals rfl)); (all_goals first | omega | (simp; omega)))
    · have e0 : ptrO (hd (a ++ b) none) = v0 := by rw [HV0.out, H0.out, ha]; cases a0 <;> rfl
      have e1 : ptrO (lst none (a ++ b)) = v1 := by rw [HV1.out, H0.out, hb]; simp [lst_append, lst]
      rw [e0, e1]; ((repeat' (first | (with_reducible apply Blk.cast HBL.out) | (with_reducible apply Blk.drewN) | (with_reducible apply Blk.drew) | (with_reducible apply Blk.alloc) | (with_reducible apply Blk.set') | (with_reducible apply Blk.other))); (repeat (any_goals rfl)); (all_goals first | omega | (simp; omega)))
    · intro y hy; rw [ha, lst_snoc] at hy; cases hy; rw [hb]; ((repeat' (first | (with_reducible apply Blk.cast HBP.out) | (with_reducible apply Blk.drewN) | (with_reducible apply Blk.drew) | (with_reducible apply Blk.alloc) | (with_reducible apply Blk.set') | (with_reducible apply Blk.other))); (repeat (any_goals rfl)); (all_goals first | omega | (simp; omega)))
    · intro y hy; rw [hb] at hy; cases hy; rw [ha, lst_snoc]; ((repeat' (first | (with_reducible apply Blk.cast HBQ.out) | (with_reducible apply Blk.drewN) | (with_reducible apply Blk.drew) | (with_reducible apply Blk.alloc) | (with_reducible apply Blk.set') | (with_reducible apply Blk.other))); (repeat (any_goals rfl)); (all_goals first | omega | (simp; omega)))

end Go.Proofs.Ythamdbfilpegjaa
