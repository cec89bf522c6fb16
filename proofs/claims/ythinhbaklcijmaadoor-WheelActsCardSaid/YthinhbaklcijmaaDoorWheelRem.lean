/-
  What stands here: an entry is removed. Under no condition but that the world holds the wheel.
-/
import Derived.Test.YthinhbaklcijmaaDoorWheelTake
import Derived.Test.YthinhbaklcijmaaDoorWheelPlace
namespace Go.Proofs.YthinhbaklcijmaaDoor
set_option linter.unusedVariables false
set_option linter.unusedSimpArgs false
open Go.RowKit Go.Proofs
theorem map_erase_on {f : Nat → Nat} {e : Nat} : ∀ {xs : List Nat}, (∀ x, x ∈ xs → f x = f e → x = e) → (xs.erase e).map f = (xs.map f).erase (f e)
  | [], _ => rfl
  | x :: xs, h => by
    by_cases hx : x = e
    · subst hx; rw [List.erase_cons_head, List.map_cons, List.erase_cons_head]
    · have hf : ¬ f x = f e := fun e9 => hx (h x (by simp) e9)
      rw [List.erase_cons_tail (by simpa using hx), List.map_cons, List.map_cons, List.erase_cons_tail (by simpa using hf), map_erase_on (fun y hy => h y (by simp [hy]))]
theorem nil_ne {P : Program} (w : World) {tp te : TypeId} (hp : P.underlying tp = some (.pointer te)) (a : Addr) : (binOp .neq tp (.pointer none) (.pointer (some a))).run P w = .ok (.bool true) w := by
  have h : ∀ d : Nat, (Op.equalIn (d + 1) tp (.pointer none) (.pointer (some a))).run P w = .ok false w := fun d => by
    simp [Op.equalIn, run_underlying hp]
  simp only [binOp]
  simp [Op.equal, Op.maxDepth, h 9999]
/-- one entry is unlinked: it hangs -/
theorem WB_e.unl {s s' : LS} {v : Nat} {lv : Nat → Nat} {sl : Nat → Nat → Nat} {bd : Nat} {S : WSt} {L : List Nat} {n : Nat} {W W' : World} (h : WB_e s v lv sl bd S L n W) {q0 e : Nat} {T : Nat → Prop} (hq0 : q0 < 257) (hm : e ∈ S.pl q0) (hs : LW_e s' W') (hkd : s'.kd = s.kd) (hlv : LV s' = LV s) (hsq : s'.sq = upd s.sq (lq sl bd q0) ((s.sq (lq sl bd q0)).erase (S.node e))) (k : Kept T W W') (hT : ∀ y, s.kd y = 5 ∨ s.kd y = 6 → ¬ T y) (hlevs : ∀ i, i < 4 → LvB_e s' (lv i) (sl i) W') :
    WB_e s' v lv sl bd { S with pl := upd S.pl q0 ((S.pl q0).erase e) } (e :: L) n W' := by
  have hvv : ∀ x, (s'.nd x).val = (s.nd x).val := fun x => congrFun hlv x
  have mem : ∀ q y, q < 257 → y ∈ upd S.pl q0 ((S.pl q0).erase e) q → y ≠ e ∧ y ∈ S.pl q := fun q y hlt hy => by
    by_cases hq : q = q0
    · rw [hq, upd_same] at hy
      rw [hq]
      exact (List.Nodup.mem_erase_iff (h.nodup q0 hq0)).1 hy
    · rw [upd_ne _ _ hq] at hy
      refine ⟨fun e9 => ?_, hy⟩
      subst e9
      exact hq (h.one q q0 y hlt hq0 hy hm)
  have memi : ∀ q y, q < 257 → y ≠ e → y ∈ S.pl q → y ∈ upd S.pl q0 ((S.pl q0).erase e) q := fun q y hlt hne hy => by
    by_cases hq : q = q0
    · rw [hq, upd_same]
      rw [hq] at hy
      exact (List.Nodup.mem_erase_iff (h.nodup q0 hq0)).2 ⟨hne, hy⟩
    · rw [upd_ne _ _ hq]; exact hy
  have keep : ∀ y H, s.kd y = 6 → EB_e S W y H → EB_e S W' y H := fun y H h6 hb => Blk.kept hb k (hT y (.inr h6))
  obtain ⟨m1, m2, m3, m4, m5, m6, m7, m8, m9⟩ := h.ent q0 e hq0 hm
  exact {
    kv := by rw [hkd]; exact h.kv
    blk := h.blk.kept k (hT v (.inl h.kv))
    now := h.now
    lw := hs
    lev := hlevs
    linj := h.linj
    kl := fun q hq => by rw [hkd]; exact h.kl q hq
    inj := h.inj
    sq := fun q hq => by
      show s'.sq (lq sl bd q) = (upd S.pl q0 ((S.pl q0).erase e) q).map S.node
      rw [hsq]
      by_cases hqq : q = q0
      · subst hqq
        rw [upd_same, upd_same, h.sq q hq]
        refine (map_erase_on fun x hx hxe => ?_).symm
        have e1 := (h.ent q x hq hx).2.2.2.1
        rw [hxe] at e1
        have e2 := m4
        rw [e1] at e2
        simp only [Value.pointer.injEq, Option.some.injEq, Addr.mk.injEq, and_true] at e2
        exact e2
      · rw [upd_ne _ _ hqq, upd_ne _ _ (fun e9 => hqq (h.inj q q0 hq hq0 e9))]; exact h.sq q hq
    ent := fun q y hq hy => by
      obtain ⟨_, hy⟩ := mem q y hq hy
      obtain ⟨g1, g2, g3, g4, g5⟩ := h.ent q y hq hy
      exact ⟨by rw [hkd]; exact g1, keep y _ g1 g2, by rw [hkd]; exact g3, (hvv _).trans g4, g5⟩
    one := fun q r y hq hr h1 h2 => h.one q r y hq hr (mem q y hq h1).2 (mem r y hr h2).2
    nodup := fun q hq => by
      show (upd S.pl q0 ((S.pl q0).erase e) q).Nodup
      by_cases hqq : q = q0
      · rw [hqq, upd_same]; exact (h.nodup q0 hq0).erase _
      · rw [upd_ne _ _ hqq]; exact h.nodup q hq
    hang := fun y hy => by
      rcases List.mem_cons.1 hy with hy | hy
      · rw [hy]
        exact ⟨by rw [hkd]; exact m1, keep e _ m1 m2, m8, fun q hq h9 => (mem q e hq h9).1 rfl⟩
      · obtain ⟨g1, g2, g3, g4⟩ := h.hang y hy
        exact ⟨by rw [hkd]; exact g1, keep y _ g1 g2, g3, fun q hq h9 => g4 q hq (mem q y hq h9).2⟩
    hnd := List.nodup_cons.2 ⟨fun h9 => (h.hang e h9).2.2.2 q0 hq0 hm, h.hnd⟩
    out := fun y hy => by
      rw [hkd] at hy
      by_cases hye : y = e
      · exact .inr (.inl (by rw [hye]; simp))
      · rcases h.out y hy with ⟨q, hq, h1⟩ | h1 | h1
        · exact .inl ⟨q, hq, memi q y hq hye h1⟩
        · exact .inr (.inl (List.mem_cons_of_mem _ h1))
        · exact .inr (.inr (keep y _ hy h1)) }
theorem kUnl_e (s : LS) (w : World) (h : LW_e s w) (l x : Nat) (hl : s.kd l = 1) (hm : x ∈ s.sq l) (hbig : (s.sq l).length < 9223372036854775807) :
    Calls Tryd.prog 34 #[.pointer (some ⟨l, 0, none⟩), .pointer (some ⟨x, 0, none⟩)] w fun e w' => e = .returned (.int .i64 0) ∧ Kept (fun y => s.kd y = 1 ∨ s.kd y = 2) w w' ∧ ∃ s', LW_e s' w' ∧ s'.kd = s.kd ∧ s'.sq = upd s.sq l ((s.sq l).erase x) ∧ LV s' = LV s := by
  refine (lunlink_e s w h l x hl (h.inv.mem l x hl hm).1 hm hbig).mono ?_
  rintro e w1 ⟨rfl, h1, k1⟩
  exact ⟨rfl, k1, _, h1, rfl, rfl, LS.out_val ..⟩
theorem wrem_nil_e (p : Option Addr) (w : World) : Calls Tryd.prog 12 #[.pointer none, .pointer p] w fun r w' => r = .returned (.int .i64 6) ∧ w = w' := by
  go_enter Tryd.func12, Tryd.ntmps12
  go_wp2_with fail
  go_ret
  exact ⟨rfl, rfl⟩
theorem wheelPtr_e : Tryd.prog.underlying 25 = some (.pointer 70) := by kernel_rfl
theorem wheelSize_e : (Tryd.prog.info? 70).map (fun i => i.size) = some (6 + 1) := by kernel_rfl
set_option maxRecDepth 100000 in
theorem wrem_out_e {s : LS} {v : Nat} {lv : Nat → Nat} {sl : Nat → Nat → Nat} {bd : Nat} {S : WSt} {n : Nat} {e : Nat} (w : World) (h : WB_e s v lv sl bd S [] n w) (he : s.kd e = 6) (hno : ¬ Stands S.pl e) :
    Calls Tryd.prog 12 #[.pointer (some ⟨v, 0, none⟩), .pointer (some ⟨e, 0, none⟩)] w fun r w' => r = .returned (.int .i64 6) ∧ w = w' := by
  have hb : EB_e S w e (.pointer none) := by
    rcases h.out e he with ⟨q, hq, h1⟩ | h1 | h1
    · exact absurd ⟨q, hq, h1⟩ hno
    · cases h1
    · exact h1
  have c3 : w.cell? ⟨e, 3, none⟩ = some (.pointer none) := Blk.cell hb 3
  have hnn := fun w => nil_ne (P := Tryd.prog) w wheelPtr_e ⟨v, 0, none⟩
  clear h he hno hb
  go_enter Tryd.func12, Tryd.ntmps12
  go_wp2_with fail
  go_ret
  exact ⟨rfl, rfl⟩
set_option maxHeartbeats 1000000 in
set_option maxRecDepth 100000 in
theorem wrem_e {s : LS} {v : Nat} {lv : Nat → Nat} {sl : Nat → Nat → Nat} {bd : Nat} {S : WSt} {n : Nat} {e q0 : Nat} (w : World) (h : WB_e s v lv sl bd S [] n w) (hq0 : q0 < 257) (hm : e ∈ S.pl q0) (hbig : nAll S.pl < 80000) (hn1 : 1 ≤ n) (hn2 : n < 80000) :
    Calls Tryd.prog 12 #[.pointer (some ⟨v, 0, none⟩), .pointer (some ⟨e, 0, none⟩)] w fun r w' => r = .returned (.int .i64 0) ∧ ∃ s', WB_e s' v lv sl bd { S with pl := upd S.pl q0 ((S.pl q0).erase e) } [] (n - 1) w' ∧ s'.kd = s.kd ∧ Kept (fun y => s.kd y ≠ 0) w w' := by
  obtain ⟨m1, m2, m3, m4, m5, m6, m7, m8, m9⟩ := h.ent q0 e hq0 hm
  have c3 : w.cell? ⟨e, 3, none⟩ = some (.pointer (some ⟨v, 0, none⟩)) := Blk.cell m2 3
  have c4 : w.cell? ⟨e, 4, none⟩ = some (.int .i64 (S.lev e)) := Blk.cell m2 4
  have c5 : w.cell? ⟨e, 5, none⟩ = some (.int .i64 (S.slot e)) := Blk.cell m2 5
  have c6 : w.cell? ⟨e, 6, none⟩ = some (.pointer (some ⟨S.node e, 0, none⟩)) := (Blk.cell m2 6).trans (congrArg some m9)
  have hne := ne_ptr wheelPtr_e wheelSize_e h.blk h.blk
  have CE := Lib.hid (Blk.cells m2)
  have CV := Lib.hid h.blk.cells
  have H := Lib.hid h
  have HBIG := Lib.hid hbig
  have M2 := Lib.hid m2
  rw [decide_eq_true rfl] at hne
  clear h hbig m2 m9
  have hsqe : S.node e ∈ s.sq (lq sl bd q0) := by rw [H.out.sq q0 hq0]; exact List.mem_map_of_mem hm
  have HSQE := Lib.hid hsqe
  have hle : (S.pl q0).length ≤ nAll S.pl := le_nAll S.pl hq0
  have hln := H.out.len hq0
  have HLN := Lib.hid hln
  clear hsqe hln
  generalize S.lev e = ll at *
  obtain ⟨l, rfl⟩ : ∃ l : Nat, ll = l := ⟨ll.toNat, by omega⟩
  generalize S.slot e = k at *
  generalize hx : S.node e = x at *
  have hbb := HBIG.out
  have klv : ∀ i, i < 4 → s.kd (lv i) = 4 := fun i hi => (H.out.lev i hi).kv
  have KLV := Lib.hid klv
  clear klv
  by_cases hb : 4 ≤ l
  · have hb' : decide (4 ≤ (l : Int)) = true := decide_eq_true (by omega)
    obtain rfl : q0 = 256 := by
      rcases Nat.lt_or_ge q0 256 with h9 | h9
      · have := m7 h9; omega
      · omega
    have c2v : w.cell? ⟨v, 5, none⟩ = some (.pointer (some ⟨bd, 0, none⟩)) := H.out.blk.cell 5
    have HX := Lib.hid hx
    clear hx
    go_enter Tryd.func12, Tryd.ntmps12
    go_upto_region 8 with fail
    refine wp_region_text ([4], [9, 25, 28]) [e, v] (by kernel_rfl) (by kernel_rfl) (cellsB_cons CE.out (cellsB_cons CV.out cellsB_nil)) (by simp [segs, isEff, isLoad, askOps, asks, ptrEq, eqOrNe, isNil]; rfl) ?_
    (repeat ((first | (refine segs_nil ?_) | (refine segs_go (stay_drew) ?_ ?_; focus (simp [isLoad]; done)) | (refine segs_load (stay_drew) ?_ ?_; focus (intro h; first | exact ⟨e, _, rfl, by simp⟩ | exact ⟨v, _, rfl, by simp⟩ | (simp [Region.wanted, yielded, undef] at h; done))) | fail); go_wp2_with fail))
    refine (kUnl_e s _ (H.out.lw.still ((still_refl w).drewN 1)) bd x (by have := H.out.kl 256 (by omega); rwa [lq_bd] at this) (by have := HSQE.out; rwa [lq_bd] at this) (by have := HLN.out; rw [lq_bd] at this; omega)).mono ?_
    rintro r w1 ⟨rfl, k1, s1, l1, kd1, sq1, lv1⟩
    have k1' : Kept (fun y => s.kd y = 1 ∨ s.kd y = 2) w w1 := ((Kept.refl _ w).drewN 1).trans k1
    have KW1 : Kept (fun y => s.kd y ≠ 0) w w1 := k1'.mono (fun y _ hy => by omega)
    have U := H.out.unl (q0 := 256) (by omega) hm l1 kd1 lv1 (by rw [lq_bd, HX.out]; exact sq1) k1' (fun y hy h9 => by omega) (fun i hi => (H.out.lev i hi).carry k1' (by rw [KLV.out i hi]; omega) (by rw [kd1]) (fun _ _ => by rw [kd1]) (fun j hj => by
      rw [sq1]; exact upd_ne _ _ (fun e9 => by
        have := H.out.inj (i * 64 + j) 256 (by omega) (by omega) (by rw [lq_lev sl bd hi hj, e9, lq_bd]); omega)))
    have HSW : StayB [e, v] w w1 := StayB.kept (fun b hb => rfl) k1' (fun b hb' => by
      simp only [List.mem_cons, List.not_mem_nil, or_false] at hb'
      rcases hb' with rfl | rfl
      · exact ⟨Blk.lt M2.out, by rw [m1]; omega⟩
      · exact ⟨Blk.lt H.out.blk, by rw [H.out.kv]; omega⟩)
    go_wp2_with fail
    refine segs_go HSW (by simp [isLoad]) ?_
    clear HSW
    go_wp2_with fail
    refine segs_nil ?_
    have ce := Blk.cell (U.hang e (by simp)).2.1 3
    have fe := Blk.free (U.hang e (by simp)).2.1 3
    obtain ⟨w2, hw2⟩ : ∃ w2, w2 = w1.setCell ⟨e, 3, none⟩ (.pointer none) := ⟨_, rfl⟩
    have G2 := U.gone hw2
    have cn : w2.cell? ⟨v, 6, none⟩ = some (.int .i64 n) := G2.blk.cell 6
    have fn : w2.frozen? ⟨v, 6, none⟩ = false := G2.blk.free 6
    obtain ⟨w3, hw3⟩ : ∃ w3, w3 = w2.setCell ⟨v, 6, none⟩ (.int .i64 ((n : Int) - 1)) := ⟨_, rfl⟩
    have G3 := Lib.hid (G2.setN (m := n - 1) (hw3.trans (by rw [show ((n : Int) - 1) = ((n - 1 : Nat) : Int) by omega])))
    have KD := Lib.hid kd1
    have K3 := Lib.hid (show Kept (fun y => s.kd y ≠ 0) w w3 by
      rw [hw3, hw2]
      exact Kept.setCell (S := fun y => s.kd y ≠ 0) (Kept.setCell (S := fun y => s.kd y ≠ 0) KW1 (fun _ => by show s.kd e ≠ 0; rw [m1]; decide) _) (fun _ => by show s.kd v ≠ 0; rw [H.out.kv]; decide) _)
    have HW2 := Lib.hid hw2
    have HW3 := Lib.hid hw3
    clear U G2 hw2 hw3 kd1 k1 k1' l1 sq1 lv1 KW1
    go_upto_region 11 with fail
    rw [← HW2.out]
    clear ce fe
    go_upto_region 12 with fail
    rw [← HW3.out]
    clear cn fn
    go_wp2_with fail
    go_ret
    exact ⟨rfl, s1, G3.out, KD.out, K3.out⟩
  · have hb' : decide (4 ≤ (l : Int)) = false := decide_eq_false (by omega)
    have hl4 : l < 4 := by omega
    have hq : q0 < 256 := by
      rcases Nat.lt_or_ge q0 256 with h9 | h9
      · exact h9
      · have := m6 (by omega); omega
    obtain ⟨hql, hk0, hk64⟩ := m7 hq
    obtain ⟨D, rfl⟩ : ∃ D : Nat, k = D := ⟨k.toNat, by omega⟩
    have hdl : D < 64 := by omega
    obtain rfl : q0 = l * 64 + D := by omega
    have hlqD : lq sl bd (l * 64 + D) = sl l D := lq_lev sl bd hl4 hdl
    have cl : w.cell? ⟨v, 1 + l, none⟩ = some (.pointer (some ⟨lv l, 0, none⟩)) := by
      refine (H.out.blk.cell (1 + l)).trans ?_
      obtain rfl | rfl | rfl | rfl : l = 0 ∨ l = 1 ∨ l = 2 ∨ l = 3 := by omega
      all_goals rfl
    have HX := Lib.hid hx
    clear hx
    go_enter Tryd.func12, Tryd.ntmps12
    go_upto_region 9 with fail
    refine wp_region_text ([4], [9, 25, 28]) [e, v] (by kernel_rfl) (by kernel_rfl) (cellsB_cons CE.out (cellsB_cons CV.out cellsB_nil)) (by simp [segs, isEff, isLoad, askOps, asks, ptrEq, eqOrNe, isNil]; rfl) ?_
    (repeat ((first | (refine segs_nil ?_) | (refine segs_go (stay_drew) ?_ ?_; focus (simp [isLoad]; done)) | (refine segs_load (stay_drew) ?_ ?_; focus (intro h; first | exact ⟨e, _, rfl, by simp⟩ | exact ⟨v, _, rfl, by simp⟩ | (simp [Region.wanted, yielded, undef] at h; done))) | fail); go_wp2_with fail))
    refine (lvrem_e s (lv l) (sl l) D x _ (H.out.lw.still ((still_refl w).drewN 1)) ((H.out.lev l hl4).still ((still_refl w).drewN 1)) hdl (by have := HSQE.out; rwa [hlqD] at this) (by have := H.out.tot hl4; omega)).mono ?_
    rintro r w1 ⟨rfl, k1, l1, b1⟩
    obtain ⟨s1, hs1⟩ : ∃ s1, s1 = s.out (sl l D) x := ⟨_, rfl⟩
    rw [← hs1] at l1 b1
    have kd1 : s1.kd = s.kd := by rw [hs1]; rfl
    have sq1 : s1.sq = upd s.sq (sl l D) ((s.sq (sl l D)).erase x) := by rw [hs1]; rfl
    have lv1 : LV s1 = LV s := by rw [hs1]; exact LS.out_val ..
    have k1' : Kept (fun y => s.kd y = 1 ∨ s.kd y = 2 ∨ y = lv l) w w1 := ((Kept.refl _ w).drewN 1).trans k1
    have KW1 : Kept (fun y => s.kd y ≠ 0) w w1 := k1'.mono (fun y _ hy => by
      rcases hy with hy | hy | hy
      · omega
      · omega
      · rw [hy, KLV.out l hl4]; omega)
    have U := H.out.unl (q0 := l * 64 + D) hq0 hm l1 kd1 lv1 (by rw [hlqD, HX.out]; exact sq1) k1' (fun y hy h9 => by
      rcases h9 with h9 | h9 | h9
      · omega
      · omega
      · rw [h9, KLV.out l hl4] at hy; omega) (fun i hi => by
      by_cases hil : i = l
      · subst hil; exact b1
      · exact (H.out.lev i hi).carry k1' (by
          rw [KLV.out i hi]; intro h9
          rcases h9 with h9 | h9 | h9
          · cases h9
          · cases h9
          · exact hil (H.out.linj i l hi hl4 h9)) (by rw [kd1]) (fun _ _ => by rw [kd1]) (fun j hj => by
            rw [sq1]; exact upd_ne _ _ (fun e9 => by
              have := H.out.inj (i * 64 + j) (l * 64 + D) (by omega) (by omega) (by rw [lq_lev sl bd hi hj, e9, hlqD]); omega)))
    clear hs1
    have hne1 : ¬ (s.kd e = 1 ∨ s.kd e = 2 ∨ e = lv l) := fun h9 => by
      rcases h9 with h9 | h9 | h9
      · omega
      · omega
      · have h8 := KLV.out l hl4
        rw [← h9] at h8; omega
    have hnv1 : ¬ (s.kd v = 1 ∨ s.kd v = 2 ∨ v = lv l) := fun h9 => by
      have h7 := H.out.kv
      rcases h9 with h9 | h9 | h9
      · omega
      · omega
      · have h8 := KLV.out l hl4
        rw [← h9] at h8; omega
    have HSW : StayB [e, v] w w1 := StayB.kept (fun b hb => rfl) k1' (fun b hb' => by
      simp only [List.mem_cons, List.not_mem_nil, or_false] at hb'
      rcases hb' with rfl | rfl
      · exact ⟨Blk.lt M2.out, hne1⟩
      · exact ⟨Blk.lt H.out.blk, hnv1⟩)
    clear hne1 hnv1
    go_wp2_with fail
    refine segs_go HSW (by simp [isLoad]) ?_
    clear HSW
    go_wp2_with fail
    refine segs_nil ?_
    clear b1
    have ce := Blk.cell (U.hang e (by simp)).2.1 3
    have fe := Blk.free (U.hang e (by simp)).2.1 3
    obtain ⟨w2, hw2⟩ : ∃ w2, w2 = w1.setCell ⟨e, 3, none⟩ (.pointer none) := ⟨_, rfl⟩
    have G2 := U.gone hw2
    have cn : w2.cell? ⟨v, 6, none⟩ = some (.int .i64 n) := G2.blk.cell 6
    have fn : w2.frozen? ⟨v, 6, none⟩ = false := G2.blk.free 6
    obtain ⟨w3, hw3⟩ : ∃ w3, w3 = w2.setCell ⟨v, 6, none⟩ (.int .i64 ((n : Int) - 1)) := ⟨_, rfl⟩
    have G3 := Lib.hid (G2.setN (m := n - 1) (hw3.trans (by rw [show ((n : Int) - 1) = ((n - 1 : Nat) : Int) by omega])))
    have KD := Lib.hid kd1
    have K3 := Lib.hid (show Kept (fun y => s.kd y ≠ 0) w w3 by
      rw [hw3, hw2]
      exact Kept.setCell (S := fun y => s.kd y ≠ 0) (Kept.setCell (S := fun y => s.kd y ≠ 0) KW1 (fun _ => by show s.kd e ≠ 0; rw [m1]; decide) _) (fun _ => by show s.kd v ≠ 0; rw [H.out.kv]; decide) _)
    have HW2 := Lib.hid hw2
    have HW3 := Lib.hid hw3
    clear U G2 hw2 hw3 kd1 k1 k1' l1 sq1 lv1 KW1
    go_upto_region 11 with fail
    rw [← HW2.out]
    clear ce fe
    go_upto_region 12 with fail
    rw [← HW3.out]
    clear cn fn
    go_wp2_with fail
    go_ret
    exact ⟨rfl, s1, G3.out, KD.out, K3.out⟩

end Go.Proofs.YthinhbaklcijmaaDoor
