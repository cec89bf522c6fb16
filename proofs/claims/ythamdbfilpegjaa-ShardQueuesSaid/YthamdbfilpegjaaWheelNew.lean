/-
  What stands here: a new wheel. Under no condition.
-/
import Derived.Test.YthamdbfilpegjaaWheelTake
import Derived.Test.YthamdbfilpegjaaWheelPlace
namespace Go.Proofs.Ythamdbfilpegjaa
set_option linter.unusedVariables false
set_option linter.unusedSimpArgs false
open Go.RowKit Go.Proofs
/-- a wheel in the making: k of its levels stand -/
structure WN_t (s : LS) (v : Nat) (lv : Nat → Nat) (sl : Nat → Nat → Nat) (bd now k : Nat) (w W : World) : Prop where
  blk : ∃ c : Array Value, Blk W v c 101 ∧ c.size = 7 ∧ c[0]? = some (.int .u64 now) ∧ (∀ i, i < k → c[1 + i]? = some (ptrN (lv i))) ∧ c[5]? = some (ptrN bd) ∧ c[6]? = some (.int .i64 0)
  kv : s.kd v = 5
  lw : LW_t s W
  lev : ∀ i, i < k → LvB_t s (lv i) (sl i) W
  linj : ∀ i j, i < k → j < k → lv i = lv j → i = j
  kb : s.kd bd = 1
  inj : ∀ i j i' j', i < k → i' < k → j < 64 → j' < 64 → sl i j = sl i' j' → i = i' ∧ j = j'
  ninj : ∀ i j, i < k → j < 64 → sl i j ≠ bd
  sq : ∀ i j, i < k → j < 64 → s.sq (sl i j) = []
  sqb : s.sq bd = []
  kept : Still w W
  hv : w.heap.size ≤ v
  kd : ∀ y, y < w.heap.size → s.kd y = 0
set_option maxHeartbeats 1000000 in
theorem wnew_t (now : Nat) (hn : now < 18446744073709551616) (w : World) :
    Calls Try.prog 23 #[.int .u64 (now : Int)] w fun e w' => ∃ v s lv sl bd S, e = .returned (.pointer (some ⟨v, 0, none⟩)) ∧ WB_t s v lv sl bd S [] 0 w' ∧ S.now = now ∧ (∀ q, S.pl q = []) ∧ Still w w' ∧ (∀ y, y < w.heap.size → s.kd y = 0) ∧ (∀ y, s.kd y ≠ 6) := by
  go_enter Try.func23, Try.ntmps23
  go_wp2_with fail
  refine (oNew_t LS.zero w (LW_t.zero w)).mono ?_
  rintro e w1 ⟨rfl, z1, k1, s1, l1, n1, b1, q1, v1⟩
  generalize hbd : w.heap.size + 1 = bd at *
  obtain ⟨v, hv⟩ : ∃ v, v = w1.heap.size := ⟨_, rfl⟩
  have hz0 : w.heap.size ≤ w1.heap.size := k1.size
  obtain ⟨w2, hw2⟩ : ∃ w2, w2 = w1.alloc (.cells #[.int .u64 (now : Int), .pointer none, .pointer none, .pointer none, .pointer none, .pointer (some ⟨bd, 0, none⟩), .int .i64 0] 101) := ⟨_, rfl⟩
  have N0 := Lib.hid (show WN_t (s1.mark v 5) v (fun _ => 0) (fun _ _ => 0) bd now 0 w w2 from {
    blk := ⟨_, by rw [hw2]; exact Blk.newAt _ _ _ hv.symm, rfl, rfl, fun i hi => absurd hi (by omega), rfl, rfl⟩
    kv := upd_same _ _ _
    lw := (l1.still (W' := w2) (by rw [hw2]; exact (Kept.refl _ _).alloc _)).mark (l1.fresh v (by omega)) (by omega) (by rw [hw2]; simp; omega)
    lev := fun i hi => absurd hi (by omega)
    linj := fun i j hi => absurd hi (by omega)
    kb := (upd_ne _ _ (by omega)).trans b1
    inj := fun i j i' j' hi => absurd hi (by omega)
    ninj := fun i j hi => absurd hi (by omega)
    sq := fun i j hi => absurd hi (by omega)
    sqb := by show s1.sq bd = []; rw [q1, upd_same]
    kept := by rw [hw2]; exact k1.alloc _
    hv := by omega
    kd := fun y hy => (upd_ne _ _ (by omega)).trans (n1 y hy) })
  clear l1 n1 b1 q1 v1 k1 z1 hbd
  go_upto_region 2 with fail
  rw [← hw2]
  generalize w1.heap.size = v1 at *
  subst hv
  clear hw2
  go_wp2_with fail
  go_loopw [4, 9] (fun _ i wx => ∃ (k : Nat) (s : LS) (lv : Nat → Nat) (sl : Nat → Nat → Nat), k ≤ 4 ∧ i = .int .i64 k ∧ WN_t s v lv sl bd now k w wx) (fun _ i _ => 4 - (intOf i).toNat)
  case atStart => exact ⟨0, _, _, _, Nat.zero_le _, rfl, N0.out⟩
  case round =>
    obtain ⟨k, s, lv, sl, hk, rfl, hN⟩ := hrel
    have HN := Lib.hid hN
    clear hN
    by_cases hlt : k < 4
    · go_upto_region 5 with fail
      refine wp_region_end ([4], [9, 98]) [] rfl (by kernel_rfl) (by kernel_rfl) (by kernel_rfl) cellsB_nil (by simp [segs, isEff, isLoad, askOps, asks, ptrEq, eqOrNe, isNil]; rfl) ?_
      (repeat ((first | (refine segs_nil ?_) | (refine segs_go (stay_nil) ?_ ?_; focus (simp [isLoad]; done)) | (refine segs_load (stay_nil) ?_ ?_; focus (intro h; first | fail | (simp [Region.wanted, yielded, undef] at h; done))) | fail); go_wp2_with fail))
      refine (lvnew_t s _ (HN.out.lw.still ((still_refl wr).drewN 1))).mono ?_
      rintro e w2 ⟨rfl, k2, s2, sl2, l2, b2, n2, g2, q2, o2, _⟩
      have n2 : ∀ y, y < wr.heap.size → s2.kd y = s.kd y := n2
      have g2 : ∀ k, k < 64 → wr.heap.size < sl2 k := g2
      have b2 : LvB_t s2 wr.heap.size sl2 w2 := b2
      have hzd : (wr.drewN 1).heap.size = wr.heap.size := rfl
      rw [hzd]
      clear hzd
      have k2' : Still wr w2 := ((Kept.refl _ wr).drewN 1).trans k2
      obtain ⟨c, cb, cs, cc0, cc1, cc5, cc6⟩ := HN.out.blk
      have hb2 := cb.still k2'
      have f2 := hb2.free (1 + k)
      obtain ⟨cv, hcv⟩ : ∃ u, c[1 + k]? = some u := ⟨_, Array.getElem?_eq_getElem (by omega)⟩
      have g3 : w2.cell? ⟨v, 1 + k, none⟩ = some cv := (hb2.cell (1 + k)).trans hcv
      generalize hl : wr.heap.size = l at *
      have hvl : v < l := by rw [← hl]; exact cb.lt
      obtain ⟨w3, hw3⟩ : ∃ w3, w3 = w2.setCell ⟨v, 1 + k, none⟩ (.pointer (some ⟨l, 0, none⟩)) := ⟨_, rfl⟩
      have klo : ∀ i, i < k → lv i < l := fun i hi => by rw [← hl]; exact (HN.out.lev i hi).lt
      have slo : ∀ i j, i < k → j < 64 → sl i j < l := fun i j hi hj => by rw [← hl]; exact (HN.out.lw.lists _ ((HN.out.lev i hi).kl j hj)).lt
      have blo : bd < l := by rw [← hl]; exact (HN.out.lw.lists _ HN.out.kb).lt
      have k3 : Kept (fun y => y = v) wr w3 := by
        rw [hw3]; exact Kept.setCell (S := fun y => y = v) (lstill_kept k2') (fun _ => rfl) _
      have k23 : Kept (fun y => y = v) w2 w3 := by
        rw [hw3]; exact Kept.setCell (S := fun y => y = v) (Kept.refl _ _) (fun _ => rfl) _
      have up : ∀ i, i < k → upd lv k l i = lv i := fun i hi => upd_ne _ _ (by omega)
      have us : ∀ i, i < k → upd sl k sl2 i = sl i := fun i hi => upd_ne _ _ (by omega)
      have uv : upd lv k l k = l := upd_same _ _ _
      have uu : upd sl k sl2 k = sl2 := upd_same _ _ _
      have hv2 : s2.kd v = 5 := (n2 v hvl).trans HN.out.kv
      have NN := Lib.hid (show WN_t s2 v (upd lv k l) (upd sl k sl2) bd now (k + 1) w w3 from {
        blk := ⟨_, by rw [hw3]; exact hb2.set (1 + k) _, by simpa using cs, by rw [Array.getElem?_setIfInBounds_ne (by omega)]; exact cc0, fun i hi => by
            by_cases e : i = k
            · rw [e, uv, Array.getElem?_setIfInBounds_self_of_lt (by omega)]
            · rw [up i (by omega), Array.getElem?_setIfInBounds_ne (by omega)]; exact cc1 i (by omega),
          by rw [Array.getElem?_setIfInBounds_ne (by omega)]; exact cc5, by rw [Array.getElem?_setIfInBounds_ne (by omega)]; exact cc6⟩
        kv := hv2
        lw := l2.kept3 k23 (fun y hy e => by rw [e, hv2] at hy; omega)
        lev := fun i hi => by
          by_cases e : i = k
          · rw [e, uv, uu]
            exact b2.carry k23 (by omega) rfl (fun _ _ => rfl) (fun _ _ => rfl)
          · rw [up i (by omega), us i (by omega)]
            have := klo i (by omega)
            exact (HN.out.lev i (by omega)).carry k3 (fun e9 => by have h1 := (HN.out.lev i (by omega)).kv; rw [e9, HN.out.kv] at h1; omega) (n2 _ this) (fun j hj => n2 _ (slo i j (by omega) hj)) (fun j hj => o2 _ (fun j' hj' e9 => by have := slo i j (by omega) hj; have := g2 j' hj'; omega))
        linj := fun i j hi hj e => by
          by_cases e1 : i = k
          · by_cases e2 : j = k
            · omega
            · rw [e1, uv, up j (by omega)] at e; have := klo j (by omega); omega
          · by_cases e2 : j = k
            · rw [e2, uv, up i (by omega)] at e; have := klo i (by omega); omega
            · rw [up i (by omega), up j (by omega)] at e; exact HN.out.linj i j (by omega) (by omega) e
        kb := (n2 _ blo).trans HN.out.kb
        inj := fun i j i' j' hi hi' hj hj' e => by
          by_cases e1 : i = k
          · by_cases e2 : i' = k
            · rw [e1, e2, uu] at e; exact ⟨by omega, b2.inj j j' hj hj' e⟩
            · rw [e1, uu, us i' (by omega)] at e; have := slo i' j' (by omega) hj'; have := g2 j hj; omega
          · by_cases e2 : i' = k
            · rw [e2, uu, us i (by omega)] at e; have := slo i j (by omega) hj; have := g2 j' hj'; omega
            · rw [us i (by omega), us i' (by omega)] at e; exact HN.out.inj i j i' j' (by omega) (by omega) hj hj' e
        ninj := fun i j hi hj => by
          by_cases e1 : i = k
          · rw [e1, uu]; have := g2 j hj; omega
          · rw [us i (by omega)]; exact HN.out.ninj i j (by omega) hj
        sq := fun i j hi hj => by
          by_cases e1 : i = k
          · rw [e1, uu]; exact q2 j hj
          · rw [us i (by omega), o2 _ (fun j' hj' e9 => by have := slo i j (by omega) hj; have := g2 j' hj'; omega)]; exact HN.out.sq i j (by omega) hj
        sqb := by rw [o2 _ (fun j' hj' e9 => by have := g2 j' hj'; omega)]; exact HN.out.sqb
        kept := HN.out.kept.step k3 (fun y hy e => by have := HN.out.hv; omega)
        hv := HN.out.hv
        kd := fun y hy => by have := HN.out.kept.size; rw [n2 y (by omega)]; exact HN.out.kd y hy })
      have HW3 := Lib.hid hw3
      clear hl
      clear k2 l2 b2 n2 g2 q2 o2 cb cs cc0 cc1 cc5 cc6 k2' hb2 hcv klo slo k3 k23 up us uv uu hv2 hw3
      go_wp2_with fail
      refine segs_go stay_nil (by simp [isLoad]) ?_
      go_wp2_with fail
      refine segs_nil ?_
      go_wp2_with fail
      rw [← HW3.out]
      go_roundw
      case rel => exact ⟨k + 1, s2, _, _, by omega, by go_num, NN.out⟩
      case measure => simp [intOf]; omega
    · obtain rfl : k = 4 := by omega
      go_wp2_with fail
      go_ret
      obtain ⟨c, cb, cs, cc0, cc1, cc5, cc6⟩ := HN.out.blk
      have hc : c = #[.int .u64 (now : Int), ptrN (lv 0), ptrN (lv 1), ptrN (lv 2), ptrN (lv 3), ptrN bd, .int .i64 ((0 : Nat) : Int)] := by
        refine Array.ext (by simpa using cs) fun i h1 h2 => ?_
        have e : ∀ u, c[i]? = some u → c[i] = u := fun u hu => by rw [Array.getElem?_eq_getElem h1] at hu; exact Option.some.inj hu
        obtain rfl | rfl | rfl | rfl | rfl | rfl | rfl : i = 0 ∨ i = 1 ∨ i = 2 ∨ i = 3 ∨ i = 4 ∨ i = 5 ∨ i = 6 := by omega
        · exact e _ cc0
        · exact e _ (cc1 0 (by omega))
        · exact e _ (cc1 1 (by omega))
        · exact e _ (cc1 2 (by omega))
        · exact e _ (cc1 3 (by omega))
        · exact e _ cc5
        · exact e _ cc6
      subst hc
      obtain ⟨s9, hs9⟩ : ∃ s9 : LS, s9 = { s with kd := fun y => if s.kd y = 6 then 0 else s.kd y } := ⟨_, rfl⟩
      have kd9 : ∀ y, s.kd y ≠ 6 → s9.kd y = s.kd y := fun y hy => by rw [hs9]; exact if_neg hy
      have kd6 : ∀ y, s9.kd y ≠ 6 := fun y => by
        rw [hs9]; show (if s.kd y = 6 then 0 else s.kd y) ≠ 6
        split
        · omega
        · assumption
      have kdi : ∀ y j, j ≠ 0 → s9.kd y = j → s.kd y = j := fun y j hj hy => by
        rw [hs9] at hy
        have hy' : (if s.kd y = 6 then 0 else s.kd y) = j := hy
        split at hy'
        · omega
        · exact hy'
      have sq9 : s9.sq = s.sq := by rw [hs9]
      have i9 : LInv s9 := by
        have i := HN.out.lw.inv
        have e1 : s9.nd = s.nd := by rw [hs9]
        have e2 : s9.to = s.to := by rw [hs9]
        have e3 : s9.hm = s.hm := by rw [hs9]
        refine ⟨fun l hl => ?_, fun l l' hl hl' e => i.inj l l' (kdi l 1 (by omega) hl) (kdi l' 1 (by omega) hl') (by rw [e3] at e; exact e), fun h h' h1 h2 => ?_, fun l hl => ?_, fun l x hl hx => ?_, fun l hl => ?_, fun x hx => ?_⟩
        · obtain ⟨h1, h2⟩ := i.hmk l (kdi l 1 (by omega) hl)
          rw [e3, e2]; exact ⟨(kd9 _ (by rw [h1]; omega)).trans h1, h2⟩
        · rw [e2] at h2
          have h3 := i.tok h h' (kdi h 3 (by omega) h1) h2
          exact (kd9 _ (by rw [h3]; omega)).trans h3
        · rw [e1, sq9]; exact i.lnk l (kdi l 1 (by omega) hl)
        · rw [sq9] at hx
          obtain ⟨h1, h, d, h2, h3, h4⟩ := i.mem l x (kdi l 1 (by omega) hl) hx
          rw [e1, e2, e3]
          exact ⟨(kd9 _ (by rw [h1]; omega)).trans h1, h, d, h2, (kd9 _ (by rw [h3]; omega)).trans h3, h4⟩
        · rw [sq9]; exact i.nodup l (kdi l 1 (by omega) hl)
        · rw [e1, sq9]
          rcases i.own x (kdi x 2 (by omega) hx) with h1 | ⟨l, h1, h2⟩
          · exact .inl h1
          · exact .inr ⟨l, (kd9 _ (by rw [h1]; omega)).trans h1, h2⟩
      have lw9 : LW_t s9 wr := by
        have L := HN.out.lw
        refine ⟨i9, fun x hx => ?_, fun x hx => ?_, fun x hx => ?_, fun x hx => ?_⟩
        · have := L.homes x (kdi x 3 (by omega) hx); rw [hs9]; exact this
        · have := L.nodes x (kdi x 2 (by omega) hx); rw [hs9]; exact this
        · have := L.lists x (kdi x 1 (by omega) hx); rw [hs9]; exact this
        · have h0 := L.fresh x hx
          rw [kd9 x (by omega)]; exact h0
      have klq : ∀ q, q < 257 → s.kd (lq sl bd q) = 1 ∧ s.sq (lq sl bd q) = [] := fun q hq => by
        unfold lq
        split
        · exact ⟨(HN.out.lev (q / 64) (by omega)).kl (q % 64) (by omega), HN.out.sq _ _ (by omega) (by omega)⟩
        · exact ⟨HN.out.kb, HN.out.sqb⟩
      refine ⟨v, s9, lv, sl, bd, ⟨now, fun _ => [], fun _ => 0, fun _ => 0, fun _ => .pointer none, fun _ _ => .pointer none, fun _ => 0, fun _ => 0, fun _ => .pointer none⟩, rfl, {
        kv := (kd9 _ (by rw [HN.out.kv]; omega)).trans HN.out.kv
        blk := cb
        now := hn
        lw := lw9
        lev := fun i hi => (HN.out.lev i hi).carry (Kept.refl (fun _ => False) _) (fun f => f) (kd9 _ (by rw [(HN.out.lev i hi).kv]; omega)) (fun j hj => kd9 _ (by rw [(HN.out.lev i hi).kl j hj]; omega)) (fun _ _ => by rw [sq9])
        linj := HN.out.linj
        kl := fun q hq => (kd9 _ (by rw [(klq q hq).1]; omega)).trans (klq q hq).1
        inj := fun q r hq hr e => by
          unfold lq at e
          split at e
          · split at e
            · obtain ⟨e1, e2⟩ := HN.out.inj _ _ _ _ (by omega) (by omega) (by omega) (by omega) e; omega
            · exact absurd e (HN.out.ninj _ _ (by omega) (by omega))
          · split at e
            · exact absurd e.symm (HN.out.ninj _ _ (by omega) (by omega))
            · omega
        sq := fun q hq => by rw [sq9]; exact (klq q hq).2
        ent := fun q e hq he => by cases he
        one := fun q r e hq hr he => by cases he
        nodup := fun q hq => List.nodup_nil
        hang := fun e he => by cases he
        hnd := List.nodup_nil
        out := fun e he => absurd he (kd6 e) }, rfl, fun _ => rfl, HN.out.kept, fun y hy => by have h0 := HN.out.kd y hy; rw [kd9 y (by omega)]; exact h0, kd6⟩

end Go.Proofs.Ythamdbfilpegjaa
