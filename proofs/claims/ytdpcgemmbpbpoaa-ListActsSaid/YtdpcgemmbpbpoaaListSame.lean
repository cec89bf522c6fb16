/-
  What stands here: the law's question 'same?' over lists that are the document's. Under no condition but that the world holds them.
-/
import Derived.Test.YtdpcgemmbpbpoaaListActsW
import Derived.Deep.CutRange
import Derived.Deep.CutBlock
namespace Go.Proofs.Ytdpcgemmbpbpoaa
set_option linter.unusedVariables false
set_option linter.unusedSimpArgs false
open Go.RowKit Go.Proofs

abbrev three (lb : Nat → Nat) : Array Value := #[.pointer (some ⟨lb 0, 0, none⟩), .pointer (some ⟨lb 1, 0, none⟩), .pointer (some ⟨lb 2, 0, none⟩)]
theorem three_at (lb : Nat → Nat) {j : Nat} (hj : j < 3) : (three lb)[j]? = some (.pointer (some ⟨lb j, 0, none⟩)) := by
  rcases j with _ | _ | _ | j
  · rfl
  · rfl
  · rfl
  · omega
set_option maxHeartbeats 4000000 in
set_option maxRecDepth 100000 in
theorem same_any {col : Nat → Nat} {R : Nat} {L : Nat → List Int} {lb : Nat → Nat} {s : LS} {ns : List Nat} {a : Option Addr} {n c : Nat} (w : World) (h : LW_i s w) (kl : ∀ j, j < 3 → s.kd (lb j) = 1) (inj : ∀ i j, i < 3 → j < 3 → lb i = lb j → i = j)
    (r : RefL col R L w) (row : Owns col 2 w 28 1 (.slice a n c) ns.length (ptrs ns)) (kx : ∀ x, x ∈ ns → s.kd x = 2) (nd : ns.Nodup) (t : TieL lb s ns L) (hl : ∀ k, k < 4 → (L k).length ≤ 1000) :
    Calls Try.prog 22 #[.agg (three lb), .slice a n c, .pointer (some ⟨R, 0, none⟩)] w fun e w' => e = .returned (.bool true) ∧ Still w w' := by
  obtain ⟨a', c', e9, hnc, hcm⟩ := row.form
  simp only [Value.slice.injEq] at e9
  obtain ⟨rfl, rfl, rfl⟩ := e9
  have hn1000 : ns.length ≤ 1000 := by rw [← t.len]; exact hl 3 (by omega)
  have H := Lib.hid h
  have KL := Lib.hid kl
  have INJ := Lib.hid inj
  have RR := Lib.hid r
  have ROW := Lib.hid row
  have KX := Lib.hid kx
  have ND := Lib.hid nd
  have T := Lib.hid t
  have HL := Lib.hid hl
  have hRl := r.lt
  clear h kl inj r row kx nd t hl
  obtain ⟨tb, htb⟩ : ∃ tb, w.heap.size = tb := ⟨_, rfl⟩
  have bT0 : Blk (w.alloc (.cells (three lb) 39)) tb (three lb) 39 := Blk.newAt _ _ _ htb
  have BT0 := Lib.hid bT0
  clear bT0
  go_enter Try.func22, Try.ntmps22
  go_wp2_with fail
  go_loopw [7] (fun i wr => ∃ j : Nat, j ≤ 3 ∧ i = .int .i64 j ∧ Still w wr ∧ Blk wr tb (three lb) 39) (fun i _ => 3 - (intOf i).toNat)
  case atStart => exact ⟨0, Nat.zero_le _, rfl, by (repeat (first | (with_reducible exact Kept.refl _ _) | (with_reducible refine Kept.drewN ?_ _) | (with_reducible refine Kept.drew ?_) | (with_reducible refine Kept.put ?_ _ _) | (with_reducible refine Kept.alloc ?_ _))), BT0.out⟩
  case round =>
    obtain ⟨j, hj, rfl, hst, hbT⟩ := hrel
    have ST := Lib.hid hst
    have BT := Lib.hid hbT
    clear hst hbT
    by_cases hj3 : j < 3
    · have cT := BT.out.cell j
      rw [three_at lb hj3] at cT
      obtain ⟨ra, rcp, hrc, hrf, hro, hrq⟩ := (RR.out.still ST.out).slot (k := j) (by omega)
      have e0 := T.out.lens hj3
      have hlj := HL.out j (by omega)
      obtain ⟨N, hN⟩ : ∃ N, N = (L j).length := ⟨_, rfl⟩
      rw [← hN] at hrc hro e0 hlj
      have HN := Lib.hid hN
      clear hN
      have CT := Lib.hid BT.out.cells
      have CR := Lib.hid (cells_of_cell hrc)
      have hsw : w.heap.size ≤ wr.heap.size := ST.out.size
      have HRQ := Lib.hid hrq
      have HRO := Lib.hid hro
      have E0 := Lib.hid e0
      clear hrq hro e0
      have HC := Lib.hid (cellsB_cons CT.out (cellsB_cons CR.out cellsB_nil))
      go_upto_region 4 with fail
      refine wp_region_text ([4], [9, 28]) [tb, R] (by kernel_rfl) (by kernel_rfl) (cellsB_cons CT.out (cellsB_cons CR.out cellsB_nil)) (by simp [segs, isEff, isLoad, askOps, asks, ptrEq, eqOrNe, isNil]; rfl) ?_
      (repeat ((first | (refine segs_nil ?_) | (refine segs_go (stay_drew) ?_ ?_; focus (simp [isLoad]; done)) | (refine segs_load (stay_drew) ?_ ?_; focus (intro h; first | exact ⟨tb, _, rfl, by simp⟩ | exact ⟨R, _, rfl, by simp⟩ | (simp [Region.wanted, yielded] at h; done))) | fail); go_wp2_with fail))
      have K1 := Lib.hid ((still_refl wr).drewN 1)
      refine (llen_i s _ (H.out.still (ST.out.of_still K1.out)) (lb j) (KL.out j hj3)).mono ?_
      rintro e w2 ⟨rfl, rfl⟩
      rw [E0.out]
      go_wp2_with fail
      (repeat ((first | (refine segs_nil ?_) | (refine segs_go (stay_drew) ?_ ?_; focus (simp [isLoad]; done)) | (refine segs_load (stay_drew) ?_ ?_; focus (intro h; first | exact ⟨tb, _, rfl, by simp⟩ | exact ⟨R, _, rfl, by simp⟩ | (simp [Region.wanted, yielded] at h; done))) | fail); go_wp2_with fail))
      have hone : ∀ x, x ∈ s.sq (lb j) → ∃ v, (s.nd x).val = .int .i64 v := fun x hx => T.out.one (T.out.inNs hj3 hx)
      refine (lallo_i s _ (H.out.still (ST.out.of_still K1.out)) (lb j) (KL.out j hj3) (by rw [E0.out]; omega) hone).mono ?_
      rintro e w3 ⟨⟨v3, rfl, ho3⟩, k3⟩
      rw [T.out.vals hj3, E0.out] at ho3
      have K3 := Lib.hid (K1.out.of_still ((kept_of_below k3).mono fun y h1 h2 => absurd h2 (by omega)))
      have HS3 := Lib.hid (StayB.ofk HC.out K3.out)
      have O3 := Lib.hid ho3
      obtain ⟨a3, c3, rfl⟩ := owns_slice ho3
      clear k3 ho3 hone
      go_wp2_with fail
      (repeat ((first | (refine segs_nil ?_) | (refine segs_go (HS3.out) ?_ ?_; focus (simp [isLoad]; done)) | (refine segs_load (HS3.out) ?_ ?_; focus (intro h; first | exact ⟨tb, _, rfl, by simp⟩ | exact ⟨R, _, rfl, by simp⟩ | (simp [Region.wanted, yielded] at h; done))) | fail); go_wp2_with fail))
      refine (refall_any w3 (RR.out.still (ST.out.of_still K3.out)) HL.out hj3 (fun z hz => by rw [T.out.len]; exact T.out.dom j hj3 z hz)).mono ?_
      rintro e w4 ⟨⟨v4, rfl, ho4⟩, k4⟩
      obtain ⟨a4, c4, rfl⟩ := owns_slice ho4
      have K4 := Lib.hid (K3.out.of_still k4)
      have HS4 := Lib.hid (StayB.ofk HC.out K4.out)
      have i45 := ints_any _ _ _ _ _ _ w4 (VRow.of_owns (owns_kept2 O3.out k4 (fun _ _ f => f))) (VRow.of_owns ho4)
      rw [decide_eq_true rfl] at i45
      have I45 := Lib.hid i45
      clear i45 k4 ho4
      go_wp2_with fail
      (repeat ((first | (refine segs_nil ?_) | (refine segs_go (HS4.out) ?_ ?_; focus (simp [isLoad]; done)) | (refine segs_load (HS4.out) ?_ ?_; focus (intro h; first | exact ⟨tb, _, rfl, by simp⟩ | exact ⟨R, _, rfl, by simp⟩ | (simp [Region.wanted, yielded] at h; done))) | fail); go_wp2_with fail))
      refine I45.out.mono ?_
      rintro e w5 ⟨rfl, k5⟩
      have K5 := Lib.hid (K4.out.of_still k5)
      have HS5 := Lib.hid (StayB.ofk HC.out K5.out)
      have cT5 := still_cell K5.out cT
      have hrc5 := still_cell K5.out hrc
      clear k5 cT hrc
      go_wp2_with fail
      (repeat ((first | (refine segs_nil ?_) | (refine segs_go (HS5.out) ?_ ?_; focus (simp [isLoad]; done)) | (refine segs_load (HS5.out) ?_ ?_; focus (intro h; first | exact ⟨tb, _, rfl, by simp⟩ | exact ⟨R, _, rfl, by simp⟩ | (simp [Region.wanted, yielded] at h; done))) | fail); go_wp2_with fail))
      have S5 := Lib.hid (ST.out.of_still K5.out)
      refine (lfirst_i s _ (H.out.still S5.out) (lb j) (KL.out j hj3)).mono ?_
      rintro e w6 ⟨rfl, rfl⟩
      obtain ⟨f0, hf0⟩ : ∃ f0, f0 = ptrO (hd (s.sq (lb j)) none) := ⟨_, rfl⟩
      rw [← hf0]
      rw [T.out.eq j hj3] at hf0
      have HF0 := Lib.hid hf0
      clear hf0
      have S5' := Lib.hid (H.out.still S5.out)
      go_upto_region 7 with fail
      go_cut [70] from 41 to 69 (fun b wx => b = .bool false ∧ wx = w5)
      case first =>
        as_aux_lemma =>
          rcases (show L j = [] ∨ ∃ z rest, L j = z :: rest by
            cases L j with
            | nil => exact .inl rfl
            | cons z rest => exact .inr ⟨z, rest, rfl⟩) with hL | ⟨z, rest, hL⟩
          case inl =>
            have h1 := HN.out
            have h2 := HF0.out
            rw [hL] at h1 h2
            have h1' : N = 0 := h1
            clear h1
            subst h1'
            have h2' : f0 = .pointer none := h2
            clear h2
            subst h2'
            go_wp2_with fail
            go_meet
            case rel => exact ⟨rfl, rfl⟩
          case inr =>
            have h1 := HN.out
            have h2 := HF0.out
            rw [hL] at h1 h2
            obtain ⟨d1, d2⟩ := T.out.dom j hj3 z (by rw [hL]; simp)
            obtain ⟨m, rfl⟩ : ∃ m : Nat, z = m := ⟨z.toNat, by omega⟩
            have hmn : m < ns.length := by omega
            obtain ⟨g, rfl, hcz, hgl, _⟩ := HRQ.out 0 (m : Int) (by rw [hL]; rfl)
            have hcz5 := still_cell K5.out hcz
            have hx9 : ns[m]? = some (ns.getD m 0) := by rw [List.getD_eq_getElem?_getD, List.getElem?_eq_getElem hmn]; rfl
            obtain ⟨g2, rfl, hg2l, _, _, hc2⟩ := nodes_at (ROW.out.still S5.out) hx9
            rw [Nat.zero_add] at hc2
            have bx := S5'.out.nodes _ (KX.out _ (List.mem_of_getElem? hx9))
            have hne := ne_ptr Try.underlying28 sizeNode_i bx bx
            rw [show (!decide (ns.getD m 0 = ns.getD m 0)) = false by simp] at hne
            have e0 : f0 = .pointer (some ⟨ns.getD m 0, 0, none⟩) := h2.trans (by simp [nodesOf, hd, ptrO])
            subst e0
            generalize ns.getD m 0 = x at *
            have hNp : 0 < N := by rw [h1]; simp
            have hb : ((N : Int) == 0) = false := by rw [beq_eq_false_iff_ne]; omega
            clear bx hcz hx9 hL h1 h2
            go_wp2_with fail
            go_meet
            case rel => exact ⟨rfl, rfl⟩
      case rest =>
        obtain ⟨rfl, rfl⟩ := hcut
        go_wp2_with fail
        go_loopw [9] (fun kv wr2 => ∃ k : Nat, k ≤ ns.length ∧ kv = .int .i64 k ∧ Still wr wr2) (fun kv _ => ns.length - (intOf kv).toNat)
        case atStart => exact ⟨0, Nat.zero_le _, rfl, K5.out⟩
        case round =>
          obtain ⟨k, hk, rfl, hst2⟩ := hrel
          have KK := Lib.hid hst2
          clear hst2
          by_cases hkn : k < ns.length
          · obtain ⟨x, hx9⟩ : ∃ x, ns[k]? = some x := ⟨_, List.getElem?_eq_getElem hkn⟩
            have hxd : ns.getD k 0 = x := by rw [List.getD_eq_getElem?_getD, hx9]; rfl
            have HXD := Lib.hid hxd
            clear hxd
            obtain ⟨g2, rfl, hg2l, _, _, hc2⟩ := nodes_at (ROW.out.still (ST.out.of_still KK.out)) hx9
            rw [Nat.zero_add] at hc2
            have cT := (BT.out.still KK.out).cell j
            rw [three_at lb hj3] at cT
            have CT := Lib.hid (BT.out.still KK.out).cells
            have CG := Lib.hid (cells_of_cell hc2)
            have HX := Lib.hid hx9
            have hkx := KX.out _ (List.mem_of_getElem? hx9)
            clear hx9
            go_upto_region 12 with fail
            refine wp_region_text ([4], [9, 28]) [tb, g2] (by kernel_rfl) (by kernel_rfl) (cellsB_cons CT.out (cellsB_cons CG.out cellsB_nil)) (by simp [segs, isEff, isLoad, askOps, asks, ptrEq, eqOrNe, isNil]; rfl) ?_
            (repeat ((first | (refine segs_nil ?_) | (refine segs_go (stay_drew) ?_ ?_; focus (simp [isLoad]; done)) | (refine segs_load (stay_drew) ?_ ?_; focus (intro h; first | exact ⟨tb, _, rfl, by simp⟩ | exact ⟨g2, _, rfl, by simp⟩ | (simp [Region.wanted, yielded] at h; done))) | fail); go_wp2_with fail))
            have W1 := Lib.hid ((ST.out.of_still KK.out).of_still ((still_refl wr).drewN 1))
            refine (lhas_i s _ (H.out.still W1.out) (lb j) x (KL.out j hj3) hkx).mono ?_
            rintro e w7 ⟨rfl, k7⟩
            have HS7 := Lib.hid (StayB.stil (ds := [tb, g2]) stay_drew (cellsB_cons CT.out (cellsB_cons CG.out cellsB_nil)) k7)
            have K7 := Lib.hid ((KK.out.of_still ((still_refl wr).drewN 1)).of_still k7)
            clear k7
            obtain ⟨B, hB⟩ : ∃ B, B = decide (x ∈ s.sq (lb j)) := ⟨_, rfl⟩
            rw [← hB]
            have HB := Lib.hid hB
            clear hB
            go_wp2_with fail
            (repeat ((first | (refine segs_nil ?_) | (refine segs_go (HS7.out) ?_ ?_; focus (simp [isLoad]; done)) | (refine segs_load (HS7.out) ?_ ?_; focus (intro h; first | exact ⟨tb, _, rfl, by simp⟩ | exact ⟨g2, _, rfl, by simp⟩ | (simp [Region.wanted, yielded] at h; done))) | fail); go_wp2_with fail))
            refine (of_any (k : Int) w7 (RR.out.still (ST.out.of_still K7.out)) (fun q hq => HL.out q (by omega))).mono ?_
            rintro e w8 ⟨z, rfl, rfl, hz⟩
            have hzb : (z == (j : Int)) = B := by
              rw [HB.out, ← HXD.out]
              rcases hz with ⟨q, hq3, rfl, hqm, _⟩ | ⟨rfl, hno⟩
              · by_cases e : q = j
                · subst e
                  rw [decide_eq_true ((T.out.mem ND.out hq3 hkn).2 hqm), beq_iff_eq]
                · rw [decide_eq_false (fun h9 => e (T.out.once ND.out H.out.inv KL.out INJ.out hq3 hj3 hkn hqm ((T.out.mem ND.out hj3 hkn).1 h9))), beq_eq_false_iff_ne]
                  omega
              · rw [decide_eq_false (fun h9 => hno j hj3 ((T.out.mem ND.out hj3 hkn).1 h9)), beq_eq_false_iff_ne]
                omega
            clear hz
            go_wp2_with fail
            (repeat ((first | (refine segs_nil ?_) | (refine segs_go (HS7.out) ?_ ?_; focus (simp [isLoad]; done)) | (refine segs_load (HS7.out) ?_ ?_; focus (intro h; first | exact ⟨tb, _, rfl, by simp⟩ | exact ⟨g2, _, rfl, by simp⟩ | (simp [Region.wanted, yielded] at h; done))) | fail); go_wp2_with fail))
            go_roundw
            case rel => exact ⟨k + 1, by omega, by go_num, K7.out⟩
            case measure => simp [intOf]; omega
          · obtain rfl : k = ns.length := by omega
            go_wp2_with fail
            go_roundw
            case rel => exact ⟨j + 1, by omega, by go_num, ST.out.of_still KK.out, BT.out.still KK.out⟩
            case measure => simp [intOf]; omega
    · obtain rfl : j = 3 := by omega
      go_wp2_with fail
      go_ret
      exact ⟨rfl, ST.out⟩
end Go.Proofs.Ytdpcgemmbpbpoaa
