/-
  What stands here: the document's pipe, and what its functions answer. Under no condition but that the world holds it.
-/
import Derived.Test.YtlpmfiplcikfpaaRow
import Derived.Test.YtlpmfiplcikfpaaAppend
import Derived.Test.YtlpmfiplcikfpaaOwn
import Derived.Test.YtlpmfiplcikfpaaTextLast
import Derived.Deep.CutRange
import Derived.Deep.CutBlock
import Derived.Laws.AppendOwnNone
namespace Go.Proofs.Ytlpmfiplcikfpaa
set_option linter.unusedVariables false
set_option linter.unusedSimpArgs false
open Go.RowKit Go.Proofs

def irow (l : List Int) : List Value := l.map (.int .i64)
theorem irow_len (l : List Int) : (irow l).length = l.length := List.length_map ..
theorem irow_snoc (l : List Int) (z : Int) : irow (l ++ [z]) = irow l ++ [.int .i64 z] := by simp [irow]
theorem StayB.stil {ds : List Nat} {w0 w w' : World} (h : StayB ds w0 w) (c : CellsB ds w0) (k : Still w w') : StayB ds w0 w' := fun b hb => by
  have hlt : b < w.heap.size := by
    have h0 := h b hb
    rcases c b hb with ⟨x, t, f, e⟩ | ⟨x, t, e⟩
    · exact lt_of_block (h0.trans e)
    · exact lt_of_block (h0.trans e)
  exact (k.block b hlt (fun f => f)).trans (h b hb)
theorem infoInt : (Try.prog.info? 3).map (fun i => (i.zero, i.size, i.bytes)) = some (some (.int .i64 0), 1, 8) := by kernel_rfl
/-- the document's pipe: a block, a row of its own -/
structure RP (R N : Nat) (xs : List Int) (mx : Nat) (shut : Bool) (lv : Value) (W : World) : Prop where
  blk : Blk W R #[.int .i64 N, lv, .bool shut, .int .i64 mx] 40
  own : W.ownsRow 0 3 1 lv xs.length (irow xs)
  ne : lv.ownBlock ≠ some R
section
variable {R N : Nat} {xs : List Int} {mx : Nat} {shut : Bool} {lv : Value} {W : World}
theorem own_kept {S : Nat → Prop} {w w' : World} {base : Nat} {e : TypeId} {size : Nat} {v : Value} {n : Nat} {xs : List Value} (h : w.ownsRow base e size v n xs) (k : Kept S w w') (hS : ∀ b, v.ownBlock = some b → ¬ S b) : w'.ownsRow base e size v n xs := by
  obtain ⟨hl, h | ⟨g, cap, cur, rfl, hbg, hgb, hnc, hcm, hcs, htake⟩⟩ := h
  · exact ⟨hl, .inl h⟩
  · exact ⟨hl, .inr ⟨g, cap, cur, rfl, hbg, (k.block g (lt_of_block hgb) (hS g rfl)).trans hgb, hnc, hcm, hcs, htake⟩⟩
theorem RP.kept (h : RP R N xs mx shut lv W) {S : Nat → Prop} {W' : World} (k : Kept S W W') (h1 : ¬ S R) (h2 : ∀ b, lv.ownBlock = some b → ¬ S b) : RP R N xs mx shut lv W' := ⟨h.blk.kept k h1, own_kept h.own k h2, h.ne⟩
theorem RP.still (h : RP R N xs mx shut lv W) {W' : World} (k : Still W W') : RP R N xs mx shut lv W' := h.kept k (fun f => f) (fun _ _ f => f)
set_option maxRecDepth 100000 in
theorem rspilled (h : RP R N xs mx shut lv W) (hx : xs.length < 100000) (hN : N < 100000) : Calls Try.prog 19 #[.pointer (some ⟨R, 0, none⟩)] W fun e w' => e = .returned (.int .i64 (xs.length - N : Nat)) ∧ Still W w' := by
  obtain ⟨a, c, rfl⟩ := owns_slice h.own
  have c0 : W.cell? ⟨R, 0, none⟩ = some (.int .i64 N) := h.blk.cell 0
  have c1 : W.cell? ⟨R, 1, none⟩ = some (.slice a xs.length c) := h.blk.cell 1
  have CP := Lib.hid h.blk.cells
  clear h
  generalize xs.length = X at *
  by_cases hXN : N < X
  · obtain ⟨D, hD⟩ : ∃ D : Nat, (X : Int) - (N : Int) = D := ⟨X - N, by omega⟩
    have hDX : X - N = D := by omega
    rw [hDX]
    go_enter Try.func19, Try.ntmps19
    go_upto_region 1 with fail
    go_quiet (fail)
    go_upto_region 2 with fail
    go_quiet (fail)
    go_wp2_with fail
    go_ret
    exact ⟨rfl, ((still_refl W).drewN _).drewN _⟩
  · have hd : decide (N < X) = false := decide_eq_false hXN
    have hDX : X - N = 0 := by omega
    rw [hDX]
    go_enter Try.func19, Try.ntmps19
    go_upto_region 1 with fail
    go_quiet (fail)
    go_wp2_with fail
    go_ret
    exact ⟨rfl, (still_refl W).drewN _⟩
set_option maxRecDepth 100000 in
theorem rput_shut (h : RP R N xs mx true lv W) (v : Int) : Calls Try.prog 17 #[.pointer (some ⟨R, 0, none⟩), .int .i64 v] W fun e w' => e = .returned (.tuple #[.bool false, .bool true]) ∧ W = w' := by
  have c2 : W.cell? ⟨R, 2, none⟩ = some (.bool true) := h.blk.cell 2
  clear h
  go_enter Try.func17, Try.ntmps17
  go_wp2_with fail
  go_ret2
  exact ⟨rfl, rfl⟩
set_option maxRecDepth 100000 in
set_option maxHeartbeats 1000000 in
theorem rput (h : RP R N xs mx false lv W) (v : Int) (hx : xs.length < 10000) (hN : N < 100000) (hm : mx < 100000) : Calls Try.prog 17 #[.pointer (some ⟨R, 0, none⟩), .int .i64 v] W fun e w' => e = .returned (.tuple #[.bool (decide (N ≤ xs.length)), .bool false]) ∧ Kept (fun y => y = R ∨ lv.ownBlock = some y) W w' ∧ ∃ lv', RP R N (xs ++ [v]) (max mx (xs.length + 1 - N)) false lv' w' ∧ ∀ b, lv'.ownBlock = some b → lv.ownBlock = some b ∨ W.heap.size ≤ b := by
  obtain ⟨j0, hj, hj0, hj1, hj2⟩ := info_parts infoInt
  obtain ⟨q, hq⟩ : ∃ q, q = xs.length + 1 - N := ⟨_, rfl⟩
  rw [← hq]
  have hq2 : (xs ++ [v]).length - N = q := by rw [List.length_append, List.length_singleton, hq]
  have hqb : q < 100000 := by omega
  have hqd : decide (N ≤ xs.length) = decide (0 < q) := by rw [decide_eq_decide]; omega
  rw [hqd]
  have HQ2 := Lib.hid hq2
  clear hq hq2 hqd
  have c1 : W.cell? ⟨R, 1, none⟩ = some lv := h.blk.cell 1
  have c2 : W.cell? ⟨R, 2, none⟩ = some (.bool false) := h.blk.cell 2
  have f1 := h.blk.free 1
  have st : Still W (W.alloc (.cells #[.int .i64 v] 3)) := (still_refl W).alloc _
  have hoa := own_kept h.own st (fun _ _ f => f)
  have H := Lib.hid h
  clear h
  go_enter Try.func17, Try.ntmps17
  go_wp2_with (first | (at_builtin; refine wpList_append _ rfl _ _ 35 rfl 0 3 j0 (.int .i64 0) 1 8 Try.underlying35 hj hj0 hj1 hj2 rfl (by decide) _ _ _ rfl (hoa) ⟨W.heap.size, 0, none⟩ 1 1 [.int .i64 v] rfl rfl (by intro j u hj; match j, hj with | 0, hj => simp at hj; subst hj; first | (simp [Addr.add]; done) | exact (Blk.newAt _ _ _ (by simp)).cell 0) (by intro u hu; simp at hu; subst hu; rfl) (by unfold maxLen; omega) (by omega) (by first | omega | (simp; omega) | simp) ?_) | fail)
  intro lv' w2 hap
  have k2 : Kept (fun y => lv.ownBlock = some y) W w2 := (st.mono (fun _ _ f => f.elim)).grown hap.grown (fun k e _ => e)
  have b2 := H.out.blk.kept k2 H.out.ne
  have hblk : ∀ b, lv'.ownBlock = some b → lv.ownBlock = some b ∨ W.heap.size ≤ b := fun b hb => by
    rcases hap.block b hb with h9 | h9
    · exact .inl h9
    · exact .inr (by simp at h9; omega)
  have hRW := H.out.blk.lt
  have hne' : lv'.ownBlock ≠ some R := fun e => by
    rcases hblk R e with h9 | h9
    · exact H.out.ne h9
    · omega
  have f2 := b2.free 1
  have d1 := b2.cell 1
  have ho2 := hap.owns
  obtain ⟨va, vc, rfl⟩ := owns_slice ho2
  have k3 : Kept (fun y => y = R) w2 (w2.setCell ⟨R, 1, none⟩ (.slice va (xs.length + 1) vc)) := Kept.setCell (S := fun y => y = R) (Kept.refl _ _) (fun _ => rfl) _
  have h3 : RP R N (xs ++ [v]) mx false (.slice va (xs.length + 1) vc) (w2.setCell ⟨R, 1, none⟩ (.slice va (xs.length + 1) vc)) := ⟨b2.set' rfl, by
    rw [List.length_append, List.length_singleton, irow_snoc]
    exact own_kept ho2 k3 (fun b hb e => hne' (by rw [hb]; exact congrArg some e)), hne'⟩
  have kk : Kept (fun y => y = R ∨ lv.ownBlock = some y) W (w2.setCell ⟨R, 1, none⟩ (.slice va (xs.length + 1) vc)) := (k2.mono (fun _ _ e => .inr e)).step k3 (fun i _ e => .inl e)
  have HBK := Lib.hid hblk
  have H3 := Lib.hid h3
  have KK := Lib.hid kk
  clear hap hoa ho2 hblk hne' h3 kk k3 k2 b2 st c1 c2 f1
  go_upto_region 4 with fail
  generalize w2.setCell ⟨R, 1, none⟩ (.slice va (xs.length + 1) vc) = w3 at *
  have e3 : w3.cell? ⟨R, 3, none⟩ = some (.int .i64 mx) := H3.out.blk.cell 3
  have CP := Lib.hid H3.out.blk.cells
  have fin : ∀ (w4 : World), RP R N (xs ++ [v]) mx false (.slice va (xs.length + 1) vc) w4 → Kept (fun y => y = R ∨ lv.ownBlock = some y) W w4 → ∀ mx', mx' = max mx q → RP R N (xs ++ [v]) mx' false (.slice va (xs.length + 1) vc) (w4.setCell ⟨R, 3, none⟩ (.int .i64 mx')) ∧ Kept (fun y => y = R ∨ lv.ownBlock = some y) W (w4.setCell ⟨R, 3, none⟩ (.int .i64 mx')) := fun w4 h4 k4 mx' _ => by
    have k5 : Kept (fun y => y = R) w4 (w4.setCell ⟨R, 3, none⟩ (.int .i64 mx')) := Kept.setCell (S := fun y => y = R) (Kept.refl _ _) (fun _ => rfl) _
    exact ⟨⟨h4.blk.set' rfl, own_kept h4.own k5 (fun b hb e => h4.ne (by rw [hb]; exact congrArg some e)), h4.ne⟩, k4.step k5 (fun i _ e => .inl e)⟩
  have FIN := Lib.hid fin
  clear fin
  by_cases hmq : mx < q
  · have e9 : max mx q = q := by omega
    have hq0 : decide (0 < q) = true := decide_eq_true (by omega)
    refine wp_region_text ([4], [9, 38]) [R] (by kernel_rfl) (by kernel_rfl) (cellsB_cons CP.out cellsB_nil) (by simp [segs, isEff, isLoad, askOps, asks, ptrEq, eqOrNe, isNil]; rfl) ?_
    (repeat ((first | (refine segs_nil ?_) | (refine segs_go (stay_drew) ?_ ?_; focus (simp [isLoad]; done)) | (refine segs_load (stay_drew) ?_ ?_; focus (intro h; first | exact ⟨R, _, rfl, by simp⟩ | (simp [Region.wanted, yielded] at h; done))) | fail); go_wp2_with fail))
    refine (rspilled (H3.out.still ((still_refl w3).drewN 1)) (by simp; omega) hN).mono ?_
    rintro e w4 ⟨rfl, k4⟩
    rw [HQ2.out]
    have HS4 := Lib.hid (StayB.stil (ds := [R]) stay_drew (cellsB_cons CP.out cellsB_nil) k4)
    have H4 := Lib.hid ((H3.out.still ((still_refl w3).drewN 1)).still k4)
    have KK4 := Lib.hid ((KK.out.of_still ((still_refl w3).drewN 1)).of_still k4)
    have e4 : w4.cell? ⟨R, 3, none⟩ = some (.int .i64 mx) := H4.out.blk.cell 3
    clear k4
    go_wp2_with fail
    (repeat ((first | (refine segs_nil ?_) | (refine segs_go (HS4.out) ?_ ?_; focus (simp [isLoad]; done)) | (refine segs_load (HS4.out) ?_ ?_; focus (intro h; first | exact ⟨R, _, rfl, by simp⟩ | (simp [Region.wanted, yielded] at h; done))) | fail); go_wp2_with fail))
    refine (rspilled H4.out (by simp; omega) hN).mono ?_
    rintro e w5 ⟨rfl, k5⟩
    rw [HQ2.out]
    have H5 := Lib.hid (H4.out.still k5)
    have KK5 := Lib.hid (KK4.out.of_still k5)
    have f5 := H5.out.blk.free 3
    have g5 := H5.out.blk.cell 3
    clear k5
    go_wp2_with fail
    obtain ⟨h6, k6⟩ := FIN.out w5 H5.out KK5.out q e9.symm
    have H6 := Lib.hid h6
    have KK6 := Lib.hid k6
    clear h6 k6 f5 g5
    generalize w5.setCell ⟨R, 3, none⟩ (.int .i64 q) = w6 at *
    refine (rspilled H6.out (by simp; omega) hN).mono ?_
    rintro e w7 ⟨rfl, k7⟩
    rw [HQ2.out]
    have H7 := Lib.hid (H6.out.still k7)
    have KK7 := Lib.hid (KK6.out.of_still k7)
    clear k7
    go_wp2_with fail
    go_ret2
    exact ⟨by rw [hq0]; try rfl, KK7.out, _, by rw [e9]; exact H7.out, HBK.out⟩
  · have e9 : max mx q = mx := by omega
    have hdm : decide (mx < q) = false := decide_eq_false hmq
    refine wp_region_text ([4], [9, 38]) [R] (by kernel_rfl) (by kernel_rfl) (cellsB_cons CP.out cellsB_nil) (by simp [segs, isEff, isLoad, askOps, asks, ptrEq, eqOrNe, isNil]; rfl) ?_
    (repeat ((first | (refine segs_nil ?_) | (refine segs_go (stay_drew) ?_ ?_; focus (simp [isLoad]; done)) | (refine segs_load (stay_drew) ?_ ?_; focus (intro h; first | exact ⟨R, _, rfl, by simp⟩ | (simp [Region.wanted, yielded] at h; done))) | fail); go_wp2_with fail))
    refine (rspilled (H3.out.still ((still_refl w3).drewN 1)) (by simp; omega) hN).mono ?_
    rintro e w4 ⟨rfl, k4⟩
    rw [HQ2.out]
    have HS4 := Lib.hid (StayB.stil (ds := [R]) stay_drew (cellsB_cons CP.out cellsB_nil) k4)
    have H4 := Lib.hid ((H3.out.still ((still_refl w3).drewN 1)).still k4)
    have KK4 := Lib.hid ((KK.out.of_still ((still_refl w3).drewN 1)).of_still k4)
    have e4 : w4.cell? ⟨R, 3, none⟩ = some (.int .i64 mx) := H4.out.blk.cell 3
    clear k4
    go_wp2_with fail
    (repeat ((first | (refine segs_nil ?_) | (refine segs_go (HS4.out) ?_ ?_; focus (simp [isLoad]; done)) | (refine segs_load (HS4.out) ?_ ?_; focus (intro h; first | exact ⟨R, _, rfl, by simp⟩ | (simp [Region.wanted, yielded] at h; done))) | fail); go_wp2_with fail))
    refine (rspilled H4.out (by simp; omega) hN).mono ?_
    rintro e w5 ⟨rfl, k5⟩
    rw [HQ2.out]
    have H5 := Lib.hid (H4.out.still k5)
    have KK5 := Lib.hid (KK4.out.of_still k5)
    clear k5
    go_wp2_with fail
    go_ret2
    exact ⟨by simp, KK5.out, _, by rw [e9]; exact H5.out, HBK.out⟩
set_option maxRecDepth 100000 in
theorem rtake_none (h : RP R N [] mx shut lv W) : Calls Try.prog 18 #[.pointer (some ⟨R, 0, none⟩)] W fun e w' => e = .returned (.tuple #[.int .i64 0, .bool false]) ∧ W = w' := by
  obtain ⟨a, c, rfl⟩ := owns_slice h.own
  have c1 : W.cell? ⟨R, 1, none⟩ = some (.slice a 0 c) := h.blk.cell 1
  clear h
  go_enter Try.func18, Try.ntmps18
  go_wp2_with fail
  go_ret2
  exact ⟨rfl, rfl⟩
set_option maxRecDepth 100000 in
set_option maxHeartbeats 1000000 in
theorem rtake {x : Int} {rest : List Int} (h : RP R N (x :: rest) mx shut lv W) (hx : rest.length < 10000) : Calls Try.prog 18 #[.pointer (some ⟨R, 0, none⟩)] W fun e w' => e = .returned (.tuple #[.int .i64 x, .bool true]) ∧ Kept (fun y => y = R) W w' ∧ ∃ lv', RP R N rest mx shut lv' w' ∧ ∀ b, lv'.ownBlock = some b → W.heap.size ≤ b := by
  obtain ⟨j0, hj, hj0, hj1, hj2⟩ := info_parts infoInt
  have ho := h.own
  obtain ⟨a, c, rfl⟩ := owns_slice ho
  obtain ⟨hl, ⟨e1, e2⟩ | ⟨g, cap, cur, e1, _, hgb, hnc, hcm, hcs, htake⟩⟩ := ho
  · simp at e2
  simp only [Value.slice.injEq] at e1
  obtain ⟨rfl, _, rfl⟩ := e1
  have hcells := h.own.cells (g := g) rfl
  have e0 := hcells 0 (.int .i64 x) rfl
  have c1 : W.cell? ⟨R, 1, none⟩ = some (.slice (some ⟨g, 0, none⟩) (rest.length + 1) c) := h.blk.cell 1
  have e0' : W.cell? ⟨g, 0, none⟩ = some (.int .i64 x) := e0
  have H := Lib.hid h
  have HCL := Lib.hid hcells
  have hcap : rest.length + 1 ≤ c := hnc
  have hcm' : c ≤ maxLen := hcm
  unfold maxLen at hcm'
  clear h e0 hcells hnc hcm htake hcs
  go_enter Try.func18, Try.ntmps18
  have hRW := H.out.blk.lt
  have hgW : g < W.heap.size := lt_of_cell e0'
  have hoe : (W.alloc (.cells #[] 3)).ownsRow 0 3 1 (.slice (some ⟨W.heap.size, 0, none⟩) 0 0) 0 [] :=
    ⟨rfl, .inr ⟨W.heap.size, 0, #[], rfl, Nat.zero_le _, Blk.new _ _ _, Nat.le_refl _, Nat.zero_le _, rfl, rfl⟩⟩
  have hnews : ∀ j u, (irow rest)[j]? = some u → (W.alloc (.cells #[] 3)).cell? ((⟨g, 1, none⟩ : Addr).add j) = some u := fun j u hj => by
    have e1 := HCL.out (j + 1) u (by simpa [irow] using hj)
    have e2 : (W.alloc (.cells #[] 3)).cell? ⟨g, 1 + j, none⟩ = W.cell? ⟨g, 1 + j, none⟩ := World.cell?_of_block (a := ⟨g, 1 + j, none⟩) (Below.heap_alloc _ _ _ (by simp only; omega))
    rw [show (⟨g, 1, none⟩ : Addr).add j = ⟨g, 1 + j, none⟩ by simp [Addr.add], e2, ← e1]
    simp [Addr.add, Nat.add_comm]
  have hone : ∀ u ∈ irow rest, u.oneCell' = true := fun u hu => by
    obtain ⟨z, _, rfl⟩ := List.mem_map.1 hu
    rfl
  have fin : rest = [] → Kept (fun y => y = R) W ((W.setCell ⟨R, 1, none⟩ (.slice (some ⟨W.heap.size, 0, none⟩) 0 0)).alloc (.cells #[] 3)) ∧ ∃ lv', RP R N rest mx shut lv' ((W.setCell ⟨R, 1, none⟩ (.slice (some ⟨W.heap.size, 0, none⟩) 0 0)).alloc (.cells #[] 3)) ∧ ∀ b, lv'.ownBlock = some b → W.heap.size ≤ b := by
    rintro rfl
    have hs : (W.setCell ⟨R, 1, none⟩ (.slice (some ⟨W.heap.size, 0, none⟩) 0 0)).heap.size = W.heap.size := World.size_setCell ..
    have k1 : Kept (fun y => y = R) W (W.setCell ⟨R, 1, none⟩ (.slice (some ⟨W.heap.size, 0, none⟩) 0 0)) := Kept.setCell (S := fun y => y = R) (Kept.refl _ _) (fun _ => rfl) _
    refine ⟨k1.alloc _, .slice (some ⟨W.heap.size, 0, none⟩) 0 0, ⟨(H.out.blk.set' rfl).kept ((Kept.refl (fun _ => False) _).alloc _) (fun f => f), ⟨rfl, .inr ⟨W.heap.size, 0, #[], rfl, Nat.zero_le _, ?_, Nat.le_refl _, Nat.zero_le _, rfl, rfl⟩⟩, ?_⟩, ?_⟩
    · have := Blk.new (W.setCell ⟨R, 1, none⟩ (.slice (some ⟨W.heap.size, 0, none⟩) 0 0)) #[] 3
      rwa [hs] at this
    · simp only [Value.ownBlock, ne_eq, Option.some.injEq]; omega
    · intro b hb; simp only [Value.ownBlock, Option.some.injEq] at hb; omega
  have FIN := Lib.hid fin
  clear fin
  have f1 := H.out.blk.free 1
  go_upto_region 4 with fail
  by_cases hr : rest.length = 0
  · obtain rfl := List.length_eq_zero_iff.1 hr
    clear hr
    by_cases hc1 : c = 1
    · subst hc1
      go_wp2_with fail
      go_ret2
      exact ⟨rfl, FIN.out (by simp)⟩
    · have hc2 : 1 < c := by simp at hcap; omega
      go_wp2_with fail
      go_ret2
      exact ⟨rfl, FIN.out (by simp)⟩
  · have hc1 : 1 < c := by omega
    go_wp2_with (first | (at_builtin; refine wpList_append _ rfl _ _ 35 rfl 0 3 j0 (.int .i64 0) 1 8 Try.underlying35 hj hj0 hj1 hj2 rfl (by decide) _ _ _ rfl hoe ⟨g, 1, none⟩ rest.length (c - 1) (irow rest) rfl (by simp [irow]) hnews hone (by unfold maxLen; omega) (by omega) (by first | omega | (simp; omega) | simp) ?_) | fail)
    intro v' w2 hap
    have kA : Kept (fun _ => False) W (W.alloc (.cells #[] 3)) := (Kept.refl _ W).alloc _
    have k2 : Kept (fun y => W.heap.size ≤ y) W w2 := hap.kept (Kept.refl _ W) (fun b _ hb => by simp only [Value.ownBlock, Option.some.injEq] at hb; omega)
    have hRn : ¬ W.heap.size ≤ R := by omega
    have h2 : RP R N (x :: rest) mx shut (.slice (some ⟨g, 0, none⟩) (rest.length + 1) c) w2 := H.out.kept k2 hRn (fun b hb => by simp only [Value.ownBlock, Option.some.injEq] at hb; omega)
    have hblk : ∀ b, v'.ownBlock = some b → W.heap.size ≤ b := fun b hb => by
      rcases hap.block b hb with h9 | h9
      · simp only [Value.ownBlock, Option.some.injEq] at h9; omega
      · have := World.size_alloc W (.cells #[] 3); omega
    have ho2 := hap.owns
    have hne' : v'.ownBlock ≠ some R := fun e => hRn (hblk R e)
    have f2 := h2.blk.free 1
    have d2 := h2.blk.cell 1
    have k3 : Kept (fun y => y = R) w2 (w2.setCell ⟨R, 1, none⟩ v') := Kept.setCell (S := fun y => y = R) (Kept.refl _ _) (fun _ => rfl) _
    have h3 : RP R N rest mx shut v' (w2.setCell ⟨R, 1, none⟩ v') := ⟨h2.blk.set' rfl, own_kept ho2 k3 (fun b hb e => hne' (by rw [hb]; exact congrArg some e)), hne'⟩
    have kk : Kept (fun y => y = R) W (w2.setCell ⟨R, 1, none⟩ v') := (k2.mono (T := fun y => y = R) (fun i hi e => by omega)).step k3 (fun i _ e => e)
    obtain ⟨va, vc, rfl⟩ := owns_slice ho2
    have HBK := Lib.hid hblk
    have H3 := Lib.hid h3
    have KK := Lib.hid kk
    clear hap ho2 hblk hne' h3 kk k3 k2 kA h2 c1 f1 hnews hone hoe FIN
    go_wp2_with fail
    go_ret2
    exact ⟨rfl, KK.out, _, H3.out, HBK.out⟩
end
end Go.Proofs.Ytlpmfiplcikfpaa
