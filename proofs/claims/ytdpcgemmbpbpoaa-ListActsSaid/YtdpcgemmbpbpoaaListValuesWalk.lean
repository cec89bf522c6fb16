/-
  What stands here: the walk of ListValues. Under no condition but that its arguments fit their types.
-/
import Derived.Test.YtdpcgemmbpbpoaaListRow
import Derived.Test.YtdpcgemmbpbpoaaTextLast
namespace Go.Proofs.Ytdpcgemmbpbpoaa
set_option linter.unusedVariables false
set_option linter.unusedSimpArgs false
open Go.RowKit Go.Proofs

theorem infoNode : (Try.prog.info? 28).map (fun i => (i.zero, i.size, i.bytes)) = some (some (.pointer none), 1, 8) := by kernel_rfl
/-- what stands behind so many pushes -/
structure PushI (base L : Nat) (zs : List Int) (k : Nat) (nv : Value) (w W : World) (s : LS) (xs : List Nat) : Prop where
  lw : LW_i s W
  kl : s.kd L = 1
  sq : s.sq L = xs
  len : xs.length = k
  val : valsOf_i s xs = (zs.take k).map (.int .i64)
  row : NRow base s nv xs W
  low : ∀ y, y < base → s.kd y = 0
  bel : Below base w W
theorem PushI.push {base L : Nat} {zs : List Int} {k : Nat} {nv : Value} {w W W' : World} {s s' : LS} {xs : List Nat} (h : PushI base L zs k nv w W s xs) (hb : base ≤ w.heap.size) (hk : k < zs.length) (h1 : LW_i s' W') (kk : Kept (fun y => s.kd y ≠ 0) W W') (hn : ∀ y, y < W.heap.size → s'.kd y = s.kd y) (h2 : s'.kd W.heap.size = 2) (hq : s'.sq = upd s.sq L (s.sq L ++ [W.heap.size])) (hv : LV s' = upd (LV s) W.heap.size (.int .i64 (zs.getD k 0))) :
    LW_i s' W' ∧ s'.kd L = 1 ∧ s'.kd W.heap.size = 2 ∧ s'.sq L = xs ++ [W.heap.size] ∧ valsOf_i s' (xs ++ [W.heap.size]) = (zs.take (k + 1)).map (.int .i64) ∧ NRow base s' nv xs W' ∧ (∀ y, y < base → s'.kd y = 0) ∧ Below base w W' := by
  have hz := h.bel.size
  have hL : L < W.heap.size := (h.lw.lists L h.kl).lt
  refine ⟨h1, by rw [hn L hL]; exact h.kl, h2, by rw [hq, upd_same, h.sq], ?_, h.row.turn kk hn, fun y hy => by rw [hn y (by omega)]; exact h.low y hy, below_kd h.bel kk h.low hb⟩
  have hx : ∀ y, y ∈ xs → LV s' y = LV s y := fun y hy => by
    have hlt := (h.lw.nodes y ((h.lw.inv.mem L y h.kl (by rw [h.sq]; exact hy)).1)).lt
    rw [hv, upd_ne _ _ (by omega)]
  have e1 : valsOf_i s' xs = valsOf_i s xs := List.map_congr_left hx
  have e2 : valsOf_i s' [W.heap.size] = [.int .i64 (zs.getD k 0)] := by
    show [LV s' W.heap.size] = _
    rw [hv, upd_same]
  have e3 : valsOf_i s' (xs ++ [W.heap.size]) = valsOf_i s' xs ++ valsOf_i s' [W.heap.size] := List.map_append ..
  rw [e3, e1, e2, h.val, List.take_succ_eq_append_getElem hk, List.map_append, List.getD_eq_getElem?_getD, List.getElem?_eq_getElem hk]
  rfl

set_option maxHeartbeats 4000000 in
theorem listValues_walk (a0 : Option Addr) (len0 cap0 : Nat) (z0 : List Int) (a1 a2 : Int) (w : World) (w0 : IsRow .i64 w a0 len0 cap0 z0) (w1 : (Lit.int .u8 a1).wf = true) (w2 : (Lit.int .i64 a2).wf = true) :
    Calls Try.prog 7 #[.slice a0 len0 cap0, .int .u8 a1, .int .i64 a2] w fun e w' => e = .returned (.bool true) ∧ Below w.heap.size w w' := by
  have h0 := bd_u8 w1
  have hle := w0.le
  unfold maxLen at hle
  have HA := Lib.hid w0
  clear w0 w1
  obtain ⟨i0, hi, hz0, hz1, hz2⟩ := info_parts infoNode
  obtain ⟨j0, hj, hj0, hj1, hj2⟩ := info_parts infoElem_i
  by_cases h200 : len0 = 0 ∨ 200 < len0
  · have hc : (len0 == 0) = false → 200 < len0 := by intro h; simp at h; omega
    by_cases h00 : len0 = 0
    · subst h00
      go_enter Try.func7, Try.ntmps7
      go_wp2_with fail
      refine (alive_any _).mono ?_
      rintro e w1 ⟨rfl, k1⟩
      go_wp2_with fail
      go_ret
      exact ⟨rfl, k1⟩
    · go_enter Try.func7, Try.ntmps7
      go_wp2_with fail
      refine (alive_any _).mono ?_
      rintro e w1 ⟨rfl, k1⟩
      go_wp2_with fail
      go_ret
      exact ⟨rfl, k1⟩
  · obtain ⟨ab, ao, rfl, hab, hac⟩ := HA.out.at_ (by omega)
    have hzl : len0 ≤ z0.length := by
      rcases HA.out with ⟨h, _⟩ | ⟨x, _, hl, _, hzl, _, hw⟩
      · cases h
      · omega
    have HC := Lib.hid hac
    have hp0 : 0 < len0 := by omega
    have hp2 : ¬ 200 < len0 := by omega
    have hpe : ((len0 : Int) == 0) = false := by rw [beq_eq_false_iff_ne]; omega
    clear hac h200
    go_enter Try.func7, Try.ntmps7
    go_wp2_with fail
    refine (alive_any _).mono ?_
    rintro e w1 ⟨rfl, k1⟩
    go_wp2_with fail
    refine (oNew_i LS.zero w1 (LW_i.zero w1)).mono ?_
    rintro e w2 ⟨rfl, z2, k2, s2, h2, n2, l2, q2, v2⟩
    have hw1 := k1.size
    have P0 : PushI w.heap.size (w1.heap.size + 1) z0 0 (.slice none 0 0) w w2 s2 [] :=
      ⟨h2, l2, by rw [q2, upd_same], rfl, rfl, NRow.nil _ _ _, fun y hy => by rw [n2 y (by omega)]; rfl, below_still k1 k2 (Nat.le_refl _)⟩
    generalize hL : w1.heap.size + 1 = L at *
    have HP0 := Lib.hid P0
    clear h2 n2 l2 q2 v2 P0 hL
    go_wp2_with fail
    go_loopw [8, 9] (fun nv i wr => ∃ (k : Nat) (s : LS) (xs : List Nat), k ≤ len0 ∧ i = .int .i64 k ∧ PushI w.heap.size L z0 k nv w wr s xs) (fun _ i _ => len0 - (intOf i).toNat)
    case atStart => exact ⟨0, _, _, Nat.zero_le _, rfl, HP0.out⟩
    case round =>
      obtain ⟨k, s, xs, hk, rfl, hP⟩ := hrel
      have HP := Lib.hid hP
      have hz := hP.bel.size
      have hxl := hP.len
      have c0 := fun hk => (hP.bel.cell (p := ⟨ab, ao + k, none⟩) hab).trans (HC.out k hk)
      clear hP
      by_cases hlk : k < len0
      · have c1 := c0 hlk
        generalize hu : z0.getD k 0 = u at *
        have HU := Lib.hid hu
        clear c0 hu
        have HX := Lib.hid hxl
        clear hxl
        go_wp2_with fail
        refine (oPush_i _ _ HP.out.lw L u HP.out.kl (by rw [HP.out.sq, HX.out]; omega)).mono ?_
        rintro e w3 ⟨rfl, z3, k3, s3, h3, n3, d3, q3, v3⟩
        obtain ⟨p1, p2, p3, p4, p5, p6, p7, p8⟩ := HP.out.push (Nat.le_refl _) (by omega) h3 k3 n3 d3 q3 (by rw [HU.out]; exact v3)
        have hz3 := p8.size
        have hX : xs.length ≤ 200 := by rw [HX.out]; omega
        generalize hx : wr.heap.size = x at *
        have hoa : (w3.alloc (.cells #[.pointer (some ⟨x, 0, none⟩)] 28)).ownsRow w.heap.size 28 1 u8 xs.length (ptrs xs) := owns_kept2 p6.own ((Kept.refl (fun _ => False) _).alloc _) (fun _ _ f => f)
        have hbz : w.heap.size ≤ (w3.alloc (.cells #[.pointer (some ⟨x, 0, none⟩)] 28)).heap.size := by simp; omega
        clear c1 z3 k3 n3 d3 q3 v3 h3
        go_wp2_with (first | (at_builtin; refine wpList_append _ rfl _ _ 27 rfl w.heap.size 28 i0 (.pointer none) 1 8 Try.underlying27 hi hz0 hz1 hz2 rfl (by decide) _ _ _ rfl (hoa) ⟨w3.heap.size, 0, none⟩ 1 1 [.pointer (some ⟨x, 0, none⟩)] rfl rfl (by intro j u hj; match j, hj with | 0, hj => simp at hj; subst hj; first | (simp [Addr.add]; done) | exact (Blk.newAt _ _ _ (by simp)).cell 0) (by intro u hu; simp at hu; subst hu; rfl) (by unfold maxLen; omega) (by omega) (by first | omega | (simp; omega) | simp) ?_) | fail)
        intro v' w4 hap
        obtain ⟨q1, q2, q3⟩ := p6.more p1 hap (by omega)
        have Pn : PushI w.heap.size L z0 (k + 1) v' w w4 s3 (xs ++ [x]) := ⟨q2, p2, p4, by rw [List.length_append, HX.out]; rfl, p5, q1, p7, below_step p8 q3 (Nat.le_refl _) (fun i hi h => by omega)⟩
        have HPn := Lib.hid Pn
        clear Pn p1 p2 p3 p4 p5 p6 p7 p8 q1 q2 q3 hap hoa
        go_wp2_with fail
        go_roundw
        case rel => exact ⟨k + 1, _, _, by omega, by go_num, HPn.out⟩
        case measure => simp [intOf]; omega
      · obtain rfl : k = len0 := by omega
        have HX := Lib.hid hxl
        clear c0 hxl
        obtain ⟨m, hm⟩ : ∃ m : Nat, (m : Int) = a1 % (k : Int) := ⟨(a1 % (k : Int)).toNat, by have := Int.emod_nonneg a1 (show (k : Int) ≠ 0 by omega); omega⟩
        have hmk : m < k := by have := Int.emod_lt_of_pos a1 (show (0 : Int) < k by omega); omega
        have HM := Lib.hid hm
        clear hm
        have hoe : (wr.alloc (.cells #[] 3)).ownsRow w.heap.size 3 1 (.slice (some ⟨wr.heap.size, 0, none⟩) 0 0) 0 [] :=
          ⟨rfl, .inr ⟨wr.heap.size, 0, #[], rfl, hz, World.alloc_heap_new _ _, Nat.le_refl _, Nat.zero_le _, rfl, rfl⟩⟩
        have hnl : ((z0.take k).map (Value.int .i64)).length = k * 1 := by rw [List.length_map, List.length_take]; omega
        have hnews : ∀ j u, ((z0.take k).map (Value.int .i64))[j]? = some u → (wr.alloc (.cells #[] 3)).cell? ((⟨ab, ao, none⟩ : Addr).add j) = some u := fun j u hj => by
          have hjk : j < k := by have := (List.getElem?_eq_some_iff.1 hj).1; omega
          have e1 := (HP.out.bel.cell (p := ⟨ab, ao + j, none⟩) hab).trans (HC.out j hjk)
          have e2 : (wr.alloc (.cells #[] 3)).cell? ⟨ab, ao + j, none⟩ = some (.int .i64 (z0.getD j 0)) := (World.cell?_of_block (a := ⟨ab, ao + j, none⟩) (Below.heap_alloc _ _ _ (by simp only; omega))).trans e1
          rw [List.getElem?_map, List.getElem?_take_of_lt hjk, List.getElem?_eq_getElem (by omega)] at hj
          simp only [Option.map_some, Option.some.injEq] at hj
          rw [← hj, show (⟨ab, ao, none⟩ : Addr).add j = ⟨ab, ao + j, none⟩ by simp [Addr.add], e2, List.getD_eq_getElem?_getD, List.getElem?_eq_getElem (by omega)]
          rfl
        have hone : ∀ u ∈ (z0.take k).map (Value.int .i64), u.oneCell' = true := fun u hu => by
          obtain ⟨z, _, rfl⟩ := List.mem_map.1 hu
          rfl
        go_wp2_with (first | (at_builtin; refine wpList_append _ rfl _ _ 26 rfl w.heap.size 3 j0 (.int .i64 0) 1 8 Try.underlying26 hj hj0 hj1 hj2 rfl (by decide) _ _ _ rfl hoe ⟨ab, ao, none⟩ k cap0 ((z0.take k).map (.int .i64)) rfl hnl hnews hone (by unfold maxLen; omega) (by omega) (by first | omega | (simp; omega) | simp) ?_) | fail)
        intro wv w3 hap
        have hz3 : wr.heap.size < w3.heap.size := by have := hap.grown.size; simp at this; omega
        obtain ⟨g, cap, cur, rfl, hg, bG, hgc, hgm, hgs, hgt⟩ := owns_blk hap.owns (by omega)
        have hgw : wr.heap.size ≤ g := by
          rcases hap.block g rfl with h9 | h9
          · simp [Value.ownBlock] at h9; omega
          · have := World.size_alloc wr (.cells #[] 3); omega
        have k3 : Kept (fun b => wr.heap.size ≤ b) wr w3 := hap.kept (Kept.refl _ wr) (fun b _ hb => by simp only [Value.ownBlock, Option.some.injEq] at hb; omega)
        have HP3 := Lib.hid (show LW_i s w3 ∧ NRow w.heap.size s u8 xs w3 ∧ Below w.heap.size w w3 from
          ⟨HP.out.lw.kept k3 (fun x hx h9 => hx (HP.out.lw.fresh x h9)), HP.out.row.kept k3 (fun b hb _ h9 => by omega) (fun _ _ => rfl), below_step HP.out.bel k3 (Nat.le_refl _) (fun i hi h => by omega)⟩)
        have bx := HP3.out.1.nodes (xs.getD m 0) (HP3.out.1.inv.mem L _ HP.out.kl (by rw [HP.out.sq, List.getD_eq_getElem?_getD, List.getElem?_eq_getElem (by rw [HX.out]; exact hmk)]; exact List.getElem_mem _)).1
        have kx := (HP3.out.1.inv.mem L (xs.getD m 0) HP.out.kl (by rw [HP.out.sq, List.getD_eq_getElem?_getD, List.getElem?_eq_getElem (by rw [HX.out]; exact hmk)]; exact List.getElem_mem _)).1
        obtain ⟨na, nc, rfl⟩ := HP.out.row.slice
        obtain ⟨nb, no, rfl, hnb, hnk, hnl2, hnc0⟩ := HP.out.row.at_ (k := m) (by rw [HX.out]; exact hmk)
        have hnc := (World.cell?_of_block (a := ⟨nb, no + m, none⟩) (k3.block nb hnb (by omega))).trans hnc0
        obtain ⟨x0, xs0, hxs0⟩ : ∃ x0 xs0, xs = x0 :: xs0 := by cases hx9 : xs with | nil => rw [hx9] at HX; have := HX.out; simp at this; omega | cons y ys => exact ⟨y, ys, rfl⟩
        have hn00 : w3.cell? ⟨nb, no, none⟩ = some (.pointer (some ⟨x0, 0, none⟩)) := by
          obtain ⟨nb', no', e9, h91, _, _, h92⟩ := HP.out.row.at_ (k := 0) (by rw [HX.out]; exact hp0)
          simp only [Option.some.injEq, Addr.mk.injEq, and_true] at e9
          obtain ⟨rfl, rfl⟩ := e9
          rw [hxs0] at h92
          exact (World.cell?_of_block (a := ⟨nb, no + 0, none⟩) (k3.block nb hnb (by omega))).trans h92
        have HX0 := Lib.hid hxs0
        have HN00 := Lib.hid hn00
        clear hxs0 hn00
        rw [HX.out]
        generalize hxm : xs.getD m 0 = x at *
        have HXM := Lib.hid hxm
        have kx0 := kx
        have BX := Lib.hid bx
        have KX := Lib.hid kx
        have kg : s.kd g = 0 := HP.out.lw.fresh g hgw
        have hxg : x ≠ g := by intro e; rw [e, kg] at kx; cases kx
        have hnbg : nb ≠ g := by omega
        have f1 := bG.free m
        have hcm : m < cur.size := by omega
        have fx := (bx.other (a := ⟨g, m, none⟩) hxg (.int .i64 a2)).free 0
        have nc1 : (w3.setCell ⟨g, m, none⟩ (.int .i64 a2)).cell? ⟨nb, no + m, none⟩ = some (.pointer (some ⟨x, 0, none⟩)) := (World.cell?_of_block (a := ⟨nb, no + m, none⟩) (Below.heap_setCell _ _ _ _ hnbg)).trans hnc
        obtain ⟨u, hu⟩ : ∃ u, cur[m]? = some u := ⟨_, Array.getElem?_eq_getElem hcm⟩
        have g1 : w3.cell? ⟨g, m, none⟩ = some u := (bG.cell m).trans hu
        have x1 : (w3.setCell ⟨g, m, none⟩ (.int .i64 a2)).cell? ⟨x, 0, none⟩ = some (s.nd x).val := (bx.other (a := ⟨g, m, none⟩) hxg (.int .i64 a2)).cell 0
        have i1 := fun w => run_indexAt_at (P := Try.prog) (a := some ⟨g, 0, none⟩) (cap := cap) (s := 1) (i := m) (len := k) rfl Try.underlying26 (fun w => by kernel_rfl) hmk w
        have i2 := fun w => run_indexAt_at (P := Try.prog) (a := some ⟨nb, no, none⟩) (cap := nc) (s := 1) (i := m) (len := k) rfl Try.underlying27 (fun w => by kernel_rfl) hmk w
        rw [← HM.out]
        clear hxm bx kx hnews hoe hnl hone hap i0 hi hz0 hz1 hz2 j0 hj hj0 hj1 hj2
        have k5 : Kept (fun b => b = g ∨ b = x) w3 ((w3.setCell ⟨g, m, none⟩ (.int .i64 a2)).setCell ⟨x, 0, none⟩ (.int .i64 a2)) := ((Kept.refl _ _).setCell (fun _ => .inl rfl) _).setCell (fun _ => .inr rfl) _
        have l5 : LW_i (s.setv x (.int .i64 a2)) ((w3.setCell ⟨g, m, none⟩ (.int .i64 a2)).setCell ⟨x, 0, none⟩ (.int .i64 a2)) :=
          (HP3.out.1.kept (S := fun b => b = g) (Kept.setCell (S := fun b => b = g) (Kept.refl _ _) (fun _ => rfl) _) (fun y hy e => hy (by rw [e]; exact kg))).setv KX.out _
        have bG5 : Blk ((w3.setCell ⟨g, m, none⟩ (.int .i64 a2)).setCell ⟨x, 0, none⟩ (.int .i64 a2)) g (cur.setIfInBounds m (.int .i64 a2)) 3 := (bG.set m _).other (a := ⟨x, 0, none⟩) (Ne.symm hxg) _
        have hnd : xs.Nodup := by have := HP.out.lw.inv.nodup L HP.out.kl; rwa [HP.out.sq] at this
        have hml : m < xs.length := by rw [HX.out]; exact hmk
        have vals5 : valsOf_i (s.setv x (.int .i64 a2)) xs = ((z0.take k).set m a2).map (.int .i64) := by
          rw [← HXM.out, vals_set hnd hml, HP.out.val, List.map_set]
        have kl5 : (s.setv x (.int .i64 a2)).kd L = 1 := HP.out.kl
        have sq5 : (s.setv x (.int .i64 a2)).sq L = xs := HP.out.sq
        have hgt5 : (cur.setIfInBounds m (.int .i64 a2)).toList.take k = ((z0.take k).set m a2).map (.int .i64) := by
          rw [blk_set, hgt]; simp [List.map_set, List.map_take]
        have r5 : Below w.heap.size w ((w3.setCell ⟨g, m, none⟩ (.int .i64 a2)).setCell ⟨x, 0, none⟩ (.int .i64 a2)) := below_step HP3.out.2.2 k5 (Nat.le_refl _) (fun i hi h => by
          rcases h with h | h
          · omega
          · have := HP.out.low i hi; rw [h] at this; rw [this] at kx0; cases kx0)
        have hn50 : ((w3.setCell ⟨g, m, none⟩ (.int .i64 a2)).setCell ⟨x, 0, none⟩ (.int .i64 a2)).cell? ⟨nb, no, none⟩ = some (.pointer (some ⟨x0, 0, none⟩)) := by
          have hxn : nb ≠ x := by intro e; rw [e] at hnk; rw [hnk] at kx0; cases kx0
          exact ((World.cell?_of_block (a := ⟨nb, no, none⟩) (Below.heap_setCell _ _ _ _ hxn)).trans (World.cell?_of_block (a := ⟨nb, no, none⟩) (Below.heap_setCell _ _ _ _ hnbg))).trans HN00.out
        go_wp2_with fail
        generalize hw5 : (w3.setCell ⟨g, m, none⟩ (.int .i64 a2)).setCell ⟨x, 0, none⟩ (.int .i64 a2) = w5 at *
        have HN5 := Lib.hid hn50
        clear hn50
        have hzs5 : w5.heap.size = w3.heap.size := by rw [← hw5]; simp
        clear hw5
        obtain ⟨s5, hs5⟩ : ∃ s5, s5 = s.setv x (.int .i64 a2) := ⟨_, rfl⟩
        have fr5 : ∀ y, w3.heap.size ≤ y → s5.kd y = 0 := fun y hy => by rw [hs5]; exact l5.fresh y (by omega)
        have nbk : s5.kd nb = 0 := by rw [hs5]; exact hnk
        have gk : s5.kd g = 0 := by rw [hs5]; exact kg
        have low5 : ∀ y, y < w.heap.size → s5.kd y = 0 := by rw [hs5]; exact HP.out.low
        rw [← hs5] at l5 vals5 kl5 sq5
        refine (lallo_i _ _ l5 L kl5 (by rw [sq5, HX.out]; omega) (fun y hy => by
          rw [sq5] at hy
          have : (s5.nd y).val ∈ valsOf_i s5 xs := List.mem_map.2 ⟨y, hy, rfl⟩
          rw [vals5] at this
          obtain ⟨v, _, hv⟩ := List.mem_map.1 this
          exact ⟨v, hv.symm⟩)).mono ?_
        rintro e w6 ⟨⟨v6, rfl, ho6⟩, k6⟩
        rw [sq5, vals5, HX.out] at ho6
        obtain ⟨Z, hZ⟩ : ∃ Z, Z = (z0.take k).set m a2 := ⟨_, rfl⟩
        have hZl : Z.length = k := by rw [hZ, List.length_set, List.length_take]; omega
        rw [← hZ] at ho6 vals5 hgt5
        obtain ⟨ga, cap6, cur6, rfl, hga, bA, hac6, ham6, has6, hat6⟩ := owns_blk ho6 hp0
        have hrA : IRow (w5.heap.size ≤ ·) w6 (.slice (some ⟨ga, 0, none⟩) k cap6) Z := VRow.of_owns ho6
        have hgl5 := bG5.lt
        have bG6 := bG5.below k6 bG5.lt
        have hrW : IRow (· = g) w6 (.slice (some ⟨g, 0, none⟩) k cap) Z := by
          have h9 := blk_row (n := k) (cap := cap) bG6 (by simp; omega) hgc hgm
          rw [hgt5] at h9
          exact h9
        have HRW := Lib.hid hrW
        have HZL := Lib.hid hZl
        have HV5 := Lib.hid vals5
        have l6 := l5.kept (kept_of_below k6) (fun y hy h9 => hy (fr5 y (by omega)))
        have r6 := Below.trans r5 (k6.mono r5.size)
        have z6 := bA.lt
        have h1a := ints_any _ _ Z Z _ _ _ hrA hrW
        rw [show decide (Z = Z) = true by simp] at h1a
        clear hZ hZl vals5 hgt5 l5 bG5 ho6
        go_wp2_with fail
        refine h1a.mono ?_
        rintro e w7 ⟨rfl, k7⟩
        obtain ⟨u6', hu6⟩ : ∃ u, cur6[m]? = some u := ⟨_, Array.getElem?_eq_getElem (by omega)⟩
        have u6i : ∃ n : Int, u6' = .int .i64 n := by
          have h9 : (cur6.toList.take k)[m]? = some u6' := by rw [List.getElem?_take_of_lt hmk]; simpa using hu6
          rw [hat6] at h9
          obtain ⟨n, _, hn⟩ := List.mem_map.1 (List.mem_of_getElem? h9)
          exact ⟨n, hn.symm⟩
        obtain ⟨n6, rfl⟩ := u6i
        have bA7 := bA.still k7
        have a7 : w7.cell? ⟨ga, m, none⟩ = some (.int .i64 n6) := (bA7.cell m).trans hu6
        have fa7 := bA7.free m
        have i3 := fun w => run_indexAt_at (P := Try.prog) (a := some ⟨ga, 0, none⟩) (cap := cap6) (s := 1) (i := m) (len := k) rfl Try.underlying26 (fun w => by kernel_rfl) hmk w
        go_wp2_with fail
        have hn5 : w5.cell? ⟨nb, no, none⟩ = some (.pointer (some ⟨x0, 0, none⟩)) := HN5.out
        have hnlt : nb < w5.heap.size := lt_of_cell hn5
        have k7' : Kept (fun b => w5.heap.size ≤ b) w5 (w7.setCell ⟨ga, m, none⟩ (.int .i64 (wrap64 (n6 + 1)))) := Kept.setCell ((kept_of_below k6).step k7 (fun i _ h => h.elim)) (fun h => by simp only; omega) _
        generalize hw8 : w7.setCell ⟨ga, m, none⟩ (.int .i64 (wrap64 (n6 + 1))) = w8 at *
        have l8 : LW_i s5 w8 := (l6.still k7).kept (S := fun b => b = ga) (by rw [← hw8]; exact Kept.setCell (S := fun b => b = ga) (Kept.refl _ _) (fun _ => rfl) _) (fun y hy e => hy (fr5 y (by omega)))
        have L8 := Lib.hid l8
        have R8 := Lib.hid (below_step (below_still r6 k7 (Nat.le_refl _)) (show Kept (fun b => b = ga) w7 w8 by rw [← hw8]; exact Kept.setCell (S := fun b => b = ga) (Kept.refl _ _) (fun _ => rfl) _) (Nat.le_refl _) (fun i hi e => by omega))
        have hn8 : w8.cell? ⟨nb, no, none⟩ = some (.pointer (some ⟨x0, 0, none⟩)) := (World.cell?_of_block (a := ⟨nb, no, none⟩) (k7'.block nb hnlt (by omega))).trans hn5
        have W8 := Lib.hid (show IRow (· = g) w8 (.slice (some ⟨g, 0, none⟩) k cap) Z from (HRW.out.still k7).keep (S := fun b => b = ga) (by rw [← hw8]; exact Kept.setCell (S := fun b => b = ga) (Kept.refl _ _) (fun _ => rfl) _) (fun b hb _ e => by omega))
        have N8 := Lib.hid hn8
        have z8 : w5.heap.size ≤ w8.heap.size := k7'.size
        have CL := Lib.hid (cells_of_cell hn8)
        clear hw8 l8 hn8 k7' hn5 l6 r6 k7 k6 h1a a7 fa7 i3 bA7 bA hat6 hu6 bG6 hrA hrW i1 i2
        refine wp_region_text ([4], [9, 28]) [nb] (by kernel_rfl) (by kernel_rfl) (cellsB_cons CL.out cellsB_nil) (by simp [segs, isEff, isLoad, askOps, asks, ptrEq, eqOrNe, isNil]; rfl) ?_
        refine segs_go stay_drew (by simp [isLoad]) ?_
        go_wp2_with fail
        have hones : ∀ y, y ∈ s5.sq L → ∃ v, (s5.nd y).val = .int .i64 v := fun y hy => by
          rw [sq5] at hy
          have : (s5.nd y).val ∈ valsOf_i s5 xs := List.mem_map.2 ⟨y, hy, rfl⟩
          rw [HV5.out] at this
          obtain ⟨v, _, hv⟩ := List.mem_map.1 this
          exact ⟨v, hv.symm⟩
        have HON := Lib.hid hones
        clear hones
        refine (lall_i _ _ (L8.out.still ((still_refl w8).drewN 1)) L kl5 (by rw [sq5, HX.out]; omega) HON.out).mono ?_
        rintro e w9 ⟨⟨v9, rfl, ho9⟩, k9⟩
        rw [sq5, HV5.out] at ho9
        have L9 := Lib.hid ((L8.out.still ((still_refl w8).drewN 1)).kept (kept_of_below k9) (fun y hy h9 => hy (fr5 y (by have := z8; simp only [World.drewN] at h9; omega))))
        have N9 := Lib.hid (show w9.cell? ⟨nb, no, none⟩ = some (.pointer (some ⟨x0, 0, none⟩)) from (World.cell?_of_block (a := ⟨nb, no, none⟩) ((kept_of_below k9).block nb (by simp only [World.drewN]; omega) (by simp only [World.drewN]; omega))).trans N8.out)
        have hnlt8 : nb < w8.heap.size := by omega
        have hs9 : StayB [nb] w8 w9 := StayB.kept (w := w8.drew) stay_drew (kept_of_below k9) (fun b hb => by obtain rfl := List.mem_singleton.1 hb; exact ⟨hnlt8, by show ¬ w8.heap.size ≤ _; omega⟩)
        have K9 : Kept (fun b => w8.heap.size ≤ b) w8 w9 := ((Kept.refl (fun b => w8.heap.size ≤ b) w8).drewN 1).step (kept_of_below k9) (fun i _ h => h)
        have r9 : Below w.heap.size w w9 := below_step R8.out K9 (Nat.le_refl _) (fun i hi h => by omega)
        have i9 := ints_any _ _ Z Z _ _ w9 ho9 (W8.out.keep (S := fun b => w8.heap.size ≤ b) K9 (fun b hb h9 h8 => by omega))
        rw [show decide (Z = Z) = true by simp] at i9
        obtain ⟨av9, c9, rfl⟩ := ho9.len
        rw [List.length_map] at i9 ⊢
        have z9 := K9.size
        have W9 := Lib.hid (W8.out.keep (S := fun b => w8.heap.size ≤ b) K9 (fun b hb h9 h8 => by omega))
        clear ho9 k9 K9
        go_wp2_with fail
        refine segs_go hs9 (by simp [isLoad]) ?_
        go_wp2_with fail
        refine i9.mono ?_
        rintro e w10 ⟨rfl, k10⟩
        have hs10 : StayB [nb] w8 w10 := StayB.kept hs9 k10 (fun b hb => by obtain rfl := List.mem_singleton.1 hb; exact ⟨by have : w8.heap.size ≤ w9.heap.size := z9; omega, fun f => f⟩)
        have L10 := Lib.hid (L9.out.still k10)
        have N10 := Lib.hid (show w10.cell? ⟨nb, no, none⟩ = some (.pointer (some ⟨x0, 0, none⟩)) from (World.cell?_of_block (a := ⟨nb, no, none⟩) (k10.block nb (by have : w8.heap.size ≤ w9.heap.size := z9; omega) (fun f => f))).trans N9.out)
        have W10 := Lib.hid (W9.out.still k10)
        have r10 := below_still r9 k10 (Nat.le_refl _)
        clear i9
        go_wp2_with fail
        refine segs_go hs10 (by simp [isLoad]) ?_
        go_wp2_with fail
        refine (lfirst_i _ _ L10.out L kl5).mono ?_
        rintro e w11 ⟨rfl, rfl⟩
        rw [sq5, HX0.out, show ptrO (hd (x0 :: xs0) none) = .pointer (some ⟨x0, 0, none⟩) from rfl]
        have i00 := fun w => run_indexAt_at (P := Try.prog) (a := some ⟨nb, no, none⟩) (cap := nc) (s := 1) (i := 0) (len := k) rfl Try.underlying27 (fun w => by kernel_rfl) hp0 w
        have kx0' : s5.kd x0 = 2 := (L10.out.inv.mem L x0 kl5 (by rw [sq5, HX0.out]; simp)).1
        have heq := eq_ptr Try.underlying28 sizeNode_i (L10.out.nodes x0 kx0') (L10.out.nodes x0 kx0')
        rw [show decide (x0 = x0) = true by simp] at heq
        have hn10 := N10.out
        go_wp2_with fail
        refine segs_go hs10 (by simp [isLoad]) ?_
        go_wp2_with fail
        refine segs_load hs10 (fun _ => (by exact ⟨nb, _, rfl, by simp⟩)) ?_
        go_wp2_with fail
        refine segs_go hs10 (by simp [isLoad]) ?_
        go_wp2_with fail
        refine (ldrain_i _ _ L10.out L kl5 (by rw [sq5, HX.out]; omega) HON.out).mono ?_
        rintro e w11 ⟨⟨v11, rfl, ho11⟩, _, k11⟩
        rw [sq5, HV5.out] at ho11
        have hz11 : nb < w11.heap.size := Nat.lt_of_lt_of_le (lt_of_cell N10.out) k11.size
        have hlow : ∀ i, i < w.heap.size → ¬ (s5.kd i = 1 ∨ s5.kd i = 2 ∨ w10.heap.size ≤ i) := fun i hi h => by
          have := low5 i hi
          have := r10.size
          omega
        have r11 : Below w.heap.size w w11 := below_step r10 k11 (Nat.le_refl _) hlow
        have W11 := W10.out.keep k11 (fun b hb h9 h8 => by rw [hb] at h8 h9; rw [gk] at h8; omega)
        have hs11 : StayB [nb] w8 w11 := StayB.kept hs10 k11 (fun b hb => by
          obtain rfl := List.mem_singleton.1 hb
          have h9 := lt_of_cell N10.out
          exact ⟨h9, fun h8 => by rw [nbk] at h8; simp only at h9; omega⟩)
        have i11 := ints_any _ _ Z Z _ _ w11 ho11 W11
        rw [show decide (Z = Z) = true by simp] at i11
        obtain ⟨av11, c11, rfl⟩ := ho11.len
        rw [List.length_map] at i11 ⊢
        clear ho11 k11 hn10 heq
        go_wp2_with fail
        refine segs_go hs11 (by simp [isLoad]) ?_
        go_wp2_with fail
        refine i11.mono ?_
        rintro e w12 ⟨rfl, k12⟩
        have hs12 : StayB [nb] w8 w12 := StayB.kept hs11 k12 (fun b hb => by obtain rfl := List.mem_singleton.1 hb; exact ⟨hz11, fun f => f⟩)
        have r12 := below_still r11 k12 (Nat.le_refl _)
        clear i11
        go_wp2_with fail
        refine segs_go hs12 (by simp [isLoad]) ?_
        go_wp2_with fail
        refine segs_nil ?_
        go_wp2_with fail
        go_ret
        exact ⟨rfl, r12⟩
end Go.Proofs.Ytdpcgemmbpbpoaa
