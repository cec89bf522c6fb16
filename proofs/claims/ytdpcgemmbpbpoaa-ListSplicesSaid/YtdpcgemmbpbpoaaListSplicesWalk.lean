/-
  What stands here: the walk of ListSplices. Under no condition but that its arguments fit their types.
-/
import Derived.Test.YtdpcgemmbpbpoaaListValuesWalk
namespace Go.Proofs.Ytdpcgemmbpbpoaa
set_option linter.unusedVariables false
set_option linter.unusedSimpArgs false
open Go.RowKit Go.Proofs

/-- nodes and numbers in slices beside lists -/
structure Spl (base : Nat) (nv wv : Value) (ns : List Nat) (zs : List Int) (s : LS) (w W : World) : Prop where
  lw : LW_i s W
  row : NRow base s nv ns W
  want : W.ownsRow base 3 1 wv zs.length (zs.map (.int .i64))
  wfree : ∀ b, wv.ownBlock = some b → s.kd b = 0
  apart : ∀ b, nv.ownBlock = some b → wv.ownBlock ≠ some b
  low : ∀ y, y < base → s.kd y = 0
  bel : Below base w W
theorem Spl.turn {base : Nat} {nv wv : Value} {ns : List Nat} {zs : List Int} {s s' : LS} {w W W' : World} (h : Spl base nv wv ns zs s w W) (hb : base ≤ w.heap.size) (h1 : LW_i s' W') (k : Kept (fun y => s.kd y ≠ 0) W W') (hn : ∀ y, y < W.heap.size → s'.kd y = s.kd y) : Spl base nv wv ns zs s' w W' := by
  have hz := h.bel.size
  exact ⟨h1, h.row.turn k hn, owns_kept2 h.want k (fun b hb h9 => h9 (h.wfree b hb)), fun b hb => by rw [hn b (own_lt h.want b hb)]; exact h.wfree b hb, h.apart, fun y hy => by rw [hn y (by omega)]; exact h.low y hy, below_kd h.bel k h.low hb⟩
theorem Spl.still {base : Nat} {nv wv : Value} {ns : List Nat} {zs : List Int} {s : LS} {w W W' : World} (h : Spl base nv wv ns zs s w W) (hb : base ≤ w.heap.size) (k : Still W W') : Spl base nv wv ns zs s w W' :=
  ⟨h.lw.still k, h.row.still k, owns_kept2 h.want k (fun _ _ f => f), h.wfree, h.apart, h.low, below_still h.bel k hb⟩
theorem Spl.moreN {base : Nat} {nv nv' wv : Value} {ns : List Nat} {zs : List Int} {s : LS} {x : Nat} {w W W' : World} {o : Obj} (h : Spl base nv wv ns zs s w W) (hb : base ≤ w.heap.size) (ha : Appended (W.alloc o) W' base 28 1 nv nv' (ns.length + 1) (ptrs ns ++ [.pointer (some ⟨x, 0, none⟩)])) :
    Spl base nv' wv (ns ++ [x]) zs s w W' := by
  have hz := h.bel.size
  obtain ⟨h1, h2, h3⟩ := h.row.more h.lw ha (by omega)
  have k1 : Kept (fun b => nv.ownBlock = some b) W W' := ha.kept (Kept.refl _ W) (fun b _ hb => hb)
  refine ⟨h2, h1, owns_kept2 h.want k1 (fun b hb h9 => h.apart b h9 hb), h.wfree, fun b hb h9 => ?_, h.low, below_step h.bel h3 hb (fun i hi h9 => by omega)⟩
  rcases ha.block b hb with h8 | h8
  · exact h.apart b h8 h9
  · have := own_lt h.want b h9; simp at h8; omega
theorem Spl.moreW {base : Nat} {nv wv wv' : Value} {ns : List Nat} {zs : List Int} {s : LS} {z : Int} {w W W' : World} {o : Obj} (h : Spl base nv wv ns zs s w W) (hb : base ≤ w.heap.size) (ha : Appended (W.alloc o) W' base 3 1 wv wv' (zs.length + 1) (zs.map (.int .i64) ++ [.int .i64 z])) :
    Spl base nv wv' ns (zs ++ [z]) s w W' := by
  have hz := h.bel.size
  have k1 : Kept (fun b => wv.ownBlock = some b) W W' := ha.kept (Kept.refl _ W) (fun b _ hb => hb)
  refine ⟨h.lw.kept k1 (fun x hx h9 => hx (h.wfree x h9)), ⟨owns_kept2 h.row.own k1 (fun b hb h9 => h.apart b hb h9), h.row.free⟩, ?_, fun b hb => ?_, fun b hb h9 => ?_, h.low, below_step h.bel k1 hb (fun i hi h9 => by have := owns_block h.want i h9; omega)⟩
  · have := ha.owns
    rw [List.length_append, List.length_singleton, List.map_append]
    exact this
  · rcases ha.block b hb with h8 | h8
    · exact h.wfree b h8
    · exact h.lw.fresh b (by simp at h8; omega)
  · rcases ha.block b h9 with h8 | h8
    · exact h.apart b hb h8
    · have := own_lt h.row.own b hb; simp at h8; omega
theorem IsRow.at2 {w : World} {a : Option Addr} {len cap : Nat} {zs : List Int} (h : IsRow .i64 w a len cap zs) (hp : 0 < len) : ∃ b o, a = some ⟨b, o, none⟩ ∧ b < w.heap.size ∧ len ≤ zs.length ∧ ∀ j, j < len → w.cell? ⟨b, o + j, none⟩ = some (.int .i64 (zs.getD j 0)) := by
  obtain ⟨b, o, h1, h2, h3⟩ := h.at_ hp
  refine ⟨b, o, h1, h2, ?_, h3⟩
  rcases h with ⟨h, _⟩ | ⟨x, _, hl, _, hzl, _, hw⟩
  · rw [h] at h1; cases h1
  · omega

set_option maxHeartbeats 4000000 in
set_option maxRecDepth 100000 in
theorem listSplices_walk (a0 : Option Addr) (len0 cap0 : Nat) (A : Nat → Option Addr) (Ln C : Nat → Nat) (Z : Nat → List Int) (a1 : Int) (w : World) (w0 : (len0 ≤ cap0 ∧ cap0 ≤ maxLen) ∧ (0 < len0 → ∃ b o, a0 = some ⟨b, o, none⟩ ∧ b < w.heap.size ∧ ∀ i, i < len0 → w.cell? ⟨b, o + i, none⟩ = some (.slice (A i) (Ln i) (C i)) ∧ IsRow .i64 w (A i) (Ln i) (C i) (Z i))) (w1 : (Lit.int .u8 a1).wf = true) :
    Calls Try.prog 3 #[.slice a0 len0 cap0, .int .u8 a1] w fun e w' => e = .returned (.bool true) ∧ Below w.heap.size w w' := by
  have h0 := bd_u8 w1
  obtain ⟨⟨hle1, hle⟩, hparts⟩ := w0
  unfold maxLen at hle
  have HA := Lib.hid hparts
  clear w1 hparts
  obtain ⟨i0, hi, hz0, hz1, hz2⟩ := info_parts infoNode
  obtain ⟨j0, hj, hj0, hj1, hj2⟩ := info_parts infoElem_i
  by_cases h20 : 20 < len0
  · go_enter Try.func3, Try.ntmps3
    go_wp2_with fail
    refine (alive_any _).mono ?_
    rintro e w1 ⟨rfl, k1⟩
    go_wp2_with fail
    go_ret
    exact ⟨rfl, k1⟩
  · go_enter Try.func3, Try.ntmps3
    go_wp2_with fail
    refine (alive_any _).mono ?_
    rintro e w1 ⟨rfl, k1⟩
    go_wp2_with fail
    refine (oNew_i LS.zero w1 (LW_i.zero w1)).mono ?_
    rintro e w2 ⟨rfl, z2, k2, s2, h2, n2, l2, q2, v2⟩
    have hw1 := k1.size
    generalize hL : w1.heap.size + 1 = L at *
    go_wp2_with fail
    refine (oNew_i s2 w2 h2).mono ?_
    rintro e w3 ⟨rfl, z3, k3, s3, h3, n3, l3, q3, v3⟩
    generalize hT : w2.heap.size + 1 = T at *
    have hw2 := k2.size
    have S3 := Lib.hid (show Spl w.heap.size (.slice none 0 0) (.slice none 0 0) [] [] s3 w w3 from
      ⟨h3, NRow.nil _ _ _, World.ownsRow_nil _ _ _ _, fun b h => by simp [Value.ownBlock] at h, fun b h => by simp [Value.ownBlock] at h, fun y hy => by rw [n3 y (by omega), n2 y (by omega)]; rfl, below_still (below_still k1 k2 (Nat.le_refl _)) k3 (Nat.le_refl _)⟩)
    have F3 := Lib.hid (show s3.kd L = 1 ∧ s3.kd T = 1 ∧ s3.sq L = [] ∧ s3.sq T = [] from
      ⟨by rw [n3 L (by omega)]; exact l2, l3, by rw [q3, upd_ne _ _ (by omega), q2, upd_same], by rw [q3, upd_same]⟩)
    have hLT : L ≠ T := by omega
    clear h2 n2 l2 q2 v2 h3 n3 l3 q3 v3 hL hT k1 k2 k3
    go_wp2_with fail
    go_loopw [7, 8, 9] (fun wv nv i wr => ∃ (k : Nat) (s : LS) (ns : List Nat) (zs : List Int), k ≤ len0 ∧ i = .int .i64 k ∧ Spl w.heap.size nv wv ns zs s w wr ∧ (s.kd L = 1 ∧ s.kd T = 1 ∧ s.sq L = ns ∧ s.sq T = []) ∧ valsOf_i s ns = zs.map (.int .i64) ∧ ns.length ≤ 20 * k) (fun _ _ i _ => len0 - (intOf i).toNat)
    case atStart => exact ⟨0, _, _, _, Nat.zero_le _, rfl, S3.out, F3.out, rfl, by simp⟩
    case round =>
      obtain ⟨k, s, ns, zs, hk, rfl, hS, hF, hV, hN⟩ := hrel
      have HS := Lib.hid hS
      have HF := Lib.hid hF
      have HV := Lib.hid hV
      have hz := hS.bel.size
      by_cases hlk : k < len0
      · obtain ⟨pb, po, rfl, hpb, hpc⟩ := HA.out (by omega)
        obtain ⟨hp1, hp2⟩ := hpc k hlk
        have c1 : wr.cell? ⟨pb, po + k, none⟩ = some (.slice (A k) (Ln k) (C k)) := (hS.bel.cell (p := ⟨pb, po + k, none⟩) hpb).trans hp1
        generalize hAk : A k = ak at *
        generalize hLk : Ln k = lk at *
        generalize hCk : C k = ck at *
        generalize hZk : Z k = zk at *
        have HR := Lib.hid hp2
        have HPC := Lib.hid hp1
        clear hp2 hp1 hpc hS hF hV hAk hLk hCk hZk
        by_cases h2 : 20 < lk
        · go_wp2_with fail
          go_ret
          exact ⟨rfl, HS.out.bel⟩
        · go_wp2_with fail
          refine (oNew_i _ _ HS.out.lw).mono ?_
          rintro e w4 ⟨rfl, z4, k4, s4, h4, n4, l4, q4, v4⟩
          generalize hO : wr.heap.size + 1 = O at *
          have hLw := (HS.out.lw.lists L HF.out.1).lt
          have hTw := (HS.out.lw.lists T HF.out.2.1).lt
          have hLO : L ≠ O := by omega
          have hTO : T ≠ O := by omega
          have S4 := Lib.hid (HS.out.turn (Nat.le_refl _) h4 (k4.mono (fun _ _ f => f.elim)) n4)
          have F4 := Lib.hid (show (s4.kd L = 1 ∧ s4.kd T = 1 ∧ s4.sq L = ns ∧ s4.sq T = []) ∧ s4.kd O = 1 ∧ s4.sq O = [] from
            ⟨⟨by rw [n4 L (by omega)]; exact HF.out.1, by rw [n4 T (by omega)]; exact HF.out.2.1, by rw [q4, upd_ne _ _ hLO]; exact HF.out.2.2.1, by rw [q4, upd_ne _ _ hTO]; exact HF.out.2.2.2⟩, l4, by rw [q4, upd_same]⟩)
          have V4 := Lib.hid (show valsOf_i s4 (ns ++ []) = (zs ++ zk.take 0).map (.int .i64) by
            rw [List.append_nil, List.take_zero, List.append_nil, ← HV.out]
            show ns.map (LV s4) = ns.map (LV s)
            rw [v4])
          clear h4 n4 l4 q4 v4 k4 HF HV
          have hns : ns.length ≤ 20 * k := hN
          go_wp2_with fail
          go_loopw [7, 8, 11] (fun wv nv i wr => ∃ (j : Nat) (s : LS) (ys : List Nat), j ≤ lk ∧ i = .int .i64 j ∧ Spl w.heap.size nv wv (ns ++ ys) (zs ++ zk.take j) s w wr ∧ ((s.kd L = 1 ∧ s.kd T = 1 ∧ s.sq L = ns ∧ s.sq T = []) ∧ s.kd O = 1 ∧ s.sq O = ys) ∧ valsOf_i s (ns ++ ys) = (zs ++ zk.take j).map (.int .i64) ∧ ys.length = j) (fun _ _ i _ => lk - (intOf i).toNat)
          case atStart =>
            refine ⟨0, s4, [], Nat.zero_le _, rfl, ?_, F4.out, V4.out, rfl⟩
            rw [List.append_nil, List.take_zero, List.append_nil]
            exact S4.out
          case round =>
            obtain ⟨j, s5, ys, hjk, rfl, hS5, hF5, hV5, hY5⟩ := hrel
            have S5 := Lib.hid hS5
            have F5 := Lib.hid hF5
            have V5 := Lib.hid hV5
            have Y5 := Lib.hid hY5
            have hz5 := hS5.bel.size
            have c2 := (hS5.bel.cell (p := ⟨pb, po + k, none⟩) hpb).trans HPC.out
            clear hS5 hF5 hV5 hY5
            by_cases hjl : j < lk
            · obtain ⟨rb, ro, rfl, hrb, hrl, hrc⟩ := HR.out.at2 (by omega)
              have c3 := (S5.out.bel.cell (p := ⟨rb, ro + j, none⟩) hrb).trans (hrc j hjl)
              generalize hu : zk.getD j 0 = u at *
              have HU := Lib.hid hu
              have hxx : (ns ++ ys).length ≤ 1000 := by rw [List.length_append, Y5.out]; omega
              have hxz : (zs ++ zk.take j).length ≤ 1000 := by
                have h9 := congrArg List.length V5.out
                simp only [valsOf_i, List.length_map] at h9
                omega
              obtain ⟨nsA, hnsA⟩ : ∃ l, l = ns ++ ys := ⟨_, rfl⟩
              obtain ⟨zsA, hzsA⟩ : ∃ l, l = zs ++ zk.take j := ⟨_, rfl⟩
              rw [← hnsA] at hxx
              rw [← hzsA] at hxz
              have NA := Lib.hid hnsA
              have ZA := Lib.hid hzsA
              clear hrc hu hnsA hzsA
              go_wp2_with fail
              refine (oPush_i _ _ S5.out.lw O u F5.out.2.1 (by rw [F5.out.2.2, Y5.out]; omega)).mono ?_
              rintro e w6 ⟨rfl, z6, k6, s6, h6, n6, d6, q6, v6⟩
              have hLw5 := (S5.out.lw.lists L F5.out.1.1).lt
              have hTw5 := (S5.out.lw.lists T F5.out.1.2.1).lt
              have hOw5 := (S5.out.lw.lists O F5.out.2.1).lt
              have hlt5 : ∀ y, y ∈ ns ++ ys → y < wr.heap.size := fun y hy => by
                rcases List.mem_append.1 hy with h9 | h9
                · exact (S5.out.lw.nodes y (S5.out.lw.inv.mem L y F5.out.1.1 (by rw [F5.out.1.2.2.1]; exact h9)).1).lt
                · exact (S5.out.lw.nodes y (S5.out.lw.inv.mem O y F5.out.2.1 (by rw [F5.out.2.2]; exact h9)).1).lt
              generalize hx : wr.heap.size = x at *
              have S6 := Lib.hid (show Spl w.heap.size u8 u7 nsA zsA s6 w w6 by rw [NA.out, ZA.out]; exact S5.out.turn (Nat.le_refl _) h6 k6 (by rw [hx]; exact n6))
              have F6 := Lib.hid (show (s6.kd L = 1 ∧ s6.kd T = 1 ∧ s6.sq L = ns ∧ s6.sq T = []) ∧ s6.kd O = 1 ∧ s6.sq O = ys ++ [x] from
                ⟨⟨by rw [n6 L (by omega)]; exact F5.out.1.1, by rw [n6 T (by omega)]; exact F5.out.1.2.1, by rw [q6, upd_ne _ _ hLO]; exact F5.out.1.2.2.1, by rw [q6, upd_ne _ _ hTO]; exact F5.out.1.2.2.2⟩, by rw [n6 O (by omega)]; exact F5.out.2.1, by rw [q6, upd_same, F5.out.2.2]⟩)
              have V6 := Lib.hid (show valsOf_i s6 (ns ++ (ys ++ [x])) = (zs ++ zk.take (j + 1)).map (.int .i64) by
                have e1 : valsOf_i s6 (ns ++ ys) = valsOf_i s5 (ns ++ ys) := List.map_congr_left fun y hy => by
                  show LV s6 y = LV s5 y
                  have := hlt5 y hy
                  rw [v6, upd_ne _ _ (by omega)]
                have e2 : valsOf_i s6 [x] = [.int .i64 u] := by show [LV s6 x] = _; rw [v6, upd_same]
                have e3 : valsOf_i s6 (ns ++ (ys ++ [x])) = valsOf_i s6 (ns ++ ys) ++ valsOf_i s6 [x] := by rw [← List.append_assoc]; exact List.map_append ..
                rw [e3, e1, e2, V5.out, List.take_succ_eq_append_getElem (by omega), ← List.append_assoc, List.map_append (l₁ := zs ++ zk.take j), ← HU.out, List.getD_eq_getElem?_getD, List.getElem?_eq_getElem (by omega)]
                rfl)
              have hoa : (w6.alloc (.cells #[.pointer (some ⟨x, 0, none⟩)] 28)).ownsRow w.heap.size 28 1 u8 nsA.length (ptrs nsA) := owns_kept2 S6.out.row.own ((Kept.refl (fun _ => False) _).alloc _) (fun _ _ f => f)
              have hz6 := S6.out.bel.size
              have hbz : w.heap.size ≤ (w6.alloc (.cells #[.pointer (some ⟨x, 0, none⟩)] 28)).heap.size := by simp; omega
              clear h6 n6 d6 q6 v6 k6 z6 hlt5 c2 c3
              go_wp2_with (first | (at_builtin; refine wpList_append _ rfl _ _ 27 rfl w.heap.size 28 i0 (.pointer none) 1 8 Try.underlying27 hi hz0 hz1 hz2 rfl (by decide) _ _ _ rfl (hoa) ⟨w6.heap.size, 0, none⟩ 1 1 [.pointer (some ⟨x, 0, none⟩)] rfl rfl (by intro j u hj; match j, hj with | 0, hj => simp at hj; subst hj; first | (simp [Addr.add]; done) | exact (Blk.newAt _ _ _ (by simp)).cell 0) (by intro u hu; simp at hu; subst hu; rfl) (by unfold maxLen; omega) (by omega) (by first | omega | (simp; omega) | simp) ?_) | fail)
              intro nv' w7 hap
              have S7 := Lib.hid (S6.out.moreN (Nat.le_refl _) hap)
              have hz7 := S7.out.bel.size
              obtain ⟨rb', ro', e9, _, _, hrc⟩ := HR.out.at2 (by omega)
              simp only [Option.some.injEq, Addr.mk.injEq, and_true] at e9
              obtain ⟨rfl, rfl⟩ := e9
              have c2 := (S7.out.bel.cell (p := ⟨pb, po + k, none⟩) hpb).trans HPC.out
              have c3 := (S7.out.bel.cell (p := ⟨rb, ro + j, none⟩) hrb).trans (hrc j hjl)
              rw [HU.out] at c3
              have hob : (w7.alloc (.cells #[.int .i64 u] 3)).ownsRow w.heap.size 3 1 u7 zsA.length (zsA.map (.int .i64)) := owns_kept2 S7.out.want ((Kept.refl (fun _ => False) _).alloc _) (fun _ _ f => f)
              have hbz7 : w.heap.size ≤ (w7.alloc (.cells #[.int .i64 u] 3)).heap.size := by simp; omega
              clear hap hoa hrc hbz
              go_wp2_with (first | (at_builtin; refine wpList_append _ rfl _ _ 26 rfl w.heap.size 3 j0 (.int .i64 0) 1 8 Try.underlying26 hj hj0 hj1 hj2 rfl (by decide) _ _ _ rfl (hob) ⟨w7.heap.size, 0, none⟩ 1 1 [.int .i64 u] rfl rfl (by intro j u hj; match j, hj with | 0, hj => simp at hj; subst hj; first | (simp [Addr.add]; done) | exact (Blk.newAt _ _ _ (by simp)).cell 0) (by intro u hu; simp at hu; subst hu; rfl) (by unfold maxLen; omega) (by omega) (by first | omega | (simp; omega) | simp) ?_) | fail)
              intro wv' w8 hap
              have S8 := Lib.hid (S7.out.moreW (Nat.le_refl _) hap)
              clear hap hob hbz7 c2 c3
              go_wp2_with fail
              go_roundw
              case rel =>
                refine ⟨j + 1, s6, ys ++ [x], by omega, by go_num, ?_, F6.out, V6.out, by rw [List.length_append, Y5.out]; rfl⟩
                have h9 := S8.out
                rw [NA.out, ZA.out] at h9
                rw [List.take_succ_eq_append_getElem (by omega), ← List.append_assoc, ← List.append_assoc]
                rw [← HU.out, List.getD_eq_getElem?_getD, List.getElem?_eq_getElem (by omega)] at h9
                exact h9
              case measure => simp [intOf]; omega
            · obtain rfl : j = lk := by omega
              have hYl : ys.length ≤ 20 := by rw [Y5.out]; omega
              go_wp2_with fail
              refine (oSplice_i _ _ S5.out.lw L O F5.out.1.1 F5.out.2.1 hLO (by rw [F5.out.1.2.2.1, F5.out.2.2]; omega)).mono ?_
              rintro e w6 ⟨rfl, k6, s6, h6, n6, q6, v6⟩
              have hLw5 := (S5.out.lw.lists L F5.out.1.1).lt
              have hTw5 := (S5.out.lw.lists T F5.out.1.2.1).lt
              have hOw5 := (S5.out.lw.lists O F5.out.2.1).lt
              have hlt5 : ∀ y, y ∈ ns ++ ys → y < wr.heap.size ∧ s5.kd y = 2 := fun y hy => by
                rcases List.mem_append.1 hy with h9 | h9
                · have h8 := (S5.out.lw.inv.mem L y F5.out.1.1 (by rw [F5.out.1.2.2.1]; exact h9)).1
                  exact ⟨(S5.out.lw.nodes y h8).lt, h8⟩
                · have h8 := (S5.out.lw.inv.mem O y F5.out.2.1 (by rw [F5.out.2.2]; exact h9)).1
                  exact ⟨(S5.out.lw.nodes y h8).lt, h8⟩
              have S6 := Lib.hid (S5.out.turn (Nat.le_refl _) h6 k6 n6)
              have F6 := Lib.hid (show (s6.kd L = 1 ∧ s6.kd T = 1 ∧ s6.sq L = ns ++ ys ∧ s6.sq T = []) ∧ s6.kd O = 1 ∧ s6.sq O = [] from
                ⟨⟨by rw [n6 L hLw5]; exact F5.out.1.1, by rw [n6 T hTw5]; exact F5.out.1.2.1, by rw [q6, upd_ne _ _ hLO, upd_same, F5.out.1.2.2.1, F5.out.2.2], by rw [q6, upd_ne _ _ hTO, upd_ne _ _ (Ne.symm hLT)]; exact F5.out.1.2.2.2⟩, by rw [n6 O hOw5]; exact F5.out.2.1, by rw [q6, upd_same]⟩)
              have V6 := Lib.hid (show valsOf_i s6 (ns ++ ys) = (zs ++ zk.take j).map (.int .i64) by
                rw [← V5.out]
                show (ns ++ ys).map (LV s6) = (ns ++ ys).map (LV s5)
                rw [v6])
              clear h6 n6 q6 v6 k6
              go_wp2_with fail
              refine (llen_i _ _ S6.out.lw O F6.out.2.1).mono ?_
              rintro e w7 ⟨rfl, rfl⟩
              rw [F6.out.2.2]
              go_wp2_with fail
              refine (oPush_i _ _ S6.out.lw O 7 F6.out.2.1 (by rw [F6.out.2.2]; simp)).mono ?_
              rintro e w7 ⟨rfl, z7, k7, s7, h7, n7, d7, q7, v7⟩
              have hLw6 := (S6.out.lw.lists L F6.out.1.1).lt
              have hTw6 := (S6.out.lw.lists T F6.out.1.2.1).lt
              have hOw6 := (S6.out.lw.lists O F6.out.2.1).lt
              have S7 := Lib.hid (S6.out.turn (Nat.le_refl _) h7 k7 n7)
              have F7 := Lib.hid (show (s7.kd L = 1 ∧ s7.kd T = 1 ∧ s7.sq L = ns ++ ys ∧ s7.sq T = []) ∧ s7.kd O = 1 ∧ s7.sq O = [w6.heap.size] from
                ⟨⟨by rw [n7 L hLw6]; exact F6.out.1.1, by rw [n7 T hTw6]; exact F6.out.1.2.1, by rw [q7, upd_ne _ _ hLO]; exact F6.out.1.2.2.1, by rw [q7, upd_ne _ _ hTO]; exact F6.out.1.2.2.2⟩, by rw [n7 O hOw6]; exact F6.out.2.1, by rw [q7, upd_same, F6.out.2.2]; rfl⟩)
              have hn6 : w6.heap.size ∉ ns ++ ys := fun hm => by
                have h8 := (S6.out.lw.inv.mem L _ F6.out.1.1 (by rw [F6.out.1.2.2.1]; exact hm)).1
                have := (S6.out.lw.nodes _ h8).lt
                omega
              have V7 := Lib.hid (show valsOf_i s7 (ns ++ ys) = (zs ++ zk.take j).map (.int .i64) by
                rw [← V6.out]
                refine List.map_congr_left fun y hy => ?_
                show LV s7 y = LV s6 y
                rw [v7]
                exact upd_ne _ _ (fun e => hn6 (by rw [← e]; exact hy)))
              have D7 := Lib.hid d7
              have N6 := Lib.hid hn6
              generalize hx : w6.heap.size = x at *
              clear h7 n7 d7 q7 v7 k7 z7 hlt5 hx hn6
              go_wp2_with fail
              refine (lhas_i _ _ S7.out.lw O x F7.out.2.1 D7.out).mono ?_
              rintro e w8 ⟨rfl, k8⟩
              rw [show decide (x ∈ s7.sq O) = true by rw [F7.out.2.2]; simp]
              have S8 := Lib.hid (S7.out.still (Nat.le_refl _) k8)
              clear k8
              go_wp2_with fail
              refine (lhas_i _ _ S8.out.lw L x F7.out.1.1 D7.out).mono ?_
              rintro e w9 ⟨rfl, k9⟩
              rw [show decide (x ∈ s7.sq L) = false by rw [F7.out.1.2.2.1, decide_eq_false_iff_not]; exact N6.out]
              have S9 := Lib.hid (S8.out.still (Nat.le_refl _) k9)
              clear k9
              go_wp2_with fail
              refine (llen_i _ _ S9.out.lw O F7.out.2.1).mono ?_
              rintro e w10 ⟨rfl, rfl⟩
              rw [F7.out.2.2, show ((([x] : List Nat).length : Nat) : Int) = 1 from rfl]
              go_wp2_with fail
              go_roundw
              case rel => exact ⟨k + 1, s7, ns ++ ys, zs ++ zk.take j, by omega, by go_num, S9.out, F7.out.1, V7.out, by rw [List.length_append]; omega⟩
              case measure => simp [intOf]; omega
      · obtain rfl : k = len0 := by omega
        have hnl : ns.length ≤ 400 := by omega
        have hzn : zs.length = ns.length := by
          have h9 := congrArg List.length HV.out
          simp only [valsOf_i, List.length_map] at h9
          omega
        have hones : ∀ y, y ∈ s.sq L → ∃ v, (s.nd y).val = .int .i64 v := fun y hy => by
          rw [HF.out.2.2.1] at hy
          have : (s.nd y).val ∈ valsOf_i s ns := List.mem_map.2 ⟨y, hy, rfl⟩
          rw [HV.out] at this
          obtain ⟨v, _, hv⟩ := List.mem_map.1 this
          exact ⟨v, hv.symm⟩
        have HON := Lib.hid hones
        have HZN := Lib.hid hzn
        obtain ⟨wa, wc, rfl⟩ := owns_slice hS.want
        obtain ⟨na, nc, rfl⟩ := hS.row.slice
        rw [hzn]
        clear hS hF hV hones hzn hN
        go_wp2_with fail
        refine (lall_i _ _ HS.out.lw L HF.out.1 (by rw [HF.out.2.2.1]; omega) HON.out).mono ?_
        rintro e w4 ⟨⟨v4, rfl, ho4⟩, k4⟩
        rw [HF.out.2.2.1, HV.out] at ho4
        have k4' := kept_of_below k4
        have hfr : ∀ b, s.kd b ≠ 0 → ¬ wr.heap.size ≤ b := fun b hb h9 => hb (HS.out.lw.fresh b h9)
        have S4 := Lib.hid (show Spl w.heap.size (.slice na ns.length nc) (.slice wa zs.length wc) ns zs s w w4 from
          ⟨HS.out.lw.kept k4' (fun x hx h9 => hfr x hx h9), HS.out.row.kept k4' (fun b hb _ h9 => by omega) (fun _ _ => rfl), owns_kept2 HS.out.want k4' (fun b hb h9 => by have := own_lt HS.out.want b hb; omega), HS.out.wfree, HS.out.apart, HS.out.low, below_step HS.out.bel k4' (Nat.le_refl _) (fun i hi h9 => by omega)⟩)
        have i4 := ints_any _ _ zs zs _ _ w4 ho4 (VRow.of_owns S4.out.want)
        rw [show decide (zs = zs) = true by simp] at i4
        obtain ⟨av4, c4, rfl⟩ := ho4.len
        rw [List.length_map, HZN.out] at i4 ⊢
        have I4 := Lib.hid i4
        clear i4 ho4 k4 k4' hfr
        go_wp2_with fail
        refine I4.out.mono ?_
        rintro e w5 ⟨rfl, k5⟩
        have S5 := Lib.hid (S4.out.still (Nat.le_refl _) k5)
        clear k5
        go_wp2_with fail
        refine (llen_i _ _ S5.out.lw L HF.out.1).mono ?_
        rintro e w6 ⟨rfl, rfl⟩
        rw [HF.out.2.2.1]
        by_cases h0 : ns.length = 0
        · have h0' : ((ns.length : Int) == 0) = true := by rw [beq_iff_eq]; omega
          go_wp2_with fail
          go_ret
          exact ⟨rfl, S5.out.bel⟩
        · have h0' : ((ns.length : Int) == 0) = false := by rw [beq_eq_false_iff_ne]; omega
          have hp0 : 0 < ns.length := by omega
          obtain ⟨m, hm⟩ : ∃ m : Nat, (m : Int) = a1 % (ns.length : Int) := ⟨(a1 % (ns.length : Int)).toNat, by have := Int.emod_nonneg a1 (show (ns.length : Int) ≠ 0 by omega); omega⟩
          have hmk : m < ns.length := by have := Int.emod_lt_of_pos a1 (show (0 : Int) < ns.length by omega); omega
          have HM := Lib.hid hm
          clear hm
          go_wp2_with fail
          rw [← HM.out]
          obtain ⟨nb, no, rfl, hnb, hnk, hbn, hnc⟩ := S5.out.row.at_ hmk
          generalize hx : ns.getD m 0 = x at *
          have hxm : x ∈ ns := by rw [← hx, List.getD_eq_getElem?_getD, List.getElem?_eq_getElem hmk]; exact List.getElem_mem _
          have hkx : s.kd x = 2 := (S5.out.lw.inv.mem L x HF.out.1 (by rw [HF.out.2.2.1]; exact hxm)).1
          have XM := Lib.hid hxm
          have i2 := fun w => run_indexAt_at (P := Try.prog) (a := some ⟨nb, no, none⟩) (cap := nc) (s := 1) (i := m) (len := ns.length) rfl Try.underlying27 (fun w => by kernel_rfl) hmk w
          have hnd : ns.Nodup := by have := S5.out.lw.inv.nodup L HF.out.1; rwa [HF.out.2.2.1] at this
          have ND := Lib.hid hnd
          clear hx hxm hnd
          rw [i2 w5]
          go_wp2_with fail
          refine (oUnlink_i _ _ S5.out.lw T x HF.out.2.1 hkx (by rw [HF.out.2.2.2]; simp)).mono ?_
          rintro e w6 ⟨rfl, k6, s6, h6, n6, q6, v6⟩
          rw [if_neg (by rw [HF.out.2.2.2]; simp)]
          have S6 := Lib.hid (S5.out.turn (Nat.le_refl _) h6 k6 (fun y _ => by rw [n6]))
          have F6 := Lib.hid (show s6.kd L = 1 ∧ s6.kd x = 2 ∧ s6.sq L = ns from ⟨by rw [n6]; exact HF.out.1, by rw [n6]; exact hkx, by rw [q6, upd_ne _ _ hLT]; exact HF.out.2.2.1⟩)
          have hnc6 : w6.cell? ⟨nb, no + m, none⟩ = some (.pointer (some ⟨x, 0, none⟩)) := (World.cell?_of_block (a := ⟨nb, no + m, none⟩) (k6.block nb hnb (fun h9 => h9 hnk))).trans hnc
          have hz6 := k6.size
          have hnk6 : s6.kd nb = 0 := by rw [n6]; exact hnk
          clear h6 k6 n6 q6 v6 hnc
          go_wp2_with fail
          refine (oUnlink_i _ _ S6.out.lw L x F6.out.1 F6.out.2.1 (by rw [F6.out.2.2]; omega)).mono ?_
          rintro e w7 ⟨rfl, k7, s7, h7, n7, q7, v7⟩
          rw [if_pos (by rw [F6.out.2.2]; exact XM.out)]
          have S7 := Lib.hid (S6.out.turn (Nat.le_refl _) h7 k7 (fun y _ => by rw [n7]))
          have F7 := Lib.hid (show s7.kd L = 1 ∧ s7.kd x = 2 ∧ s7.sq L = ns.erase x from ⟨by rw [n7]; exact F6.out.1, by rw [n7]; exact F6.out.2.1, by rw [q7, upd_same, F6.out.2.2]⟩)
          have hnc7 : w7.cell? ⟨nb, no + m, none⟩ = some (.pointer (some ⟨x, 0, none⟩)) := (World.cell?_of_block (a := ⟨nb, no + m, none⟩) (k7.block nb (by omega) (fun h9 => h9 hnk6))).trans hnc6
          have hel : (ns.erase x).length = ns.length - 1 := List.length_erase_of_mem XM.out
          have EL := Lib.hid hel
          clear h7 k7 n7 q7 v7 hnc6 hel
          go_wp2_with fail
          refine (oUnlink_i _ _ S7.out.lw L x F7.out.1 F7.out.2.1 (by rw [F7.out.2.2, EL.out]; omega)).mono ?_
          rintro e w8 ⟨rfl, k8, s8, h8, n8, q8, v8⟩
          rw [if_neg (by rw [F7.out.2.2]; exact fun h9 => (ND.out.mem_erase_iff.1 h9).1 rfl)]
          have S8 := Lib.hid (S7.out.turn (Nat.le_refl _) h8 k8 (fun y _ => by rw [n8]))
          have F8 := Lib.hid (show s8.kd L = 1 ∧ s8.sq L = ns.erase x from ⟨by rw [n8]; exact F7.out.1, by rw [q8, upd_same, F7.out.2.2, List.erase_of_not_mem (fun h9 => (ND.out.mem_erase_iff.1 h9).1 rfl)]⟩)
          clear h8 k8 n8 q8 v8 hnc7
          go_wp2_with fail
          refine (llen_i _ _ S8.out.lw L F8.out.1).mono ?_
          rintro e w9 ⟨rfl, rfl⟩
          rw [F8.out.2, EL.out, show (((ns.length - 1 : Nat) : Int)) = (ns.length : Int) - 1 by omega]
          go_wp2_with fail
          go_ret
          exact ⟨rfl, S8.out.bel⟩
end Go.Proofs.Ytdpcgemmbpbpoaa
