/-
  What stands here: the walk of LevelMap. Under no condition but that its arguments fit their types.
-/
import Derived.Test.YtpkjhpfmikamkaaLevelOne
import Derived.Deep.CutRange
import Derived.Deep.CutBlock
namespace Go.Proofs.Ytpkjhpfmikamkaa
set_option linter.unusedVariables false
set_option linter.unusedSimpArgs false
open Go.RowKit Go.Proofs

/-- a level, and nodes in a slice, behind so many steps -/
structure LM (base v : Nat) (sl : Nat → Nat) (k : Nat) (nv : Value) (xs : List Nat) (s : LS) (w W : World) : Prop where
  I : LvI base v sl s w W
  row : NRow base s nv xs W
  kx : ∀ x, x ∈ xs → s.kd x = 2
  ints : ∀ j, j < 64 → ∀ x, x ∈ s.sq (sl j) → ∃ u : Int, LV s x = .int .i64 u
  tot : tot (fun k => (s.sq (sl k)).length) ≤ k
  len : xs.length ≤ k
section
variable {base v k : Nat} {sl : Nat → Nat} {nv : Value} {xs : List Nat} {s : LS} {w W : World}
theorem LM.still {n : Nat} (h : LM base v sl n nv xs s w W) {W' : World} (k : Still W W') : LM base v sl n nv xs s w W' := ⟨h.I.still k, h.row.still k, h.kx, h.ints, h.tot, h.len⟩
theorem LM.next (h : LM base v sl k nv xs s w W) : LM base v sl (k + 1) nv xs s w W := ⟨h.I, h.row, h.kx, h.ints, Nat.le_succ_of_le h.tot, Nat.le_succ_of_le h.len⟩
theorem NRow.lv {base va : Nat} {s s' : LS} {nv : Value} {xs : List Nat} {W W' : World} (h : NRow base s nv xs W) (hv : s.kd va = 4) (k : Kept (fun y => s.kd y = 1 ∨ s.kd y = 2 ∨ y = va) W W') (hk : s'.kd = s.kd) : NRow base s' nv xs W' :=
  h.kept k (fun b _ hb h9 => by
    rcases h9 with h9 | h9 | h9
    · omega
    · omega
    · rw [h9] at hb; omega) (fun y _ => by rw [hk])
/-- a slot's list has become another one -/
theorem LM.turn (h : LM base v sl k nv xs s w W) {s' : LS} {W' : World} {j m : Nat} {ys : List Nat} (h1 : LW_i s' W') (h2 : LvB_i s' v sl W') (kk : Kept (fun y => s.kd y = 1 ∨ s.kd y = 2 ∨ y = v) W W') (hk : s'.kd = s.kd) (hj : j < 64) (hq : s'.sq = upd s.sq (sl j) ys) (hv : LV s' = LV s) (hl : ys.length ≤ (s.sq (sl j)).length + m) (hy : ∀ x, x ∈ ys → ∃ u : Int, LV s x = .int .i64 u) : LM base v sl (k + m) nv xs s' w W' := by
  refine ⟨h.I.turn h1 h2 kk hk hj hq, h.row.lv h.I.lv.kv kk hk, fun x hx => by rw [hk]; exact h.kx x hx, fun i hi x hx => by
    rw [hv]
    rw [hq] at hx
    by_cases e : i = j
    · rw [e, upd_same] at hx; exact hy x hx
    · rw [upd_ne _ _ (fun e9 => e (h.I.lv.inj i j hi hj e9))] at hx; exact h.ints i hi x hx, ?_, by have := h.len; omega⟩
  have ht := tot_one (f := fun k => (s'.sq (sl k)).length) (g := fun k => (s.sq (sl k)).length) hj (fun x hx e => by rw [hq, upd_ne _ _ (fun e9 => e (h.I.lv.inj x j hx hj e9))])
  rw [hq] at ht ⊢
  rw [upd_same] at ht
  have := h.tot
  omega
/-- a new node -/
theorem LM.node (h : LM base v sl k nv xs s w W) {x : Nat} (hx : W.heap.size = x) (u : Int) : LM base v sl k nv xs (s.node x (.int .i64 u)) w (W.alloc (.cells #[.int .i64 u, .pointer none, .pointer none, .pointer none] 30)) := by
  refine ⟨h.I.node hx _, h.row.kept ((still_refl W).alloc _) (fun _ _ _ f => f) (fun y hy => upd_ne _ _ (by omega)), fun y hy => ?_, fun i hi y hy => ?_, h.tot, h.len⟩
  · show upd s.kd x 2 y = 2
    by_cases e : y = x
    · rw [e, upd_same]
    · rw [upd_ne _ _ e]; exact h.kx y hy
  · have hlt := (h.I.lw.nodes y (h.I.lw.inv.mem _ y (h.I.lv.kl i hi) hy).1).lt
    rw [LS.node_val, upd_ne _ _ (by omega)]
    exact h.ints i hi y hy
theorem LM.more (h : LM base v sl k nv xs s w W) {W' : World} {nv' : Value} {o : Obj} {x : Nat} (ha : Appended (W.alloc o) W' base 27 1 nv nv' (xs.length + 1) (ptrs xs ++ [.pointer (some ⟨x, 0, none⟩)])) (hx : s.kd x = 2) (hl : xs.length + 1 ≤ k) : LM base v sl k nv' (xs ++ [x]) s w W' := by
  obtain ⟨h1, h2, h3⟩ := h.row.more h.I.lw ha h.I.size
  have k1 : Kept (fun b => nv.ownBlock = some b) W W' := ha.kept (Kept.refl _ W) (fun b _ hb => hb)
  refine ⟨⟨h2, h.I.lv.carry k1 (fun h9 => by have := h.row.free v h9; have := h.I.lv.kv; omega) rfl (fun _ _ => rfl) (fun _ _ => rfl), below_step h.I.bel h3 h.I.le (fun i hi h9 => by omega), h.I.low, h.I.le, h.I.only⟩, h1, fun y hy => ?_, h.ints, h.tot, by rw [List.length_append]; exact hl⟩
  rcases List.mem_append.1 hy with h9 | h9
  · exact h.kx y h9
  · obtain rfl := List.mem_singleton.1 h9; exact hx
theorem LM.one (h : LM base v sl k nv xs s w W) {j : Nat} (hj : j < 64) : ∀ x, x ∈ s.sq (sl j) → ∃ u : Int, (s.nd x).val = .int .i64 u := h.ints j hj
end
/-- the sum over the first slots -/
theorem psum_is (f : Nat → Nat) (q : Nat) : ∃ n, n = ((List.range q).map f).sum := ⟨_, rfl⟩
noncomputable def psum (f : Nat → Nat) (q : Nat) : Nat := Classical.choose (psum_is f q)
theorem psum_eq (f : Nat → Nat) (q : Nat) : psum f q = ((List.range q).map f).sum := Classical.choose_spec (psum_is f q)
theorem psum_zero (f : Nat → Nat) : psum f 0 = 0 := psum_eq f 0
theorem psum_all (f : Nat → Nat) : psum f 64 = tot f := by rw [psum_eq, tot_eq]
theorem psum_succ (f : Nat → Nat) (q : Nat) : psum f (q + 1) = psum f q + f q := by simp [psum_eq, List.range_succ]
theorem psum_le (f : Nat → Nat) {q : Nat} (hq : q ≤ 64) : psum f q ≤ tot f := by
  have h : ∀ d, psum f q ≤ psum f (q + d) := fun d => by
    induction d with
    | zero => exact Nat.le_refl _
    | succ d ih => rw [← Nat.add_assoc, psum_succ]; omega
  have := h (64 - q)
  rw [show q + (64 - q) = 64 by omega, psum_all] at this
  exact this

set_option maxHeartbeats 4000000 in
set_option maxRecDepth 100000 in
theorem levelMap_walk (a0 : Option Addr) (len0 cap0 : Nat) (f0_0 : Nat → Int) (f0_1 : Nat → Int) (f0_2 : Nat → Int) (w : World) (w0 : (len0 ≤ cap0 ∧ cap0 ≤ maxLen) ∧ (0 < len0 → ∃ b o, a0 = some ⟨b, o, none⟩ ∧ b < w.heap.size ∧ ∀ i, i < len0 → w.cell? ⟨b, o + i * 3, none⟩ = some (.int .i64 (f0_0 i)) ∧ (Lit.int .i64 (f0_0 i)).wf = true ∧ w.cell? ⟨b, o + i * 3 + 1, none⟩ = some (.int .i64 (f0_1 i)) ∧ (Lit.int .i64 (f0_1 i)).wf = true ∧ w.cell? ⟨b, o + i * 3 + 2, none⟩ = some (.int .i64 (f0_2 i)) ∧ (Lit.int .i64 (f0_2 i)).wf = true)) :
    Calls Try.prog 6 #[.slice a0 len0 cap0] w fun e w' => e = .returned (.bool true) ∧ Below w.heap.size w w' := by
  obtain ⟨⟨hle1, hle⟩, hacts⟩ := w0
  unfold maxLen at hle
  have HR := Lib.hid hacts
  clear hacts
  obtain ⟨i0, hi, hz0, hz1, hz2⟩ := info_parts infoNode_i
  by_cases h100 : 100 < len0
  · go_enter Try.func6, Try.ntmps6
    go_wp2_with fail
    refine (alive_any w).mono ?_
    rintro e w1 ⟨rfl, k1⟩
    go_wp2_with fail
    go_ret
    exact ⟨rfl, k1⟩
  go_enter Try.func6, Try.ntmps6
  go_wp2_with fail
  refine (alive_any w).mono ?_
  rintro e w1 ⟨rfl, k1⟩
  go_wp2_with fail
  refine (lvnew_i LS.zero w1 (LW_i.zero w1)).mono ?_
  rintro e w2 ⟨rfl, k2, s2, sl, h2, b2, n2, g2, q2, o2, v2⟩
  have S2 := Lib.hid (show LM w.heap.size w1.heap.size sl 0 (.slice none 0 0) [] s2 w w2 from ⟨LvI.start (LW_i.zero w1) k1 k2 h2 b2 n2 o2, NRow.nil _ _ _, fun x hx => absurd hx List.not_mem_nil, fun j hj x hx => absurd (q2 j hj ▸ hx) List.not_mem_nil, by rw [tot_zero (fun k hk => by rw [q2 k hk]; rfl)]; exact Nat.le_refl _, Nat.le_refl _⟩)
  clear k1 k2 h2 b2 n2 g2 q2 o2 v2
  generalize w1.heap.size = v at *
  go_wp2_with fail
  go_loopw [4, 5] (fun nv i wr => ∃ (k : Nat) (s : LS) (xs : List Nat), k ≤ len0 ∧ i = .int .i64 k ∧ LM w.heap.size v sl k nv xs s w wr) (fun _ i _ => len0 - (intOf i).toNat)
  case atStart => exact ⟨0, _, _, Nat.zero_le _, rfl, S2.out⟩
  case round =>
    obtain ⟨k, s, xs, hk, rfl, hS⟩ := hrel
    have hz := hS.I.size
    have hbel := hS.I.bel
    have S := Lib.hid hS
    clear hS
    by_cases hlk : k < len0
    · obtain ⟨ab, ao, ha, hab, hac⟩ := HR.out (by omega)
      obtain ⟨q0, x0, q1, x1, q2, x2⟩ := hac k hlk
      have hix := run_indexAt_at (P := Try.prog) (t := 22) (cap := cap0) (s := 3) ha Try.underlying22 (fun _ => by kernel_rfl) hlk
      clear hac ha
      have e0 := (hbel.cell (p := ⟨ab, ao + k * 3, none⟩) hab).trans q0
      have e1 := (hbel.cell (p := ⟨ab, ao + k * 3 + 1, none⟩) hab).trans q1
      have e2 := (hbel.cell (p := ⟨ab, ao + k * 3 + 2, none⟩) hab).trans q2
      replace x1 := bd_i64 x1
      replace x2 := bd_i64 x2
      clear q0 q1 q2 x0
      generalize f0_0 k = kind at *
      generalize f0_1 k = si at *
      generalize f0_2 k = ni at *
      obtain ⟨A, hAA⟩ : ∃ A, wr.heap.size = A := ⟨_, rfl⟩
      have bA := Blk.newAt wr #[.int .i64 kind, .int .i64 si, .int .i64 ni] 36 hAA
      have SA := Lib.hid (S.out.still ((still_refl wr).alloc (.cells #[.int .i64 kind, .int .i64 si, .int .i64 ni] 36)))
      clear hbel
      obtain ⟨na, nc, rfl⟩ := S.out.row.slice
      go_upto_block 2 with fail
      go_cut [4] from 18 to 98 (fun nv wx => ∃ (s : LS) (xs : List Nat), LM w.heap.size v sl (k + 1) nv xs s w wx)
      case first =>
        have c0 := bA.cell 0
        have c1 := bA.cell 1
        have c2 := bA.cell 2
        by_cases hk0 : kind = 0
        · subst hk0
          have SN := Lib.hid (SA.out.node rfl (k : Int))
          have hno := Lib.hid (SA.out.I.lw.noList (x := (wr.alloc (.cells #[.int .i64 0, .int .i64 si, .int .i64 ni] 36)).heap.size) (u := .int .i64 k) (Nat.le_refl _))
          rw [show (wr.alloc (.cells #[.int .i64 0, .int .i64 si, .int .i64 ni] 36)).heap.size = A + 1 by simp [hAA]] at SN hno
          have hbA := (bA.alloc (.cells #[.int .i64 (k : Int), .pointer none, .pointer none, .pointer none] 30)).cell 1
          generalize hx : A + 1 = x at *
          by_cases hr : 0 ≤ si ∧ si < 64
          · obtain ⟨q, rfl⟩ : ∃ q : Nat, si = q := ⟨si.toNat, by omega⟩
            have hq : q < 64 := by omega
            have htt : tot (fun k => (s.sq (sl k)).length) ≤ 100 := Nat.le_trans S.out.tot (by omega)
            clear hr
            go_wp2_with fail
            refine (lvput_i (s.node x (.int .i64 k)) v sl q x _ SN.out.I.lw SN.out.I.lv hq (upd_same _ _ _) hno.out (by show tot (fun k => (s.sq (sl k)).length) < _; omega)).mono ?_
            rintro e w5 ⟨rfl, k5, s5, l5, b5, d5, q5, v5⟩
            have S5 := Lib.hid (SN.out.turn (m := 1) l5 b5 k5 d5 hq q5 v5 (by rw [List.length_append]; exact Nat.le_refl _) (fun y hy => by
              rcases List.mem_append.1 hy with h9 | h9
              · exact SN.out.ints q hq y h9
              · obtain rfl := List.mem_singleton.1 h9
                exact ⟨_, by rw [LS.node_val, upd_same]⟩))
            have hx5 : s5.kd x = 2 := by rw [d5]; exact upd_same _ _ _
            have hxl : xs.length ≤ k := S.out.len
            have hoa := owns_kept2 S5.out.row.own ((Kept.refl (fun _ => False) w5).alloc (.cells #[.pointer (some ⟨x, 0, none⟩)] 27)) (fun _ _ f => f)
            have hz5 := S5.out.I.size
            have hbz : w.heap.size ≤ (w5.alloc (.cells #[.pointer (some ⟨x, 0, none⟩)] 27)).heap.size := by simp; omega
            clear l5 b5 k5 d5 q5 v5
            go_wp2_with (first | (at_builtin; refine wpList_append _ rfl _ _ 26 rfl w.heap.size 27 i0 (.pointer none) 1 8 Try.underlying26 hi hz0 hz1 hz2 rfl (by decide) _ _ _ rfl (hoa) ⟨w5.heap.size, 0, none⟩ 1 1 [.pointer (some ⟨x, 0, none⟩)] rfl rfl (by intro j u hj; match j, hj with | 0, hj => simp at hj; subst hj; first | (simp [Addr.add]; done) | exact (Blk.newAt _ _ _ (by simp)).cell 0) (by intro u hu; simp at hu; subst hu; rfl) (by unfold maxLen; omega) (by omega) (by first | omega | (simp; omega) | simp) ?_) | fail)
            intro nv' w6 hap
            have S6 := Lib.hid (S5.out.more hap hx5 (by omega))
            clear hap hoa
            go_wp2_with fail
            go_meet
            case rel => exact ⟨_, _, S6.out⟩
          · go_wp2_with fail
            refine (lvput_range_i v si _ _ hr).mono ?_
            rintro e w5 ⟨rfl, rfl⟩
            go_wp2_with fail
            go_meet
            case rel => exact ⟨_, xs, SN.out.next⟩
        · have hb0 : (kind == 0) = false := by rw [beq_eq_false_iff_ne]; exact hk0
          by_cases hk1 : kind = 1
          · subst hk1
            by_cases hx0 : xs.length = 0
            · go_wp2_with fail
              go_meet
              case rel => exact ⟨_, xs, SA.out.next⟩
            · have hxp : 0 < xs.length := by omega
              have hpe : ((xs.length : Int) == 0) = false := by rw [beq_eq_false_iff_ne]; omega
              obtain ⟨q, hq⟩ : ∃ q : Nat, (q : Int) = (max 0 ni) % (xs.length : Int) := ⟨((max 0 ni) % (xs.length : Int)).toNat, by have := Int.emod_nonneg (max 0 ni) (show (xs.length : Int) ≠ 0 by omega); omega⟩
              have hqk : q < xs.length := by have := Int.emod_lt_of_pos (max 0 ni) (show (0 : Int) < xs.length by omega); omega
              have hmx : 0 ≤ max 0 ni := by omega
              obtain ⟨g, go, rfl, hgl, hgk, _, hgc⟩ := SA.out.row.at_ hqk
              have hxm : xs.getD q 0 ∈ xs := by rw [List.getD_eq_getElem?_getD, List.getElem?_eq_getElem hqk]; exact List.getElem_mem _
              generalize xs.getD q 0 = x at *
              have hkx := SA.out.kx x hxm
              have HQ := Lib.hid hq
              have CG := Lib.hid (cells_of_cell hgc)
              have CA := Lib.hid bA.cells
              have hixg := fun w => run_indexAt_at (P := Try.prog) (a := some ⟨g, go, none⟩) (cap := nc) (s := 1) (i := q) (len := xs.length) rfl Try.underlying26 (fun w => by kernel_rfl) hqk w
              clear hq hxm
              go_upto_region 18 with fail
              refine wp_region_text ([4], [9, 27]) [A, g] (by kernel_rfl) (by kernel_rfl) (cellsB_cons CA.out (cellsB_cons CG.out cellsB_nil)) (by simp [segs, isEff, isLoad, askOps, asks, ptrEq, eqOrNe, isNil]; rfl) ?_
              generalize wr.alloc (.cells #[.int .i64 1, .int .i64 si, .int .i64 ni] 36) = W1 at *
              have hA1 := bA.lt
              rcases Int.lt_or_le 0 ni with hn | hn
              case' inr =>
                have hq0 : q = 0 := by
                  have h9 := HQ.out
                  rw [show max 0 ni = 0 by omega, Int.zero_emod] at h9
                  omega
                subst hq0
                rw [Nat.add_zero] at hgc
                refine segs_go stay_drew (by simp [isLoad]) ?_
                go_wp2_with fail
                refine segs_load stay_drew (fun _ => (by exact ⟨A, _, rfl, by simp⟩)) ?_
                go_wp2_with fail
                refine segs_load stay_drew (fun _ => (by exact ⟨A, _, rfl, by simp⟩)) ?_
                go_wp2_with fail
                refine segs_go stay_drew (by simp [isLoad]) ?_
                go_wp2_with fail
                refine segs_load stay_drew (fun _ => (by exact ⟨g, _, rfl, by simp⟩)) ?_
              case' inl =>
                have hq9 : ni % (xs.length : Int) = q := by
                  have h9 := HQ.out
                  rw [show max 0 ni = ni by omega] at h9
                  exact h9.symm
                have hqb : 0 ≤ ni % (xs.length : Int) ∧ ni % (xs.length : Int) < xs.length := by rw [hq9]; omega
                have hgc' : W1.cell? ⟨g, go + (ni % (xs.length : Int)).toNat, none⟩ = some (.pointer (some ⟨x, 0, none⟩)) := by rw [hq9]; exact hgc
                clear hq9
                refine segs_go stay_drew (by simp [isLoad]) ?_
                go_wp2_with fail
                refine segs_load stay_drew (fun _ => (by exact ⟨A, _, rfl, by simp⟩)) ?_
                go_wp2_with fail
                refine segs_load stay_drew (fun _ => (by exact ⟨A, _, rfl, by simp⟩)) ?_
                go_wp2_with fail
                refine segs_go stay_drew (by simp [isLoad]) ?_
                go_wp2_with fail
                refine segs_load stay_drew (fun _ => (by exact ⟨g, _, rfl, by simp⟩)) ?_
              all_goals
                go_wp2_with fail
                have SD := Lib.hid (SA.out.still ((still_refl W1).drewN 1))
                have hkA : s.kd A = 0 := S.out.I.lw.fresh A (by omega)
                have htt : tot (fun k => (s.sq (sl k)).length) ≤ 100 := Nat.le_trans S.out.tot (by omega)
                have hkv := S.out.I.lv.kv
                by_cases hr : 0 ≤ si ∧ si < 64
                · obtain ⟨j, rfl⟩ : ∃ j : Nat, si = j := ⟨si.toNat, by omega⟩
                  have hj : j < 64 := by omega
                  clear hr
                  by_cases hmem : x ∈ s.sq (sl j)
                  · refine (lvrem_i s v sl j x _ SD.out.I.lw SD.out.I.lv hj hmem (by omega)).mono ?_
                    rintro e w5 ⟨rfl, k5, l5, b5⟩
                    have S5 := Lib.hid (SD.out.turn (m := 0) l5 b5 k5 rfl hj rfl (LS.out_val _ _ _) (by have := List.length_erase_le (a := x) (l := s.sq (sl j)); omega) (fun y hy => SD.out.ints j hj y (List.mem_of_mem_erase hy)))
                    have hs5 : StayB [A, g] W1 w5 := StayB.kept (w := W1.drew) stay_drew k5 (fun b hb => by
                      rcases List.mem_cons.1 hb with rfl | hb
                      · exact ⟨hA1, by rintro (h9 | h9 | h9) <;> first | omega | (rw [h9] at hkA; omega)⟩
                      · obtain rfl := List.mem_singleton.1 hb
                        exact ⟨hgl, by rintro (h9 | h9 | h9) <;> first | omega | (rw [h9] at hgk; omega)⟩)
                    clear k5 l5 b5
                    go_wp2_with fail
                    refine segs_go hs5 (by simp [isLoad]) ?_
                    go_wp2_with fail
                    refine segs_nil ?_
                    go_wp2_with fail
                    go_meet
                    case rel => exact ⟨_, xs, S5.out.next⟩
                  · refine (lvrem_no_i s v sl j (some ⟨x, 0, none⟩) 6 (by decide) _ SD.out.I.lv hj (lunlink_no_i s _ SD.out.I.lw _ x (SD.out.I.lv.kl j hj) hkx hmem)).mono ?_
                    rintro e w5 ⟨rfl, k5⟩
                    have S5 := Lib.hid (SD.out.still k5)
                    have hs5 : StayB [A, g] W1 w5 := StayB.kept (w := W1.drew) stay_drew k5 (fun b hb => by
                      rcases List.mem_cons.1 hb with rfl | hb
                      · exact ⟨hA1, fun f => f⟩
                      · obtain rfl := List.mem_singleton.1 hb
                        exact ⟨hgl, fun f => f⟩)
                    clear k5
                    go_wp2_with fail
                    refine segs_go hs5 (by simp [isLoad]) ?_
                    go_wp2_with fail
                    refine segs_nil ?_
                    go_wp2_with fail
                    go_meet
                    case rel => exact ⟨_, xs, S5.out.next⟩
                · refine (lvrem_range_i v si _ _ hr).mono ?_
                  rintro e w5 ⟨rfl, rfl⟩
                  go_wp2_with fail
                  refine segs_go stay_drew (by simp [isLoad]) ?_
                  go_wp2_with fail
                  refine segs_nil ?_
                  go_wp2_with fail
                  go_meet
                  case rel => exact ⟨_, xs, SD.out.next⟩
          · have hb1 : (kind == 1) = false := by rw [beq_eq_false_iff_ne]; exact hk1
            by_cases hk2 : kind = 2
            · subst hk2
              by_cases hr : 0 ≤ si ∧ si < 64
              · obtain ⟨q, rfl⟩ : ∃ q : Nat, si = q := ⟨si.toNat, by omega⟩
                have hq : q < 64 := by omega
                have htt : tot (fun k => (s.sq (sl k)).length) ≤ 100 := Nat.le_trans S.out.tot (by omega)
                clear hr
                go_wp2_with fail
                refine (lvtake_i s v sl q _ SA.out.I.lw SA.out.I.lv hq (by omega)).mono ?_
                rintro e w5 ⟨⟨r, rfl, ho⟩, k5, s5, l5, b5, d5, q5, v5⟩
                have S5 := Lib.hid (SA.out.turn (m := 0) l5 b5 k5 d5 hq q5 v5 (Nat.zero_le _) (fun y hy => absurd hy List.not_mem_nil))
                clear l5 b5 k5 d5 q5 v5 ho
                go_wp2_with fail
                go_meet
                case rel => exact ⟨_, xs, S5.out.next⟩
              · go_wp2_with fail
                refine (lvtake_range_i v si _ hr).mono ?_
                rintro e w5 ⟨rfl, rfl⟩
                go_wp2_with fail
                go_meet
                case rel => exact ⟨_, xs, SA.out.next⟩
            · have hb2 : (kind == 2) = false := by rw [beq_eq_false_iff_ne]; exact hk2
              go_wp2_with fail
              go_meet
              case rel => exact ⟨s, xs, SA.out.next⟩
      case rest =>
        obtain ⟨s3, xs3, hS3⟩ := hcut
        have S3 := Lib.hid hS3
        clear hS3 SA S
        go_wp2_with fail
        go_loopw [8, 9] (fun nn i wr => ∃ q : Nat, q ≤ 64 ∧ i = .int .i64 q ∧ nn = .int .i64 (psum (fun j => (s3.sq (sl j)).length) q) ∧ LM w.heap.size v sl (k + 1) u4 xs3 s3 w wr) (fun _ i _ => 64 - (intOf i).toNat)
        case atStart => exact ⟨0, Nat.zero_le _, rfl, by rw [psum_zero]; rfl, S3.out⟩
        case round =>
          obtain ⟨q, hq, rfl, rfl, hS4⟩ := hrel
          have S4 := Lib.hid hS4
          have ht4 := hS4.tot
          have hp4 := psum_le (fun j => (s3.sq (sl j)).length) hq
          have HP := Lib.hid (psum_succ (fun j => (s3.sq (sl j)).length) q)
          clear hS4
          by_cases hql : q < 64
          · generalize hN : psum (fun j => (s3.sq (sl j)).length) q = N at *
            have hle3 : (s3.sq (sl q)).length ≤ tot (fun k => (s3.sq (sl k)).length) := le_tot (f := fun k => (s3.sq (sl k)).length) hql
            have HN := Lib.hid hN
            have hle4 : (s3.sq (sl q)).length ≤ 1000 := by omega
            have hN4 : N ≤ 1000 := by omega
            have ht5 := Lib.hid (show tot (fun k => (s3.sq (sl k)).length) < 100000 by omega)
            clear hN hle3 ht4 hp4
            go_wp2_with fail
            refine (lvat_i s3 v sl q _ S4.out.I.lw S4.out.I.lv hql ht5.out (S4.out.one hql)).mono ?_
            rintro e w5 ⟨⟨r5, rfl, ho5⟩, k5⟩
            have S5 := Lib.hid (S4.out.still ((kept_of_below k5).mono fun y h1 h2 => absurd h2 (by omega)))
            obtain ⟨ra5, rc5, rfl⟩ := owns_slice ho5
            clear k5 ho5
            go_wp2_with fail
            refine (lvmap_i s3 v sl w5 S5.out.I.lv).mono ?_
            rintro e w6 ⟨u, rfl, rfl, hu⟩
            have HU := Lib.hid hu
            clear hu
            go_wp2_with fail
            refine (has_any u HU.out.1 q w5).mono ?_
            rintro e w6 ⟨rfl, rfl⟩
            have hhas : hasB u q = decide (0 < (s3.sq (sl q)).length) := by
              unfold hasB
              rw [decide_eq_true (p := 0 ≤ (q : Int) ∧ (q : Int) < 64) ⟨by omega, by omega⟩, Bool.true_and, Int.toNat_natCast, HU.out.2 q hql, decide_eq_decide]
              exact List.length_pos_iff.symm
            rw [hhas]
            clear hhas
            generalize hmm : (s3.sq (sl q)).length = m at *
            have HM := Lib.hid hmm
            clear hmm
            go_wp2_with fail
            refine (lvat_i s3 v sl q _ S5.out.I.lw S5.out.I.lv hql ht5.out (S5.out.one hql)).mono ?_
            rintro e w6 ⟨⟨r6, rfl, ho6⟩, k6⟩
            rw [HM.out] at ho6
            have S6 := Lib.hid (S5.out.still ((kept_of_below k6).mono fun y h1 h2 => absurd h2 (by omega)))
            obtain ⟨ra6, rc6, rfl⟩ := owns_slice ho6
            clear k6 ho6
            by_cases hm : 0 < m
            · go_wp2_with fail
              go_roundw
              case rel => exact ⟨q + 1, by omega, by go_num, by rw [HP.out]; go_num, S6.out⟩
              case measure => simp [intOf]; omega
            · go_wp2_with fail
              go_roundw
              case rel => exact ⟨q + 1, by omega, by go_num, by rw [HP.out]; go_num, S6.out⟩
              case measure => simp [intOf]; omega
          · obtain rfl : q = 64 := by omega
            have hN : psum (fun j => (s3.sq (sl j)).length) 64 = tot (fun j => (s3.sq (sl j)).length) := psum_all _
            rw [hN]
            clear hN HP hp4
            go_wp2_with fail
            refine (lvlen_i s3 v sl _ S4.out.I.lv).mono ?_
            rintro e w5 ⟨rfl, rfl⟩
            generalize tot (fun j => (s3.sq (sl j)).length) = N at *
            go_wp2_with fail
            go_roundw
            case rel => exact ⟨k + 1, s3, xs3, by omega, by go_num, S4.out⟩
            case measure => simp [intOf]; omega
    · obtain rfl : k = len0 := by omega
      go_wp2_with fail
      go_ret
      exact ⟨rfl, S.out.I.bel⟩
end Go.Proofs.Ytpkjhpfmikamkaa
