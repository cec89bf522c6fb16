/-
  What stands here: the walk of LevelActs. Under no condition but that its arguments fit their types.
-/
import Derived.Test.YtpkjhpfmikamkaaLevelActsW
import Derived.Deep.CutRange
import Derived.Deep.CutBlock
namespace Go.Proofs.Ytpkjhpfmikamkaa
set_option linter.unusedVariables false
set_option linter.unusedSimpArgs false
open Go.RowKit Go.Proofs

/-- all at once, behind so many steps -/
structure LA (base v R : Nat) (sl : Nat → Nat) (k : Nat) (nv : Value) (ns : List Nat) (s : LS) (L : Nat → List Int) (w W : World) : Prop where
  o : ∃ col, N0 base v sl col s nv ns w W ∧ RefL col R L W
  t : TieL sl s ns L
  n : ns.length = 12
  tot : tot (fun k => (L k).length) ≤ k
section
variable {base v R k : Nat} {sl : Nat → Nat} {nv : Value} {ns : List Nat} {s : LS} {L : Nat → List Int} {w W : World}
theorem LA.bel (h : LA base v R sl k nv ns s L w W) : Below base w W := by obtain ⟨col, o, _⟩ := h.o; exact o.fr.bel
theorem LA.size (h : LA base v R sl k nv ns s L w W) : base ≤ W.heap.size := by obtain ⟨col, o, _⟩ := h.o; exact o.fr.size
theorem LA.still (h : LA base v R sl k nv ns s L w W) {W' : World} (kk : Still W W') : LA base v R sl k nv ns s L w W' := by
  obtain ⟨col, o, r⟩ := h.o
  exact ⟨⟨col, o.still kk, r.still kk⟩, h.t, h.n, h.tot⟩
theorem LA.next (h : LA base v R sl k nv ns s L w W) : LA base v R sl (k + 1) nv ns s L w W := ⟨h.o, h.t, h.n, Nat.le_succ_of_le h.tot⟩
theorem LA.form (h : LA base v R sl k nv ns s L w W) : ∃ g c, nv = .slice (some ⟨g, 0, none⟩) 12 c := by
  obtain ⟨col, o, _⟩ := h.o
  have hx : ns[0]? = some (ns.getD 0 0) := by rw [List.getD_eq_getElem?_getD, List.getElem?_eq_getElem (by rw [h.n]; omega)]; rfl
  obtain ⟨g, c, e, _⟩ := o.at_ hx
  exact ⟨g, c, by rw [e, h.n]⟩
theorem LA.small (h : LA base v R sl k nv ns s L w W) (hk : k ≤ 1000) {j : Nat} (hj : j < 64) : (L j).length ≤ 1000 := Nat.le_trans (le_tot (f := fun k => (L k).length) hj) (Nat.le_trans h.tot hk)
end

abbrev actC (kind si ni : Int) : Array Value := #[.int .i64 kind, .int .i64 si, .int .i64 ni]
/-- .. beside an act -/
structure LB (base v R A : Nat) (sl : Nat → Nat) (nv : Value) (ns : List Nat) (s : LS) (L : Nat → List Int) (kind si ni : Int) (w W : World) : Prop where
  o : ∃ col, N0 base v sl col s nv ns w W ∧ RefL col R L W ∧ col A = 0 ∧ Blk W A (actC kind si ni) 36
  n : ns.length = 12
section
variable {base v R A k : Nat} {sl : Nat → Nat} {nv : Value} {ns : List Nat} {s : LS} {L : Nat → List Int} {kind si ni : Int} {w W : World}
theorem LA.act (h : LA base v R sl k nv ns s L w W) (hA : W.heap.size = A) : LB base v R A sl nv ns s L kind si ni w (W.alloc (.cells (actC kind si ni) 36)) := by
  obtain ⟨col, o, r⟩ := h.o
  have st := (still_refl W).alloc (.cells (actC kind si ni) 36)
  have rc := recol_ext col W.heap.size 0
  have hf : Fr base (ext col W.heap.size 0) w (W.alloc (.cells (actC kind si ni) 36)) := ⟨fun x hx => by rw [rc x (Nat.lt_of_lt_of_le hx o.fr.size)]; exact o.fr.low x hx, below_still o.fr.bel st o.fr.le, o.fr.le⟩
  exact ⟨⟨_, o.other rc st (fun _ _ f => f.elim) hf, (r.recol rc).still st, ext_new col (by omega), Blk.newAt _ _ _ hA⟩, h.n⟩
theorem LB.still (h : LB base v R A sl nv ns s L kind si ni w W) {W' : World} (kk : Still W W') : LB base v R A sl nv ns s L kind si ni w W' := by
  obtain ⟨col, o, r, c, b⟩ := h.o
  exact ⟨⟨col, o.still kk, r.still kk, c, b.still kk⟩, h.n⟩
theorem LB.list (h : LB base v R A sl nv ns s L kind si ni w W) {s' : LS} {W' : World} {j : Nat} {ys : List Nat} (h1 : LW_i s' W') (h2 : LvB_i s' v sl W') (kk : Kept (fun y => s.kd y = 1 ∨ s.kd y = 2 ∨ y = v) W W') (hk : s'.kd = s.kd) (hj : j < 64) (hq : s'.sq = upd s.sq (sl j) ys) (hv : LV s' = LV s) : LB base v R A sl nv ns s' L kind si ni w W' := by
  obtain ⟨col, o, r, c, b⟩ := h.o
  have k1 := o.colK kk
  exact ⟨⟨_, o.list h1 h2 kk hk hj hq hv, r.go k1 (by omega), (recol_ext col _ 1 A b.lt).trans c, b.kept k1 (by omega)⟩, h.n⟩
theorem LB.lw (h : LB base v R A sl nv ns s L kind si ni w W) : LW_i s W := by obtain ⟨col, o, _⟩ := h.o; exact o.lw
theorem LB.lv (h : LB base v R A sl nv ns s L kind si ni w W) : LvB_i s v sl W := by obtain ⟨col, o, _⟩ := h.o; exact o.lv
theorem LB.nd (h : LB base v R A sl nv ns s L kind si ni w W) : ns.Nodup := by obtain ⟨col, o, _⟩ := h.o; exact o.nd
theorem LB.bel (h : LB base v R A sl nv ns s L kind si ni w W) : Below base w W := by obtain ⟨col, o, _⟩ := h.o; exact o.fr.bel
theorem LB.blk (h : LB base v R A sl nv ns s L kind si ni w W) : Blk W A (actC kind si ni) 36 := by obtain ⟨col, o, r, c, b⟩ := h.o; exact b
theorem LB.no (h : LB base v R A sl nv ns s L kind si ni w W) {x : Nat} (hx : ∀ k, k < 64 → x ∉ s.sq (sl k)) : ∀ l', s.kd l' = 1 → x ∉ s.sq l' := by obtain ⟨col, o, _⟩ := h.o; exact o.no hx
theorem LB.done (h : LB base v R A sl nv ns s L kind si ni w W) (t : TieL sl s ns L) (ht : tot (fun k => (L k).length) ≤ k) : LA base v R sl k nv ns s L w W := by
  obtain ⟨col, o, r, c, b⟩ := h.o
  exact ⟨⟨col, o, r⟩, t, h.n, ht⟩
/-- the n-th node -/
theorem LB.at_ {g c : Nat} (h : LB base v R A sl (.slice (some ⟨g, 0, none⟩) 12 c) ns s L kind si ni w W) {n : Nat} (hn : n < 12) : W.cell? ⟨g, n, none⟩ = some (.pointer (some ⟨ns.getD n 0, 0, none⟩)) ∧ g < W.heap.size ∧ g ≠ A ∧ g ≠ R ∧ (∀ y, s.kd y ≠ 0 → g ≠ y) ∧ s.kd (ns.getD n 0) = 2 ∧ ns[n]? = some (ns.getD n 0) := by
  obtain ⟨col, o, r, cA, b⟩ := h.o
  have hx : ns[n]? = some (ns.getD n 0) := by rw [List.getD_eq_getElem?_getD, List.getElem?_eq_getElem (by rw [h.n]; exact hn)]; rfl
  obtain ⟨g', cap, e2, hc, hl, hcg, hb, hk⟩ := o.at_ hx
  simp only [Value.slice.injEq, Option.some.injEq, Addr.mk.injEq, and_true, true_and] at e2
  obtain ⟨rfl, _⟩ := e2
  have hcR := r.cR
  exact ⟨hc, hl, fun e => by rw [e] at hcg; omega, fun e => by rw [e] at hcg; omega, fun y hy e => by have := o.lc y hy; rw [← e] at this; omega, hk, hx⟩
end
theorem LB.put (col : Nat → Nat) {col' : Nat → Nat} {base v R A : Nat} {sl : Nat → Nat} {nv : Value} {ns : List Nat} {s : LS} {L : Nat → List Int} {kind si ni : Int} {w W W2 : World} {j : Nat} {v' : Value} {l : List Int} (o : N0 base v sl col s nv ns w W) (r : RefL col R L W) (cA : col A = 0) (b : Blk W A (actC kind si ni) 36) (hn : ns.length = 12) (hj : j < 64) (rc : Recol W.heap.size col col') (hf : Fr base col' w (W2.setCell ⟨R, j, none⟩ v')) (k1 : Kept (fun x => col x = 10 + j) W W2) (hv : Owns col' (10 + j) W2 3 1 v' l.length (irow l)) : LB base v R A sl nv ns s (upd L j l) kind si ni w (W2.setCell ⟨R, j, none⟩ v') := by
  obtain ⟨p1, p2⟩ := r.put hj rc k1 hv
  have hcR := r.cR
  have q1 : ∀ x, x < W.heap.size → (col x = 10 + j ∨ x = R) → 2 < col x := fun x _ e => by
    rcases e with e | e
    · omega
    · rw [e]; omega
  have q2 : ¬ (col A = 10 + j ∨ A = R) := fun e => by
    rcases e with e | e
    · omega
    · rw [e] at cA; omega
  exact ⟨⟨col', o.other rc p2 q1 hf, p1, (rc A b.lt).trans cA, b.kept p2 q2⟩, hn⟩
/-- the document's slot j -/
theorem LB.slot {base v R A : Nat} {sl : Nat → Nat} {nv : Value} {ns : List Nat} {s : LS} {L : Nat → List Int} {kind si ni : Int} {w W : World} (h : LB base v R A sl nv ns s L kind si ni w W) {j : Nat} (hj : j < 64) : ∃ a cap, W.cell? ⟨R, j, none⟩ = some (.slice a (L j).length cap) ∧ W.frozen? ⟨R, j, none⟩ = false ∧ (∀ o, (W.alloc o).ownsRow 0 3 1 (.slice a (L j).length cap) (L j).length (irow (L j))) ∧ IRow (fun _ => True) W (.slice a (L j).length cap) (L j) ∧
    (∀ o W2 v' (z : Int), Appended (W.alloc o) W2 0 3 1 (.slice a (L j).length cap) v' ((L j).length + 1) (irow (L j) ++ [.int .i64 z]) → W2.frozen? ⟨R, j, none⟩ = false ∧ (∃ cv, W2.cell? ⟨R, j, none⟩ = some cv) ∧ W2.heap[A]? = W.heap[A]? ∧ W2.heap[R]? = W.heap[R]? ∧ LB base v R A sl nv ns s (upd L j (L j ++ [z])) kind si ni w (W2.setCell ⟨R, j, none⟩ v')) ∧
    LB base v R A sl nv ns s (upd L j []) kind si ni w (W.setCell ⟨R, j, none⟩ (.slice none 0 0)) := by
  obtain ⟨col, o, r, cA, b⟩ := h.o
  obtain ⟨a, cap, c1, f1, o1, hq⟩ := r.slot hj
  have hcR := r.cR
  have hR9 : R < W.heap.size := r.lt
  refine ⟨a, cap, c1, f1, fun ob => o1.alloc ob, o1.row, fun ob W2 v' z ha => ?_, ?_⟩
  · obtain ⟨h1, k1⟩ := o1.app ha
    have rc := recol_ext col W.heap.size (10 + j)
    have hb2 := k1.block A b.lt (by omega)
    have hr2 := k1.block R hR9 (by omega)
    obtain ⟨cs, vs, bR, _⟩ := r.blk
    have bR2 := bR.kept k1 (by omega)
    have hv : Owns (ext col W.heap.size (10 + j)) (10 + j) W2 3 1 v' (L j ++ [z]).length (irow (L j ++ [z])) := by rw [irow_snoc, List.length_append]; exact h1
    have hf := (o.fr.step (c := 10 + j) (by omega) k1)
    have hf2 : Fr base (ext col W.heap.size (10 + j)) w (W2.setCell ⟨R, j, none⟩ v') := ⟨hf.low, below_step hf.bel (Kept.setCell (S := fun x => x = R) (Kept.refl _ _) (fun _ => rfl) _) hf.le (fun i hi e => by have := hf.low i hi; rw [e, rc R hR9] at this; omega), hf.le⟩
    have hw2 : ∃ cv, W2.cell? ⟨R, j, none⟩ = some cv := by
      refine ⟨_, (World.cell?_of_block (a := ⟨R, j, none⟩) hr2).trans c1⟩
    exact ⟨bR2.free j, hw2, hb2, hr2, LB.put col o r cA b h.n hj rc hf2 k1 hv⟩
  · have rc := recol_ext col W.heap.size (10 + j)
    have st : Kept (fun x => col x = 10 + j) W W := Kept.refl _ _
    have hf := (o.fr.step (c := 10 + j) (by omega) st)
    have hf2 : Fr base (ext col W.heap.size (10 + j)) w (W.setCell ⟨R, j, none⟩ (.slice none 0 0)) := ⟨hf.low, below_step hf.bel (Kept.setCell (S := fun x => x = R) (Kept.refl _ _) (fun _ => rfl) _) hf.le (fun i hi e => by have := hf.low i hi; rw [e, rc R hR9] at this; omega), hf.le⟩
    exact LB.put col o r cA b h.n hj rc hf2 st (Owns.nil _ _ _ _ _)
theorem LB.outd {base v R A : Nat} {sl : Nat → Nat} {nv : Value} {ns : List Nat} {s : LS} {L L' : Nat → List Int} {kind si ni : Int} {w W W' : World} {d : Nat} {col : Nat → Nat} (o : N0 base v sl col s nv ns w W) (r : RefL col R L W) (cA : col A = 0) (b : Blk W A (actC kind si ni) 36) (hn : ns.length = 12) (hw : ∃ col', Recol W.heap.size col col' ∧ RefL col' R L' W' ∧ ∀ x, W.heap.size ≤ x → col' x = 10 + d) (k : Kept (fun x => x = R) W W') : LB base v R A sl nv ns s L' kind si ni w W' := by
  obtain ⟨col', rc, r', _⟩ := hw
  have hcR := r.cR
  have hf : Fr base col' w W' := ⟨fun x hx => by rw [rc x (Nat.lt_of_lt_of_le hx o.fr.size)]; exact o.fr.low x hx, below_step o.fr.bel k o.fr.le (fun i hi e => by have := o.fr.low i hi; rw [e] at this; omega), o.fr.le⟩
  exact ⟨⟨col', o.other rc k (fun x _ e => by rw [e]; omega) hf, r', (rc A b.lt).trans cA, b.kept k (fun e => by rw [e] at cA; omega)⟩, hn⟩
theorem kd_of {s : LS} {v y : Nat} (hv : s.kd v = 4) (h : s.kd y = 1 ∨ s.kd y = 2 ∨ y = v) : s.kd y ≠ 0 := by
  rcases h with h | h | h
  · omega
  · omega
  · rw [h, hv]; omega

set_option maxHeartbeats 4000000 in
set_option maxRecDepth 100000 in
theorem levelActs_walk (a0 : Option Addr) (len0 cap0 : Nat) (f0_0 : Nat → Int) (f0_1 : Nat → Int) (f0_2 : Nat → Int) (w : World) (w0 : (len0 ≤ cap0 ∧ cap0 ≤ maxLen) ∧ (0 < len0 → ∃ b o, a0 = some ⟨b, o, none⟩ ∧ b < w.heap.size ∧ ∀ i, i < len0 → w.cell? ⟨b, o + i * 3, none⟩ = some (.int .i64 (f0_0 i)) ∧ (Lit.int .i64 (f0_0 i)).wf = true ∧ w.cell? ⟨b, o + i * 3 + 1, none⟩ = some (.int .i64 (f0_1 i)) ∧ (Lit.int .i64 (f0_1 i)).wf = true ∧ w.cell? ⟨b, o + i * 3 + 2, none⟩ = some (.int .i64 (f0_2 i)) ∧ (Lit.int .i64 (f0_2 i)).wf = true)) :
    Calls Try.prog 3 #[.slice a0 len0 cap0] w fun e w' => e = .returned (.bool true) ∧ Below w.heap.size w w' := by
  obtain ⟨⟨hle1, hle⟩, hacts⟩ := w0
  unfold maxLen at hle
  have HR := Lib.hid hacts
  clear hacts
  obtain ⟨i0, hi, hz0, hz1, hz2⟩ := info_parts infoNode_i
  obtain ⟨j0, hj, hj0, hj1, hj2⟩ := info_parts (infoElem)
  by_cases h100 : 100 < len0
  · go_enter Try.func3, Try.ntmps3
    go_wp2_with fail
    refine (alive_any w).mono ?_
    rintro e w1 ⟨rfl, k1⟩
    go_wp2_with fail
    go_ret
    exact ⟨rfl, k1⟩
  have hzr : (zeroValue 34).run Try.prog = fun w => .ok (.agg (Array.replicate 64 (.slice none 0 0))) w := by funext w; kernel_rfl
  have hzr0 := fun w => congrFun hzr w
  obtain ⟨Z, hZ⟩ : ∃ Z : Array Value, Z = Array.replicate 64 (.slice none 0 0) := ⟨_, rfl⟩
  rw [← hZ] at hzr0
  have HZ := Lib.hid hZ
  clear hZ hzr
  go_enter Try.func3, Try.ntmps3
  go_wp2_with fail
  refine (alive_any w).mono ?_
  rintro e w1 ⟨rfl, k1⟩
  go_wp2_with fail
  refine (lvnew_i LS.zero w1 (LW_i.zero w1)).mono ?_
  rintro e w2 ⟨rfl, k2, s2, sl, h2, b2, n2, g2, q2, o2, v2⟩
  have hzw := k1.size
  have S2 := Lib.hid (show ∃ col, N0 w.heap.size w1.heap.size sl col s2 (.slice none 0 0) [] w w2 by
    have f1 := (Fr.start k1).step (c := 1) (by omega) (k2.mono (fun _ _ f => f.elim))
    refine ⟨_, f1, h2, b2, fun y hy => ?_, Owns.nil _ _ _ _ _, fun x hx => absurd hx List.not_mem_nil, List.nodup_nil, fun i x hi => by simp at hi, fun y hy => by rw [o2 y hy]; rfl⟩
    rcases Nat.lt_or_ge y w1.heap.size with h8 | h8
    · exact absurd (n2 y h8) (by intro e; exact hy e)
    · exact ext_new _ h8)
  have Q2 := Lib.hid q2
  clear k1 k2 h2 b2 n2 g2 q2 o2 v2 hzw
  generalize w1.heap.size = v at *
  go_wp2_with fail
  go_loopw [4, 5] (fun nv i wr => ∃ (k : Nat) (s : LS) (ns : List Nat) (col : Nat → Nat), k ≤ 12 ∧ i = .int .i64 k ∧ N0 w.heap.size v sl col s nv ns w wr ∧ k ≤ ns.length ∧ ns.length ≤ k ∧ ∀ j, j < 64 → s.sq (sl j) = []) (fun _ i _ => 12 - (intOf i).toNat)
  case atStart =>
    obtain ⟨col, h⟩ := S2.out
    exact ⟨0, s2, [], col, Nat.zero_le _, rfl, h, Nat.le_refl _, Nat.le_refl _, Q2.out⟩
  case round =>
    obtain ⟨k, s, ns, col, hk, rfl, hS, hn1, hn2, hQ⟩ := hrel
    have S := Lib.hid hS
    have Q := Lib.hid hQ
    clear hS hQ
    by_cases hk12 : k < 12
    · have hoa := fun o => owns_kept2 S.out.row.1 (((Kept.refl (fun _ => False) wr).alloc (.cells #[.int .i64 (k : Int), .pointer none, .pointer none, .pointer none] 30)).alloc o) (fun _ _ f => f)
      have hoa := hoa (.cells #[.pointer (some ⟨wr.heap.size, 0, none⟩)] 27)
      have hkk : k = ns.length := by omega
      have HKK := Lib.hid hkk
      clear hkk
      go_wp2_with (first | (at_builtin; refine wpList_append _ rfl _ _ 26 rfl 0 27 i0 (.pointer none) 1 8 Try.underlying26 hi hz0 hz1 hz2 rfl (by decide) _ _ _ rfl (hoa) ⟨wr.heap.size + 1, 0, none⟩ 1 1 [.pointer (some ⟨wr.heap.size, 0, none⟩)] rfl rfl (by intro j u hj; match j, hj with | 0, hj => simp at hj; subst hj; first | (simp [Addr.add]; done) | exact (Blk.newAt _ _ _ (by simp)).cell 0) (by intro u hu; simp at hu; subst hu; rfl) (by unfold maxLen; omega) (by omega) (by first | omega | (simp; omega) | simp) ?_) | fail)
      intro nv' w4 hap
      rw [HKK.out] at hap
      obtain ⟨col', S4⟩ := S.out.node rfl hap
      have HS4 := Lib.hid S4
      clear hap hoa S4
      go_wp2_with fail
      go_roundw
      case rel => exact ⟨k + 1, _, _, _, by omega, by go_num, HS4.out, by rw [List.length_append, List.length_singleton]; omega, by rw [List.length_append, List.length_singleton]; omega, Q.out⟩
      case measure => simp [intOf]; omega
    · obtain rfl : k = 12 := by omega
      rw [show ((12 : Nat) : Int) = 12 from rfl]
      have hns : ns.length = 12 := by omega
      obtain ⟨R, hRR⟩ : ∃ R, R = wr.heap.size := ⟨_, rfl⟩
      have hst := (still_refl wr).alloc (.cells Z 34)
      have S5 := Lib.hid (show LA w.heap.size v wr.heap.size sl 0 u4 ns s (fun _ => []) w (wr.alloc (.cells Z 34)) by
        refine ⟨⟨ext col wr.heap.size 9, S.out.go (hst.mono (fun _ _ f => f.elim)) (by omega), ext_new col (Nat.le_refl _), Z, fun _ => .slice none 0 0, Blk.new _ _ _, by rw [HZ.out]; simp, fun k hk => ?_, fun k hk => Owns.nil _ _ _ _ _⟩, ⟨fun j hj => by rw [Q.out j hj]; rfl, fun j hj z hz => absurd hz List.not_mem_nil⟩, hns, by rw [tot_zero (f := fun k => ([] : List Int).length) (fun _ _ => rfl)]; exact Nat.le_refl _⟩
        rw [HZ.out, Array.getElem?_replicate, if_pos hk])
      obtain ⟨g, nc, hnv⟩ := S5.out.form
      subst hnv
      clear S Q hst hRR hn1 hn2 hns
      go_wp2_with fail
      generalize wr.alloc (.cells Z 34) = w6 at *
      generalize wr.heap.size = R' at *
      go_loopw [7] (fun i wr => ∃ (k : Nat) (s : LS) (L : Nat → List Int), k ≤ len0 ∧ i = .int .i64 k ∧ LA w.heap.size v R' sl k (.slice (some ⟨g, 0, none⟩) 12 nc) ns s L w wr) (fun i _ => len0 - (intOf i).toNat)
      case atStart => exact ⟨0, _, _, Nat.zero_le _, rfl, S5.out⟩
      case round =>
        obtain ⟨k, s, L, hk, rfl, hS⟩ := hrel
        have S := Lib.hid hS
        have hz := hS.size
        have hbel := hS.bel
        clear hS S5
        by_cases hlk : k < len0
        · obtain ⟨ab, ao, ha, hab, hac⟩ := HR.out (by omega)
          obtain ⟨q0, x0, q1, x1, q2, x2⟩ := hac k hlk
          have hix := run_indexAt_at (P := Try.prog) (t := 22) (cap := cap0) (s := 3) ha Try.underlying22 (fun _ => by kernel_rfl) hlk
          clear hac ha
          have e0 := (hbel.cell (p := ⟨ab, ao + k * 3, none⟩) hab).trans q0
          have e1 := (hbel.cell (p := ⟨ab, ao + k * 3 + 1, none⟩) hab).trans q1
          have e2 := (hbel.cell (p := ⟨ab, ao + k * 3 + 2, none⟩) hab).trans q2
          replace x1 := bd_i64 x1
          replace x2 := bd_i64 x2
          clear q0 q1 q2 x0
          generalize f0_0 k = kind at *
          generalize f0_1 k = si at *
          generalize f0_2 k = ni at *
          obtain ⟨A, hAA⟩ : ∃ A, wr.heap.size = A := ⟨_, rfl⟩
          have SA := Lib.hid (S.out.act (kind := kind) (si := si) (ni := ni) hAA)
          have bA := SA.out.blk
          have c0 := bA.cell 0
          have c1 := bA.cell 1
          have c2 := bA.cell 2
          obtain ⟨n, hn⟩ : ∃ q : Nat, (q : Int) = (max 0 ni) % 12 := ⟨((max 0 ni) % 12).toNat, by have := Int.emod_nonneg (max 0 ni) (show (12 : Int) ≠ 0 by omega); omega⟩
          have hn12 : n < 12 := by have := Int.emod_lt_of_pos (max 0 ni) (show (0 : Int) < 12 by omega); omega
          have HN := Lib.hid hn
          have HT := Lib.hid S.out.t
          have HTt := Lib.hid S.out.tot
          clear hbel hn bA
          go_upto_region 18 with fail
          obtain ⟨W1, hW1⟩ : ∃ W1, W1 = wr.alloc (.cells (actC kind si ni) 36) := ⟨_, rfl⟩
          have HW1 := Lib.hid hW1
          rw [← hW1] at SA c0 c1 c2
          rw [show wr.alloc (.cells #[.int .i64 kind, .int .i64 si, .int .i64 ni] 36) = W1 from hW1.symm]
          clear hW1
          go_cut [9] from 48 to 51 (fun nv wx => nv = .int .i64 n ∧ wx = W1)
          case first =>
            by_cases h0 : 0 < ni
            · have h9 : ni % 12 = n := by have := HN.out; rw [show max 0 ni = ni by omega] at this; exact this.symm
              go_wp2_with fail
              go_meet
              case rel => exact ⟨by rw [← h9], rfl⟩
            · have h9 : n = 0 := by have := HN.out; rw [show max 0 ni = 0 by omega] at this; simpa using this
              subst h9
              go_wp2_with fail
              go_meet
              case rel => exact ⟨rfl, rfl⟩
          case rest =>
            obtain ⟨rfl, rfl⟩ := hcut
            go_upto_region 19 with fail
            go_cut [10] from 52 to 59 (fun bv wx => bv = .bool (decide (0 ≤ si ∧ si < 64)) ∧ wx = wc)
            case first =>
              by_cases h0 : 0 ≤ si
              · by_cases h1 : si < 64
                · go_wp2_with fail
                  go_meet
                  case rel => exact ⟨by rw [decide_eq_true (p := 0 ≤ si ∧ si < 64) ⟨h0, h1⟩], rfl⟩
                · go_wp2_with fail
                  go_meet
                  case rel => exact ⟨by rw [decide_eq_false (p := 0 ≤ si ∧ si < 64) (by omega)], rfl⟩
              · go_wp2_with fail
                go_meet
                case rel => exact ⟨by rw [decide_eq_false (p := 0 ≤ si ∧ si < 64) (by omega)], rfl⟩
            case rest =>
              obtain ⟨rfl, rfl⟩ := hcut
              have hLs : ∀ j, j < 64 → (L j).length ≤ 1000 := fun j hj => S.out.small (by omega) hj
              have HLS := Lib.hid hLs
              clear hLs
              by_cases hr : 0 ≤ si ∧ si < 64
              · obtain ⟨j, rfl⟩ : ∃ j : Nat, si = j := ⟨si.toNat, by omega⟩
                have hj64 : j < 64 := by omega
                rw [decide_eq_true hr]
                clear hr
                go_upto_block 4 with fail
                go_cut [] from 60 to 180 (fun wx => ∃ (s : LS) (L : Nat → List Int), LB w.heap.size v R' A sl (.slice (some ⟨g, 0, none⟩) 12 nc) ns s L kind j ni w wx ∧ TieL sl s ns L ∧ tot (fun k => (L k).length) ≤ k + 1)
                case first =>
                  as_aux_lemma =>
                    by_cases hk0 : kind = 0
                    · have hb0 : (kind == 0) = true := by rw [beq_iff_eq]; exact hk0
                      clear hk0
                      as_aux_lemma =>
                        go_wp2_with fail
                        obtain ⟨col, _, rf, _⟩ := SA.out.o
                        refine (of_any (n : Int) wc rf HLS.out).mono ?_
                        rintro e w3 ⟨z, rfl, rfl, hz⟩
                        rcases hz with ⟨q, hq64, rfl, hqm, _⟩ | ⟨rfl, hno⟩
                        · have hmem := (HT.out.mem SA.out.nd hq64 (by rw [SA.out.n]; exact hn12)).2 hqm
                          have HM := Lib.hid hmem
                          clear hmem hqm rf
                          obtain ⟨hgc, hgl, hgA, hgR, hgk, hkx, hnx⟩ := SA.out.at_ hn12
                          have bA := SA.out.blk
                          have c1 := bA.cell 1
                          have CA := Lib.hid bA.cells
                          have CG := Lib.hid (cells_of_cell hgc)
                          have HX := Lib.hid hnx
                          have HGK := Lib.hid hgk
                          clear bA hnx hgk
                          go_upto_region 28 with fail
                          refine wp_region_text ([4], [9, 27]) [A, g] (by kernel_rfl) (by kernel_rfl) (cellsB_cons CA.out (cellsB_cons CG.out cellsB_nil)) (by simp [segs, isEff, isLoad, askOps, asks, ptrEq, eqOrNe, isNil]; rfl) ?_
                          refine segs_go stay_drew (by simp [isLoad]) ?_
                          go_wp2_with fail
                          refine segs_load stay_drew (fun _ => (by exact ⟨A, _, rfl, by simp⟩)) ?_
                          go_wp2_with fail
                          refine segs_load stay_drew (fun _ => (by exact ⟨g, _, rfl, by simp⟩)) ?_
                          go_wp2_with fail
                          have SD := Lib.hid (SA.out.still ((still_refl wc).drewN 1))
                          refine (lvput_no_i s v sl j (some ⟨ns.getD n 0, 0, none⟩) 7 (by decide) _ SD.out.lv hj64 (oPutNo_i s _ SD.out.lw _ (ns.getD n 0) (sl q) (SD.out.lv.kl j hj64) hkx (SD.out.lv.kl q hq64) HM.out)).mono ?_
                          rintro e w5 ⟨rfl, rfl⟩
                          go_wp2_with fail
                          refine segs_go stay_drew (by simp [isLoad]) ?_
                          go_wp2_with fail
                          refine segs_nil ?_
                          go_wp2_with fail
                          go_meet
                          case rel => exact ⟨s, L, SD.out, HT.out, Nat.le_succ_of_le HTt.out⟩
                        · clear rf
                          have hno2 : ∀ q, q < 64 → ns.getD n 0 ∉ s.sq (sl q) := fun q hq hm => hno q hq ((HT.out.mem SA.out.nd hq (by rw [SA.out.n]; exact hn12)).1 hm)
                          have HNO := Lib.hid hno2
                          clear hno hno2
                          have SD := Lib.hid (SA.out.still ((still_refl wc).drewN 1))
                          obtain ⟨ra, rcp, hrc9, hrf, hro, _, hrn, _⟩ := SD.out.slot hj64
                          have hrc : wc.cell? ⟨R', j, none⟩ = some (.slice ra (L j).length rcp) := hrc9
                          clear hrc9
                          have hljs := HLS.out j hj64
                          have CA := Lib.hid SA.out.blk.cells
                          have CR := Lib.hid (cells_of_cell hrc)
                          have HRN := Lib.hid hrn
                          have hoa := hro (.cells #[.int .i64 (n : Int)] 3)
                          clear hrn hro
                          go_upto_region 27 with fail
                          refine wp_region_end ([4], [9, 27]) [A, R'] rfl (by kernel_rfl) (by kernel_rfl) (by kernel_rfl) (cellsB_cons CA.out (cellsB_cons CR.out cellsB_nil)) (by simp [segs, isEff, isLoad, askOps, asks, ptrEq, eqOrNe, isNil]; rfl) ?_
                          refine segs_go stay_drew (by simp [isLoad]) ?_
                          go_wp2_with fail
                          refine segs_load stay_drew (fun _ => (by exact ⟨A, _, rfl, by simp⟩)) ?_
                          go_wp2_with fail
                          refine segs_load stay_drew (fun _ => (by exact ⟨A, _, rfl, by simp⟩)) ?_
                          go_wp2_with fail
                          refine segs_load stay_drew (fun _ => (by exact ⟨R', _, rfl, by simp⟩)) ?_
                          go_wp2_with fail
                          have hs4 : StayB [A, R'] wc (wc.drew.alloc (.cells #[.int .i64 (n : Int)] 3)) := StayB.kept (w := wc.drew) stay_drew ((Kept.refl (fun _ => False) _).alloc _) (fun b hb => by
                            simp only [List.mem_cons, List.not_mem_nil, or_false] at hb
                            rcases hb with rfl | rfl
                            · exact ⟨SA.out.blk.lt, fun f => f⟩
                            · exact ⟨lt_of_cell hrc, fun f => f⟩)
                          refine segs_go hs4 (by simp [isLoad]) ?_
                          go_wp2_with (first | (at_builtin; refine wpList_append _ rfl _ _ 32 rfl 0 3 j0 (.int .i64 0) 1 8 Try.underlying32 hj hj0 hj1 hj2 rfl (by decide) _ _ _ rfl (hoa) ⟨wc.drew.heap.size, 0, none⟩ 1 1 [.int .i64 (n : Int)] rfl rfl (by intro j u hj; match j, hj with | 0, hj => simp at hj; subst hj; first | (simp [Addr.add]; done) | exact (Blk.newAt _ _ _ (by simp)).cell 0) (by intro u hu; simp at hu; subst hu; rfl) (by unfold maxLen; omega) (by omega) (by first | omega | (simp; omega) | simp) ?_) | fail)
                          intro v' w5 hap
                          obtain ⟨f5, ⟨cv, g5⟩, hA5, hR5, hL5⟩ := HRN.out _ _ _ _ hap
                          obtain ⟨va, vc, rfl⟩ := owns_slice hap.owns
                          have hs5 : StayB [A, R'] wc w5 := fun b hb => by
                            simp only [List.mem_cons, List.not_mem_nil, or_false] at hb
                            rcases hb with rfl | rfl
                            · exact hA5
                            · exact hR5
                          have S5 := Lib.hid hL5
                          clear hap hoa hL5
                          go_wp2_with fail
                          refine segs_go hs5 (by simp [isLoad]) ?_
                          go_wp2_with fail
                          refine segs_nil ?_
                          go_wp2_with fail
                          generalize w5.setCell ⟨R', j, none⟩ (.slice va ((L j).length + 1) vc) = w6 at *
                          clear f5 g5 hA5 hR5 hs5 hrc hrf CA CR
                          obtain ⟨hgc, hgl, hgA, hgR, hgk, hkx, hnx⟩ := S5.out.at_ hn12
                          have bA := S5.out.blk
                          have c1 := bA.cell 1
                          have CA := Lib.hid bA.cells
                          have CG := Lib.hid (cells_of_cell hgc)
                          have HX := Lib.hid hnx
                          have HGK := Lib.hid hgk
                          clear bA hnx hgk
                          go_upto_region 28 with fail
                          refine wp_region_text ([4], [9, 27]) [A, g] (by kernel_rfl) (by kernel_rfl) (cellsB_cons CA.out (cellsB_cons CG.out cellsB_nil)) (by simp [segs, isEff, isLoad, askOps, asks, ptrEq, eqOrNe, isNil]; rfl) ?_
                          refine segs_go stay_drew (by simp [isLoad]) ?_
                          go_wp2_with fail
                          refine segs_load stay_drew (fun _ => (by exact ⟨A, _, rfl, by simp⟩)) ?_
                          go_wp2_with fail
                          refine segs_load stay_drew (fun _ => (by exact ⟨g, _, rfl, by simp⟩)) ?_
                          go_wp2_with fail
                          have SD6 := Lib.hid (S5.out.still ((still_refl w6).drewN 1))
                          have hts : tot (fun k => (s.sq (sl k)).length) < 1000000 := by have := HT.out.lens; have := HTt.out; omega
                          refine (lvput_i s v sl j (ns.getD n 0) _ SD6.out.lw SD6.out.lv hj64 hkx (SD6.out.no HNO.out) hts).mono ?_
                          rintro e w7 ⟨rfl, k7, s7, l7, b7, d7, q7, v7⟩
                          have S7 := Lib.hid (SD6.out.list l7 b7 k7 d7 hj64 q7 v7)
                          have T7 := Lib.hid (HT.out.put hj64 (by rw [SD6.out.n]; exact hn12) SD6.out.lv.inj q7)
                          have hs7 : StayB [A, g] w6 w7 := StayB.kept (w := w6.drew) stay_drew k7 (fun b hb => by
                            simp only [List.mem_cons, List.not_mem_nil, or_false] at hb
                            rcases hb with rfl | rfl
                            · refine ⟨S5.out.blk.lt, fun h9 => ?_⟩
                              obtain ⟨col, o, _, cA, _⟩ := S5.out.o
                              have := o.lc _ (kd_of o.lv.kv h9)
                              omega
                            · exact ⟨hgl, fun h9 => HGK.out _ (kd_of S5.out.lv.kv h9) rfl⟩)
                          have hl7 : tot (fun q => (upd L j (L j ++ [(n : Int)]) q).length) ≤ k + 1 := by
                            have h9 := tot_one (f := fun q => (upd L j (L j ++ [(n : Int)]) q).length) (g := fun q => (L q).length) hj64 (fun x hx e => by rw [upd_ne _ _ e])
                            rw [upd_same, List.length_append, List.length_singleton] at h9
                            have := HTt.out
                            omega
                          have HL7 := Lib.hid hl7
                          clear k7 l7 b7 d7 q7 v7 hts hl7
                          go_wp2_with fail
                          refine segs_go hs7 (by simp [isLoad]) ?_
                          go_wp2_with fail
                          refine segs_nil ?_
                          go_wp2_with fail
                          go_meet
                          case rel => exact ⟨s7, _, S7.out, T7.out, HL7.out⟩
                    · have hb0 : (kind == 0) = false := by rw [beq_eq_false_iff_ne]; exact hk0
                      by_cases hk1 : kind = 1
                      · have hb1 : (kind == 1) = true := by rw [beq_iff_eq]; exact hk1
                        clear hk0 hk1
                        as_aux_lemma =>
                          have CA0 := Lib.hid SA.out.blk.cells
                          go_upto_region 32 with fail
                          refine wp_region_text ([4], [9, 27]) [A] (by kernel_rfl) (by kernel_rfl) (cellsB_cons CA0.out cellsB_nil) (by simp [segs, isEff, isLoad, askOps, asks, ptrEq, eqOrNe, isNil]; rfl) ?_
                          have SD := Lib.hid (SA.out.still ((still_refl wc).drewN 1))
                          refine segs_go stay_drew (by simp [isLoad]) ?_
                          go_wp2_with fail
                          obtain ⟨col, o, rf, cA, bAA⟩ := SD.out.o
                          have HO := Lib.hid o
                          have HB := Lib.hid bAA
                          have HCA := Lib.hid cA
                          clear o cA bAA
                          refine (of_any (n : Int) _ rf HLS.out).mono ?_
                          rintro e w3 ⟨z, rfl, rfl, hz⟩
                          have hz2 : (z = j ∧ (n : Int) ∈ L j ∧ ∀ i, i < j → (n : Int) ∉ L i) ∨ (z ≠ j ∧ (n : Int) ∉ L j) := by
                            rcases hz with ⟨q, hq64, rfl, hqm, hqf⟩ | ⟨rfl, hno⟩
                            · by_cases e : q = j
                              · subst e; exact .inl ⟨rfl, hqm, hqf⟩
                              · refine .inr ⟨by omega, fun h9 => ?_⟩
                                have m1 := (HT.out.mem SA.out.nd hq64 (by rw [SA.out.n]; exact hn12)).2 hqm
                                have m2 := (HT.out.mem SA.out.nd hj64 (by rw [SA.out.n]; exact hn12)).2 h9
                                exact e (SA.out.lv.inj q j hq64 hj64 (SA.out.lw.inv.one (SA.out.lv.kl q hq64) (SA.out.lv.kl j hj64) m1 m2))
                            · exact .inr ⟨by omega, hno j hj64⟩
                          clear hz
                          rcases hz2 with ⟨rfl, hqm, hqf⟩ | ⟨hzj, hnj⟩
                          · have HQM := Lib.hid hqm
                            have HQF := Lib.hid hqf
                            clear hqm hqf
                            go_wp2_with fail
                            refine segs_go stay_drew (by simp [isLoad]) ?_
                            go_wp2_with fail
                            refine segs_load stay_drew (fun _ => (by exact ⟨A, _, rfl, by simp⟩)) ?_
                            go_wp2_with fail
                            refine segs_nil ?_
                            go_wp2_with fail
                            refine (out_any (n : Int) _ rf HLS.out hj64 HQM.out HQF.out).mono ?_
                            rintro e w5 ⟨rfl, hO, kO⟩
                            have S5 := Lib.hid (LB.outd HO.out rf HCA.out HB.out SA.out.n hO kO)
                            have hmem := (HT.out.mem SA.out.nd hj64 (by rw [SA.out.n]; exact hn12)).2 HQM.out
                            have HM := Lib.hid hmem
                            clear hO kO rf hmem
                            obtain ⟨hgc, hgl, hgA, hgR, hgk, hkx, hnx⟩ := S5.out.at_ hn12
                            have bA := S5.out.blk
                            have c1 := bA.cell 1
                            have CA := Lib.hid bA.cells
                            have CG := Lib.hid (cells_of_cell hgc)
                            have HX := Lib.hid hnx
                            have HGK := Lib.hid hgk
                            clear bA hnx hgk
                            go_upto_region 37 with fail
                            refine wp_region_text ([4], [9, 27]) [A, g] (by kernel_rfl) (by kernel_rfl) (cellsB_cons CA.out (cellsB_cons CG.out cellsB_nil)) (by simp [segs, isEff, isLoad, askOps, asks, ptrEq, eqOrNe, isNil]; rfl) ?_
                            refine segs_go stay_drew (by simp [isLoad]) ?_
                            go_wp2_with fail
                            refine segs_load stay_drew (fun _ => (by exact ⟨A, _, rfl, by simp⟩)) ?_
                            go_wp2_with fail
                            refine segs_load stay_drew (fun _ => (by exact ⟨g, _, rfl, by simp⟩)) ?_
                            go_wp2_with fail
                            have SD6 := Lib.hid (S5.out.still ((still_refl w5).drewN 1))
                            have hts : tot (fun k => (s.sq (sl k)).length) < 1000000 := by have := HT.out.lens; have := HTt.out; omega
                            refine (lvrem_i s v sl j (ns.getD n 0) _ SD6.out.lw SD6.out.lv hj64 HM.out hts).mono ?_
                            rintro e w7 ⟨rfl, k7, l7, b7⟩
                            have S7 := Lib.hid (SD6.out.list l7 b7 k7 rfl hj64 rfl (LS.out_val _ _ _))
                            have T7 := Lib.hid (HT.out.out SA.out.nd hj64 (by rw [SA.out.n]; exact hn12) SD6.out.lv.inj (SD6.out.lw.inv.nodup _ (SD6.out.lv.kl j hj64)) (s' := s.out (sl j) (ns.getD n 0)) rfl)
                            have hs7 : StayB [A, g] w5 w7 := StayB.kept (w := w5.drew) stay_drew k7 (fun b hb => by
                              simp only [List.mem_cons, List.not_mem_nil, or_false] at hb
                              rcases hb with rfl | rfl
                              · refine ⟨S5.out.blk.lt, fun h9 => ?_⟩
                                obtain ⟨col, o, _, cA, _⟩ := S5.out.o
                                have := o.lc _ (kd_of o.lv.kv h9)
                                omega
                              · exact ⟨hgl, fun h9 => HGK.out _ (kd_of S5.out.lv.kv h9) rfl⟩)
                            have hl7 : tot (fun q => (upd L j (wo (n : Int) (L j)) q).length) ≤ k + 1 := by
                              have h9 := tot_one (f := fun q => (upd L j (wo (n : Int) (L j)) q).length) (g := fun q => (L q).length) hj64 (fun x hx e => by rw [upd_ne _ _ e])
                              rw [upd_same] at h9
                              have h8 := wo_len (n : Int) (L j)
                              have := HTt.out
                              omega
                            have HL7 := Lib.hid hl7
                            clear k7 l7 b7 hts hl7
                            go_wp2_with fail
                            refine segs_go hs7 (by simp [isLoad]) ?_
                            go_wp2_with fail
                            refine segs_nil ?_
                            go_wp2_with fail
                            go_meet
                            case rel => exact ⟨_, _, S7.out, T7.out, HL7.out⟩
                          · have hzb : (z == (j : Int)) = false := by rw [beq_eq_false_iff_ne]; exact hzj
                            have hnm : ns.getD n 0 ∉ s.sq (sl j) := fun h9 => hnj ((HT.out.mem SA.out.nd hj64 (by rw [SA.out.n]; exact hn12)).1 h9)
                            have HNM := Lib.hid hnm
                            clear hnj hnm hzj rf
                            go_wp2_with fail
                            refine segs_go stay_drew (by simp [isLoad]) ?_
                            go_wp2_with fail
                            refine segs_load stay_drew (fun _ => (by exact ⟨A, _, rfl, by simp⟩)) ?_
                            go_wp2_with fail
                            refine segs_nil ?_
                            go_wp2_with fail
                            have S5 := SD
                            generalize wc.drewN 1 = w5 at *
                            obtain ⟨hgc, hgl, hgA, hgR, hgk, hkx, hnx⟩ := S5.out.at_ hn12
                            have bA := S5.out.blk
                            have c1 := bA.cell 1
                            have CA := Lib.hid bA.cells
                            have CG := Lib.hid (cells_of_cell hgc)
                            have HX := Lib.hid hnx
                            have HGK := Lib.hid hgk
                            clear bA hnx hgk
                            go_upto_region 37 with fail
                            refine wp_region_text ([4], [9, 27]) [A, g] (by kernel_rfl) (by kernel_rfl) (cellsB_cons CA.out (cellsB_cons CG.out cellsB_nil)) (by simp [segs, isEff, isLoad, askOps, asks, ptrEq, eqOrNe, isNil]; rfl) ?_
                            refine segs_go stay_drew (by simp [isLoad]) ?_
                            go_wp2_with fail
                            refine segs_load stay_drew (fun _ => (by exact ⟨A, _, rfl, by simp⟩)) ?_
                            go_wp2_with fail
                            refine segs_load stay_drew (fun _ => (by exact ⟨g, _, rfl, by simp⟩)) ?_
                            go_wp2_with fail
                            have SD6 := Lib.hid (S5.out.still ((still_refl w5).drewN 1))
                            refine (lvrem_no_i s v sl j (some ⟨ns.getD n 0, 0, none⟩) 6 (by decide) _ SD6.out.lv hj64 (lunlink_no_i s _ SD6.out.lw _ (ns.getD n 0) (SD6.out.lv.kl j hj64) hkx HNM.out)).mono ?_
                            rintro e w7 ⟨rfl, k7⟩
                            have S7 := Lib.hid (SD6.out.still k7)
                            have hs7 : StayB [A, g] w5 w7 := StayB.kept (w := w5.drew) stay_drew k7 (fun b hb => by
                              simp only [List.mem_cons, List.not_mem_nil, or_false] at hb
                              rcases hb with rfl | rfl
                              · exact ⟨S5.out.blk.lt, fun f => f⟩
                              · exact ⟨hgl, fun f => f⟩)
                            clear k7
                            go_wp2_with fail
                            refine segs_go hs7 (by simp [isLoad]) ?_
                            go_wp2_with fail
                            refine segs_nil ?_
                            go_wp2_with fail
                            go_meet
                            case rel => exact ⟨s, L, S7.out, HT.out, Nat.le_succ_of_le HTt.out⟩
                      · have hb1 : (kind == 1) = false := by rw [beq_eq_false_iff_ne]; exact hk1
                        by_cases hk2 : kind = 2
                        · have hb2 : (kind == 2) = true := by rw [beq_iff_eq]; exact hk2
                          clear hk0 hk1 hk2
                          as_aux_lemma =>
                            have hts : tot (fun k => (s.sq (sl k)).length) < 100000 := by have := HT.out.lens; have := HTt.out; omega
                            go_wp2_with fail
                            refine (lvtake_i s v sl j wc SA.out.lw SA.out.lv hj64 hts).mono ?_
                            rintro e w5 ⟨⟨r5, rfl, ho5⟩, k5, s5, l5, b5, d5, q5, v5⟩
                            have S5 := Lib.hid (SA.out.list l5 b5 k5 d5 hj64 q5 v5)
                            have T5 := Lib.hid (HT.out.take hj64 SA.out.lv.inj q5)
                            have hex := HT.out.eq j hj64
                            rw [hex, nodesOf_len] at ho5
                            obtain ⟨ta, tc, rfl⟩ := owns_slice ho5
                            have O5 := Lib.hid ho5
                            have DM := Lib.hid (HT.out.dom j hj64)
                            have hljs := HLS.out j hj64
                            clear l5 b5 k5 d5 q5 v5 hex ho5 hts
                            go_wp2_with fail
                            go_loopw [14, 15] (fun gv i wx => ∃ q : Nat, q ≤ (L j).length ∧ i = .int .i64 q ∧ wx.ownsRow w5.heap.size 3 1 gv ((L j).take q).length (irow ((L j).take q)) ∧ Still w5 wx) (fun _ i _ => (L j).length - (intOf i).toNat)
                            case atStart => exact ⟨0, Nat.zero_le _, rfl, World.ownsRow_nil _ _ _ _, still_refl w5⟩
                            case round =>
                              obtain ⟨q, hq, rfl, hg, hst⟩ := hrel
                              have HG := Lib.hid hg
                              have ST := Lib.hid hst
                              have S6 := Lib.hid (S5.out.still hst)
                              clear hg hst
                              by_cases hql : q < (L j).length
                              · obtain ⟨z, hz9⟩ : ∃ z, (L j)[q]? = some z := ⟨_, List.getElem?_eq_getElem hql⟩
                                obtain ⟨d1, d2⟩ := DM.out z (List.mem_of_getElem? hz9)
                                rw [S6.out.n] at d2
                                obtain ⟨m, rfl⟩ : ∃ m : Nat, z = m := ⟨z.toNat, by omega⟩
                                have hm12 : m < 12 := by omega
                                obtain ⟨hgc, hgl, hgA, hgR, hgk, hkx, hnx⟩ := S6.out.at_ hm12
                                have bx := S6.out.lw.nodes _ hkx
                                have hvx : (s5.nd (ns.getD m 0)).val = .int .i64 (m : Int) := by
                                  obtain ⟨col, o, _⟩ := S6.out.o
                                  exact o.val m _ hnx
                                rw [hvx] at bx
                                have hto := owns_kept2 O5.out ST.out (fun _ _ f => f)
                                obtain ⟨gt, cpt, hte, hgt, htc⟩ : ∃ gt cp, ta = some ⟨gt, 0, none⟩ ∧ tc = cp ∧ wr.cell? ⟨gt, q, none⟩ = some (.pointer (some ⟨ns.getD m 0, 0, none⟩)) := by
                                  obtain ⟨gq, cq, cur, e, hcg, hb, _, _, _, hcell, _⟩ := owns_one (col := fun _ => 0) (c := 0) ⟨owns_mono hto (Nat.zero_le _), fun _ _ => rfl⟩ (i := q) (x := .pointer (some ⟨ns.getD m 0, 0, none⟩)) (by
                                    unfold ptrs nodesOf
                                    rw [List.getElem?_map, List.getElem?_map, hz9]
                                    show some (Value.pointer (some ⟨ns.getD (m : Int).toNat 0, 0, none⟩)) = _
                                    rw [Int.toNat_natCast])
                                  simp only [Value.slice.injEq, true_and] at e
                                  exact ⟨gq, cq, e.1, e.2, hcell⟩
                                subst hte hgt
                                have c0x := bx.cell 0
                                have CT := Lib.hid (cells_of_cell htc)
                                have CX := Lib.hid bx.cells
                                have CG := Lib.hid (cells_of_cell hgc)
                                have HZ9 := Lib.hid hz9
                                have heq := ne_ptr Try.underlying27 sizeNode_i bx bx
                                have heqd : (binOp .neq 27 (.pointer (some ⟨ns.getD m 0, 0, none⟩)) (.pointer (some ⟨ns.getD m 0, 0, none⟩))).run Try.prog wr.drew = .ok (.bool (!decide (ns.getD m 0 = ns.getD m 0))) wr.drew := ne_ptr Try.underlying27 sizeNode_i (bx.still ((still_refl wr).drewN 1)) (bx.still ((still_refl wr).drewN 1))
                                rw [show (!decide (ns.getD m 0 = ns.getD m 0)) = false by simp] at heq heqd
                                generalize ns.getD m 0 = x at *
                                have HEQD := Lib.hid heqd
                                clear heqd
                                have HEQ := Lib.hid heq
                                clear hz9 hto hgk hnx hvx heq
                                go_upto_region 45 with fail
                                refine wp_region_text ([4], [9, 27]) [gt, x, g] (by kernel_rfl) (by kernel_rfl) (cellsB_cons CT.out (cellsB_cons CX.out (cellsB_cons CG.out cellsB_nil))) (by simp [segs, isEff, isLoad, askOps, asks, ptrEq, eqOrNe, isNil]; rfl) ?_
                                have heq := HEQ.out
                                have heqd := HEQD.out
                                have hoa := owns_kept2 HG.out (((Kept.refl (fun _ => False) wr).drewN 1).alloc (.cells #[.int .i64 (m : Int)] 3)) (fun _ _ f => f)
                                have hbw : w5.heap.size ≤ wr.heap.size := ST.out.size
                                have hlq : ((L j).take q).length ≤ 1000 := by rw [List.length_take]; omega
                                have htk : (L j).take (q + 1) = (L j).take q ++ [(m : Int)] := by have h9 := HZ9.out; rw [List.getElem?_eq_getElem hql] at h9; rw [List.take_succ_eq_append_getElem hql, Option.some.inj h9]
                                have HTK := Lib.hid htk
                                obtain ⟨F, hF⟩ : ∃ F, F = (L j).take q := ⟨_, rfl⟩
                                rw [← hF] at hoa hlq htk
                                have HF := Lib.hid hF
                                have hbz : w5.heap.size ≤ ((wr.drewN 1).alloc (.cells #[.int .i64 (m : Int)] 3)).heap.size := by have := ST.out.size; simp [World.drewN]; omega
                                clear htk hF
                                rcases Nat.eq_zero_or_pos m with hm0 | hm0
                                case inl =>
                                  subst hm0
                                  refine segs_go stay_drew (by simp [isLoad]) ?_
                                  go_wp2_with fail
                                  refine segs_load stay_drew (fun _ => (by exact ⟨gt, _, rfl, by simp⟩)) ?_
                                  go_wp2_with fail
                                  refine segs_load stay_drew (fun _ => (by exact ⟨gt, _, rfl, by simp⟩)) ?_
                                  go_wp2_with fail
                                  refine segs_load stay_drew (fun _ => (by exact ⟨gt, _, rfl, by simp⟩)) ?_
                                  go_wp2_with fail
                                  refine segs_load stay_drew (fun _ => (by exact ⟨x, _, rfl, by simp⟩)) ?_
                                  go_wp2_with fail
                                  refine segs_go stay_drew (by simp [isLoad]) ?_
                                  go_wp2_with fail
                                  refine segs_go stay_drew (by simp [isLoad]) ?_
                                  go_wp2_with fail
                                  refine segs_load stay_drew (fun _ => (by exact ⟨g, _, rfl, by simp⟩)) ?_
                                  go_wp2_with fail
                                  refine segs_go stay_drew (by simp [isLoad]) ?_
                                  go_wp2_with fail
                                  refine segs_nil ?_
                                  replace hoa : ((wr.drewN 1).alloc (.cells #[.int .i64 0] 3)).ownsRow w5.heap.size 3 1 u14 F.length (irow F) := hoa
                                  replace hbz : w5.heap.size ≤ ((wr.drewN 1).alloc (.cells #[.int .i64 0] 3)).heap.size := hbz
                                  go_wp2_with (first | (at_builtin; refine wpList_append _ rfl _ _ 32 rfl w5.heap.size 3 j0 (.int .i64 0) 1 8 Try.underlying32 hj hj0 hj1 hj2 rfl (by decide) _ _ _ rfl (hoa) ⟨wr.drew.heap.size, 0, none⟩ 1 1 [.int .i64 0] rfl rfl (by intro j u hj; match j, hj with | 0, hj => simp at hj; subst hj; first | (simp [Addr.add]; done) | exact (Blk.newAt _ _ _ (by simp)).cell 0) (by intro u hu; simp at hu; subst hu; rfl) (by unfold maxLen; omega) (by omega) (by first | omega | (simp; omega) | simp) ?_) | fail)
                                  intro gv w7 hap
                                  have kk := (show Appended ((wr.drewN 1).alloc (.cells #[.int .i64 0] 3)) w7 _ _ _ _ _ _ _ from hap).kept (S := fun y => w5.heap.size ≤ y) (Kept.refl _ _) (fun b _ hb => owns_block hoa b hb)
                                  have k7 : Still w5 w7 := (ST.out.drewN 1).step kk (fun i hi h => absurd h (by omega))
                                  have K7 := Lib.hid k7
                                  have R7 := Lib.hid hap.owns
                                  clear hap hoa kk k7
                                  go_wp2_with fail
                                  go_roundw
                                  case rel =>
                                    refine ⟨q + 1, by omega, by go_num, ?_, K7.out⟩
                                    rw [HTK.out, irow_snoc, List.length_append, ← HF.out]
                                    exact R7.out
                                  case measure => simp [intOf]; omega
                                case inr =>
                                  refine segs_go stay_drew (by simp [isLoad]) ?_
                                  go_wp2_with fail
                                  refine segs_load stay_drew (fun _ => (by exact ⟨gt, _, rfl, by simp⟩)) ?_
                                  go_wp2_with fail
                                  refine segs_load stay_drew (fun _ => (by exact ⟨gt, _, rfl, by simp⟩)) ?_
                                  go_wp2_with fail
                                  refine segs_load stay_drew (fun _ => (by exact ⟨gt, _, rfl, by simp⟩)) ?_
                                  go_wp2_with fail
                                  refine segs_load stay_drew (fun _ => (by exact ⟨x, _, rfl, by simp⟩)) ?_
                                  go_wp2_with fail
                                  refine segs_go stay_drew (by simp [isLoad]) ?_
                                  go_wp2_with fail
                                  refine segs_go stay_drew (by simp [isLoad]) ?_
                                  go_wp2_with fail
                                  refine segs_load stay_drew (fun _ => (by exact ⟨g, _, rfl, by simp⟩)) ?_
                                  go_wp2_with fail
                                  refine segs_go stay_drew (by simp [isLoad]) ?_
                                  go_wp2_with fail
                                  refine segs_nil ?_
                                  go_wp2_with (first | (at_builtin; refine wpList_append _ rfl _ _ 32 rfl w5.heap.size 3 j0 (.int .i64 0) 1 8 Try.underlying32 hj hj0 hj1 hj2 rfl (by decide) _ _ _ rfl (hoa) ⟨wr.drew.heap.size, 0, none⟩ 1 1 [.int .i64 (m : Int)] rfl rfl (by intro j u hj; match j, hj with | 0, hj => simp at hj; subst hj; first | (simp [Addr.add]; done) | exact (Blk.newAt _ _ _ (by simp)).cell 0) (by intro u hu; simp at hu; subst hu; rfl) (by unfold maxLen; omega) (by omega) (by first | omega | (simp; omega) | simp) ?_) | fail)
                                  intro gv w7 hap
                                  have kk := (show Appended ((wr.drewN 1).alloc (.cells #[.int .i64 (m : Int)] 3)) w7 _ _ _ _ _ _ _ from hap).kept (S := fun y => w5.heap.size ≤ y) (Kept.refl _ _) (fun b _ hb => owns_block hoa b hb)
                                  have k7 : Still w5 w7 := (ST.out.drewN 1).step kk (fun i hi h => absurd h (by omega))
                                  have K7 := Lib.hid k7
                                  have R7 := Lib.hid hap.owns
                                  clear hap hoa kk k7
                                  go_wp2_with fail
                                  go_roundw
                                  case rel =>
                                    refine ⟨q + 1, by omega, by go_num, ?_, K7.out⟩
                                    rw [HTK.out, irow_snoc, List.length_append, ← HF.out]
                                    exact R7.out
                                  case measure => simp [intOf]; omega
                              · obtain rfl : q = (L j).length := by omega
                                have hgo := HG.out
                                rw [List.take_of_length_le (Nat.le_refl _)] at hgo
                                obtain ⟨ga, gc, rfl⟩ := owns_slice hgo
                                obtain ⟨ra, rcp, hrc, hrf, _, hri, _, hnil⟩ := S6.out.slot hj64
                                have HRI := Lib.hid hri
                                have HGO := Lib.hid hgo
                                have c1 := S6.out.blk.cell 1
                                have CA := Lib.hid S6.out.blk.cells
                                have CR := Lib.hid (cells_of_cell hrc)
                                have SD := Lib.hid (S6.out.still ((still_refl wr).drewN 1))
                                clear hri hgo hnil
                                go_upto_region 51 with fail
                                refine wp_region_text ([4], [9, 27]) [A, R'] (by kernel_rfl) (by kernel_rfl) (cellsB_cons CA.out (cellsB_cons CR.out cellsB_nil)) (by simp [segs, isEff, isLoad, askOps, asks, ptrEq, eqOrNe, isNil]; rfl) ?_
                                refine segs_go stay_drew (by simp [isLoad]) ?_
                                go_wp2_with fail
                                refine segs_load stay_drew (fun _ => (by exact ⟨A, _, rfl, by simp⟩)) ?_
                                go_wp2_with fail
                                refine segs_load stay_drew (fun _ => (by exact ⟨R', _, rfl, by simp⟩)) ?_
                                go_wp2_with fail
                                have i9 := ints_any _ _ (L j) (L j) _ _ _ ((VRow.of_owns HGO.out).still ((still_refl wr).drewN 1)) (HRI.out.still ((still_refl wr).drewN 1))
                                rw [decide_eq_true rfl] at i9
                                refine i9.mono ?_
                                rintro e w9 ⟨rfl, k9⟩
                                have S9 := Lib.hid (SD.out.still k9)
                                have hs9 : StayB [A, R'] wr w9 := StayB.kept (w := wr.drew) stay_drew k9 (fun b hb => by
                                  simp only [List.mem_cons, List.not_mem_nil, or_false] at hb
                                  rcases hb with rfl | rfl
                                  · exact ⟨S6.out.blk.lt, fun f => f⟩
                                  · exact ⟨lt_of_cell hrc, fun f => f⟩)
                                have HS9 := Lib.hid hs9
                                clear k9 i9 hs9 hrc c1 CA
                                obtain ⟨ra9, rcp9, hrc9, hrf9, _, _, _, hnil9⟩ := S9.out.slot hj64
                                have HNL := Lib.hid hnil9
                                have c1 := S9.out.blk.cell 1
                                have CA := Lib.hid S9.out.blk.cells
                                have hl9 : tot (fun q => (upd L j [] q).length) ≤ k + 1 := by
                                  have h9 := tot_one (f := fun q => (upd L j [] q).length) (g := fun q => (L q).length) hj64 (fun x hx e => by rw [upd_ne _ _ e])
                                  rw [upd_same] at h9
                                  have := HTt.out
                                  simp at h9
                                  omega
                                have HL9 := Lib.hid hl9
                                clear hnil9 hl9
                                go_wp2_with fail
                                refine segs_go HS9.out (by simp [isLoad]) ?_
                                go_wp2_with fail
                                refine segs_nil ?_
                                go_upto_region 53 with fail
                                refine wp_region_end ([4], [9, 27]) [A] rfl (by kernel_rfl) (by kernel_rfl) (by kernel_rfl) (cellsB_cons CA.out cellsB_nil) (by simp [segs, isEff, isLoad, askOps, asks, ptrEq, eqOrNe, isNil]; rfl) ?_
                                refine segs_go stay_drew (by simp [isLoad]) ?_
                                go_wp2_with fail
                                refine segs_load stay_drew (fun _ => (by exact ⟨A, _, rfl, by simp⟩)) ?_
                                go_wp2_with fail
                                refine segs_nil ?_
                                go_wp2_with fail
                                go_meet
                                case rel => exact ⟨s5, _, HNL.out.still ((still_refl _).drewN 1), T5.out, HL9.out⟩
                        · have hb2 : (kind == 2) = false := by rw [beq_eq_false_iff_ne]; exact hk2
                          clear hk0 hk1 hk2
                          as_aux_lemma =>
                            go_wp2_with fail
                            go_meet
                            case rel => exact ⟨s, L, SA.out, HT.out, Nat.le_succ_of_le HTt.out⟩
                case rest =>
                  as_aux_lemma =>
                    obtain ⟨s9, L9, hS9, hT9, hl9⟩ := hcut
                    have S9 := Lib.hid hS9
                    have T9 := Lib.hid hT9
                    have HL9 := Lib.hid hl9
                    clear hS9 hT9 hl9 SA S
                    go_wp2_with fail
                    obtain ⟨col, o9, rf, _⟩ := S9.out.o
                    have O9 := Lib.hid o9
                    refine (map_any wc rf (Nat.le_trans HL9.out (by omega))).mono ?_
                    rintro e w10 ⟨m, rfl, rfl, hm⟩
                    have HM := Lib.hid hm
                    clear hm o9 rf
                    have CA := Lib.hid S9.out.blk.cells
                    have c1 := S9.out.blk.cell 1
                    have CR := Lib.hid (show ∃ c t f, wc.heap[R']? = some (.cells c t f) by
                      obtain ⟨col, _, rf, _⟩ := S9.out.o
                      obtain ⟨c, vs, b, _⟩ := rf.blk
                      exact b.cells)
                    go_upto_region 55 with fail
                    refine wp_region_text ([4], [9, 27]) [A, R'] (by kernel_rfl) (by kernel_rfl) (cellsB_cons CA.out (cellsB_cons CR.out cellsB_nil)) (by simp [segs, isEff, isLoad, askOps, asks, ptrEq, eqOrNe, isNil]; rfl) ?_
                    have SD := Lib.hid (S9.out.still ((still_refl wc).drewN 1))
                    refine segs_go stay_drew (by simp [isLoad]) ?_
                    go_wp2_with fail
                    refine (lvmap_i s9 v sl _ SD.out.lv).mono ?_
                    rintro e w11 ⟨u, rfl, rfl, hu⟩
                    obtain rfl : u = m := bits_same T9.out hu HM.out
                    clear hu
                    go_wp2_with fail
                    refine segs_go stay_drew (by simp [isLoad]) ?_
                    go_wp2_with fail
                    refine (lvlen_i s9 v sl _ SD.out.lv).mono ?_
                    rintro e w11 ⟨rfl, rfl⟩
                    rw [T9.out.lens]
                    have hls9 := HL9.out
                    have hts9 := Lib.hid (show tot (fun k => (s9.sq (sl k)).length) < 100000 by rw [T9.out.lens]; omega)
                    obtain ⟨TT, hTT⟩ : ∃ TT, TT = tot (fun k => (L9 k).length) := ⟨_, rfl⟩
                    rw [← hTT]
                    have HTT := Lib.hid hTT
                    clear hTT
                    go_wp2_with fail
                    refine segs_go stay_drew (by simp [isLoad]) ?_
                    go_wp2_with fail
                    refine segs_load stay_drew (fun _ => (by exact ⟨A, _, rfl, by simp⟩)) ?_
                    go_wp2_with fail
                    have hvs := T9.out.vals O9.out hj64
                    have hone : ∀ x, x ∈ s9.sq (sl j) → ∃ v : Int, (s9.nd x).val = .int .i64 v := fun x hx => by
                      have : (s9.nd x).val ∈ valsOf_i s9 (s9.sq (sl j)) := List.mem_map.2 ⟨x, hx, rfl⟩
                      rw [hvs] at this
                      obtain ⟨v, _, hv⟩ := List.mem_map.1 this
                      exact ⟨v, hv.symm⟩
                    refine (lvat_i s9 v sl j _ SD.out.lw SD.out.lv hj64 hts9.out hone).mono ?_
                    rintro e w11 ⟨⟨r11, rfl, ho11⟩, k11⟩
                    rw [hvs, T9.out.eq j hj64, nodesOf_len] at ho11
                    obtain ⟨ra, rc, rfl⟩ := owns_slice ho11
                    have k11' : Still _ w11 := (kept_of_below k11).mono fun y h1 h2 => absurd h2 (by omega)
                    have S11 := Lib.hid (SD.out.still k11')
                    obtain ⟨ra2, rcp2, hrc2, _, _, hri2, _, _⟩ := S11.out.slot hj64
                    have hs11 : StayB [A, R'] wc w11 := StayB.kept (w := wc.drew) stay_drew k11' (fun b hb => by
                      simp only [List.mem_cons, List.not_mem_nil, or_false] at hb
                      rcases hb with rfl | rfl
                      · exact ⟨S9.out.blk.lt, fun f => f⟩
                      · obtain ⟨c, t, f, hb⟩ := CR.out
                        exact ⟨(Array.getElem?_eq_some_iff.1 hb).1, fun f => f⟩)
                    have i11 := ints_any _ _ (L9 j) (L9 j) _ _ w11 (VRow.of_owns ho11) hri2
                    rw [decide_eq_true rfl] at i11
                    have I11 := Lib.hid i11
                    have c111 := S11.out.blk.cell 1
                    have HS11 := Lib.hid hs11
                    clear hvs hone ho11 k11 k11' hri2 i11 hs11
                    go_wp2_with fail
                    refine segs_go HS11.out (by simp [isLoad]) ?_
                    go_wp2_with fail
                    refine segs_load HS11.out (fun _ => (by exact ⟨A, _, rfl, by simp⟩)) ?_
                    go_wp2_with fail
                    refine segs_load HS11.out (fun _ => (by exact ⟨R', _, rfl, by simp⟩)) ?_
                    go_wp2_with fail
                    refine I11.out.mono ?_
                    rintro e w12 ⟨rfl, k12⟩
                    have S12 := Lib.hid (S11.out.still k12)
                    have hs12 : StayB [A, R'] wc w12 := StayB.kept HS11.out k12 (fun b hb => by
                      simp only [List.mem_cons, List.not_mem_nil, or_false] at hb
                      rcases hb with rfl | rfl
                      · exact ⟨S11.out.blk.lt, fun f => f⟩
                      · exact ⟨lt_of_cell hrc2, fun f => f⟩)
                    have HS12 := Lib.hid hs12
                    clear k12 hs12
                    go_wp2_with fail
                    refine segs_go HS12.out (by simp [isLoad]) ?_
                    go_wp2_with fail
                    refine segs_load HS12.out (fun h => (by first | (exact ⟨A, _, rfl, by simp⟩) | (simp [Region.wanted, yielded] at h))) ?_
                    go_wp2_with fail
                    refine segs_go HS12.out (by simp [isLoad]) ?_
                    go_wp2_with fail
                    refine segs_nil ?_
                    go_wp2_with fail
                    go_roundw
                    case rel => exact ⟨k + 1, s9, L9, by omega, by go_num, S12.out.done T9.out HL9.out⟩
                    case measure => simp [intOf]; omega
              · rw [decide_eq_false hr]
                go_upto_block 4 with fail
                go_cut [] from 60 to 180 (fun wx => ∃ (s : LS) (L : Nat → List Int), LB w.heap.size v R' A sl (.slice (some ⟨g, 0, none⟩) 12 nc) ns s L kind si ni w wx ∧ TieL sl s ns L ∧ tot (fun k => (L k).length) ≤ k + 1)
                case first =>
                  as_aux_lemma =>
                    by_cases hk0 : kind = 0
                    · have hb0 : (kind == 0) = true := by rw [beq_iff_eq]; exact hk0
                      clear hk0
                      as_aux_lemma =>
                        obtain ⟨hgc, hgl, hgA, hgR, hgk, hkx, hnx⟩ := SA.out.at_ hn12
                        have bA := SA.out.blk
                        have c1 := bA.cell 1
                        have CA := Lib.hid bA.cells
                        have CG := Lib.hid (cells_of_cell hgc)
                        have HX := Lib.hid hnx
                        have HGK := Lib.hid hgk
                        clear bA hnx hgk
                        go_upto_region 28 with fail
                        refine wp_region_text ([4], [9, 27]) [A, g] (by kernel_rfl) (by kernel_rfl) (cellsB_cons CA.out (cellsB_cons CG.out cellsB_nil)) (by simp [segs, isEff, isLoad, askOps, asks, ptrEq, eqOrNe, isNil]; rfl) ?_
                        refine segs_go stay_drew (by simp [isLoad]) ?_
                        go_wp2_with fail
                        refine segs_load stay_drew (fun _ => (by exact ⟨A, _, rfl, by simp⟩)) ?_
                        go_wp2_with fail
                        refine segs_load stay_drew (fun _ => (by exact ⟨g, _, rfl, by simp⟩)) ?_
                        go_wp2_with fail
                        have SD := Lib.hid (SA.out.still ((still_refl wc).drewN 1))
                        refine (lvput_range_i v si _ _ hr).mono ?_
                        rintro e w5 ⟨rfl, rfl⟩
                        go_wp2_with fail
                        refine segs_go stay_drew (by simp [isLoad]) ?_
                        go_wp2_with fail
                        refine segs_nil ?_
                        go_wp2_with fail
                        go_meet
                        case rel => exact ⟨s, L, SD.out, HT.out, Nat.le_succ_of_le HTt.out⟩
                    · have hb0 : (kind == 0) = false := by rw [beq_eq_false_iff_ne]; exact hk0
                      by_cases hk1 : kind = 1
                      · have hb1 : (kind == 1) = true := by rw [beq_iff_eq]; exact hk1
                        clear hk0 hk1
                        as_aux_lemma =>
                          obtain ⟨hgc, hgl, hgA, hgR, hgk, hkx, hnx⟩ := SA.out.at_ hn12
                          have bA := SA.out.blk
                          have c1 := bA.cell 1
                          have CA := Lib.hid bA.cells
                          have CG := Lib.hid (cells_of_cell hgc)
                          have HX := Lib.hid hnx
                          have HGK := Lib.hid hgk
                          clear bA hnx hgk
                          go_upto_region 32 with fail
                          refine wp_region_text ([4], [9, 27]) [A] (by kernel_rfl) (by kernel_rfl) (cellsB_cons CA.out cellsB_nil) (by simp [segs, isEff, isLoad, askOps, asks, ptrEq, eqOrNe, isNil]; rfl) ?_
                          refine segs_go stay_drew (by simp [isLoad]) ?_
                          go_wp2_with fail
                          refine segs_go stay_drew (by simp [isLoad]) ?_
                          go_wp2_with fail
                          refine segs_load stay_drew (fun h => (by first | (exact ⟨A, _, rfl, by simp⟩) | (simp [Region.wanted, yielded] at h))) ?_
                          go_wp2_with fail
                          refine segs_nil ?_
                          go_wp2_with fail
                          have SD := Lib.hid (SA.out.still ((still_refl wc).drewN 1))
                          clear hgc CA CG HX HGK
                          obtain ⟨w5, hw5⟩ : ∃ w5, w5 = wc.drew := ⟨_, rfl⟩
                          have S5 : RowKit.Hid (LB w.heap.size v R' A sl (.slice (some ⟨g, 0, none⟩) 12 nc) ns s L kind si ni w w5) := by rw [hw5]; exact SD
                          rw [← hw5]
                          clear hw5
                          obtain ⟨hgc, hgl, hgA, hgR, hgk, hkx, hnx⟩ := S5.out.at_ hn12
                          have bA := S5.out.blk
                          have c1 := bA.cell 1
                          have CA := Lib.hid bA.cells
                          have CG := Lib.hid (cells_of_cell hgc)
                          have HX := Lib.hid hnx
                          have HGK := Lib.hid hgk
                          clear bA hnx hgk
                          go_upto_region 37 with fail
                          refine wp_region_text ([4], [9, 27]) [A, g] (by kernel_rfl) (by kernel_rfl) (cellsB_cons CA.out (cellsB_cons CG.out cellsB_nil)) (by simp [segs, isEff, isLoad, askOps, asks, ptrEq, eqOrNe, isNil]; rfl) ?_
                          refine segs_go stay_drew (by simp [isLoad]) ?_
                          go_wp2_with fail
                          refine segs_load stay_drew (fun _ => (by exact ⟨A, _, rfl, by simp⟩)) ?_
                          go_wp2_with fail
                          refine segs_load stay_drew (fun _ => (by exact ⟨g, _, rfl, by simp⟩)) ?_
                          go_wp2_with fail
                          have SD6 := Lib.hid (S5.out.still ((still_refl w5).drewN 1))
                          refine (lvrem_range_i v si _ _ hr).mono ?_
                          rintro e w7 ⟨rfl, rfl⟩
                          go_wp2_with fail
                          refine segs_go stay_drew (by simp [isLoad]) ?_
                          go_wp2_with fail
                          refine segs_nil ?_
                          go_wp2_with fail
                          go_meet
                          case rel => exact ⟨s, L, SD6.out, HT.out, Nat.le_succ_of_le HTt.out⟩
                      · have hb1 : (kind == 1) = false := by rw [beq_eq_false_iff_ne]; exact hk1
                        by_cases hk2 : kind = 2
                        · have hb2 : (kind == 2) = true := by rw [beq_iff_eq]; exact hk2
                          clear hk0 hk1 hk2
                          as_aux_lemma =>
                            go_wp2_with fail
                            refine (lvtake_range_i v si wc hr).mono ?_
                            rintro e w5 ⟨rfl, rfl⟩
                            go_wp2_with fail
                            go_loopw [14, 15] (fun gv i wx => gv = .slice none 0 0 ∧ i = .int .i64 0 ∧ wx = wc) (fun _ _ _ => 0)
                            case atStart => exact ⟨rfl, rfl, rfl⟩
                            case round =>
                              obtain ⟨rfl, rfl, rfl⟩ := hrel
                              go_wp2_with fail
                              go_roundw
                              case rel => exact ⟨k + 1, s, L, by omega, by go_num, SA.out.done HT.out (Nat.le_succ_of_le HTt.out)⟩
                              case measure => simp [intOf]; omega
                        · have hb2 : (kind == 2) = false := by rw [beq_eq_false_iff_ne]; exact hk2
                          clear hk0 hk1 hk2
                          as_aux_lemma =>
                            go_wp2_with fail
                            go_meet
                            case rel => exact ⟨s, L, SA.out, HT.out, Nat.le_succ_of_le HTt.out⟩
                case rest =>
                  as_aux_lemma =>
                    obtain ⟨s9, L9, hS9, hT9, hl9⟩ := hcut
                    have S9 := Lib.hid hS9
                    have T9 := Lib.hid hT9
                    have HL9 := Lib.hid hl9
                    clear hS9 hT9 hl9 SA S
                    go_wp2_with fail
                    obtain ⟨col, o9, rf, _⟩ := S9.out.o
                    have O9 := Lib.hid o9
                    refine (map_any wc rf (Nat.le_trans HL9.out (by omega))).mono ?_
                    rintro e w10 ⟨m, rfl, rfl, hm⟩
                    have HM := Lib.hid hm
                    clear hm o9 rf
                    have CA := Lib.hid S9.out.blk.cells
                    have c1 := S9.out.blk.cell 1
                    have CR := Lib.hid (show ∃ c t f, wc.heap[R']? = some (.cells c t f) by
                      obtain ⟨col, _, rf, _⟩ := S9.out.o
                      obtain ⟨c, vs, b, _⟩ := rf.blk
                      exact b.cells)
                    go_upto_region 55 with fail
                    refine wp_region_text ([4], [9, 27]) [A, R'] (by kernel_rfl) (by kernel_rfl) (cellsB_cons CA.out (cellsB_cons CR.out cellsB_nil)) (by simp [segs, isEff, isLoad, askOps, asks, ptrEq, eqOrNe, isNil]; rfl) ?_
                    have SD := Lib.hid (S9.out.still ((still_refl wc).drewN 1))
                    refine segs_go stay_drew (by simp [isLoad]) ?_
                    go_wp2_with fail
                    refine (lvmap_i s9 v sl _ SD.out.lv).mono ?_
                    rintro e w11 ⟨u, rfl, rfl, hu⟩
                    obtain rfl : u = m := bits_same T9.out hu HM.out
                    clear hu
                    go_wp2_with fail
                    refine segs_go stay_drew (by simp [isLoad]) ?_
                    go_wp2_with fail
                    refine (lvlen_i s9 v sl _ SD.out.lv).mono ?_
                    rintro e w11 ⟨rfl, rfl⟩
                    rw [T9.out.lens]
                    have hls9 := HL9.out
                    have hts9 := Lib.hid (show tot (fun k => (s9.sq (sl k)).length) < 100000 by rw [T9.out.lens]; omega)
                    obtain ⟨TT, hTT⟩ : ∃ TT, TT = tot (fun k => (L9 k).length) := ⟨_, rfl⟩
                    rw [← hTT]
                    have HTT := Lib.hid hTT
                    clear hTT
                    go_wp2_with fail
                    refine segs_go stay_drew (by simp [isLoad]) ?_
                    go_wp2_with fail
                    refine segs_load stay_drew (fun h => (by first | (exact ⟨A, _, rfl, by simp⟩) | (simp [Region.wanted, yielded] at h))) ?_
                    go_wp2_with fail
                    refine segs_go stay_drew (by simp [isLoad]) ?_
                    go_wp2_with fail
                    refine segs_load stay_drew (fun h => (by first | (exact ⟨A, _, rfl, by simp⟩) | (simp [Region.wanted, yielded] at h))) ?_
                    go_wp2_with fail
                    refine segs_load stay_drew (fun h => (by first | (exact ⟨A, _, rfl, by simp⟩) | (simp [Region.wanted, yielded] at h))) ?_
                    go_wp2_with fail
                    refine segs_go stay_drew (by simp [isLoad]) ?_
                    go_wp2_with fail
                    refine segs_load stay_drew (fun _ => (by exact ⟨A, _, rfl, by simp⟩)) ?_
                    go_wp2_with fail
                    refine (lvat_range_i v si _ hr).mono ?_
                    rintro e w11 ⟨rfl, rfl⟩
                    go_wp2_with fail
                    refine segs_go stay_drew (by simp [isLoad]) ?_
                    go_wp2_with fail
                    refine segs_nil ?_
                    go_wp2_with fail
                    go_roundw
                    case rel => exact ⟨k + 1, s9, L9, by omega, by go_num, SD.out.done T9.out HL9.out⟩
                    case measure => simp [intOf]; omega
        · obtain rfl : k = len0 := by omega
          go_wp2_with fail
          go_ret
          exact ⟨rfl, S.out.bel⟩
end Go.Proofs.Ytpkjhpfmikamkaa
