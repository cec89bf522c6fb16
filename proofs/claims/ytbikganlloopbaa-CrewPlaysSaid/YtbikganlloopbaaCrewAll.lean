/-
  What stands here: a floor's crew. Under no condition but that the world holds the floor.
-/
import Derived.Test.YtbikganlloopbaaCrewMove
import Derived.Test.YtbikganlloopbaaRangeW
namespace Go.Proofs.Ytbikganlloopbaa
set_option linter.unusedVariables false
set_option linter.unusedSimpArgs false
open Go.RowKit Go.Proofs
attribute [local go_sem] Oper.semAt_some
theorem fconfig {s p g f sb : Nat} {cf : Nat → Int} {sh : Value} {bz : Int} {W : World} (h : FlB f cf sb sh p g bz W) : Calls Try.prog 23 #[.pointer (some ⟨f, 0, none⟩)] W fun e w' => e = .returned (.agg (cfgC cf)) ∧ Still W w' := by
  obtain ⟨l, t, u, hb⟩ := h
  obtain ⟨a0, ha0⟩ : ∃ a, a = cf 0 := ⟨_, rfl⟩
  obtain ⟨a1, ha1⟩ : ∃ a, a = cf 1 := ⟨_, rfl⟩
  obtain ⟨a2, ha2⟩ : ∃ a, a = cf 2 := ⟨_, rfl⟩
  obtain ⟨a3, ha3⟩ : ∃ a, a = cf 3 := ⟨_, rfl⟩
  obtain ⟨a4, ha4⟩ : ∃ a, a = cf 4 := ⟨_, rfl⟩
  obtain ⟨a5, ha5⟩ : ∃ a, a = cf 5 := ⟨_, rfl⟩
  simp only [cfgC, floorC] at hb ⊢
  rw [← ha0, ← ha1, ← ha2, ← ha3, ← ha4, ← ha5] at hb ⊢
  obtain ⟨w0, hw0⟩ : ∃ w0, w0 = W.alloc (.cells #[.int .i64 0, .int .i64 0, .int .i64 0, .int .i64 0, .int .i64 0, .int .i64 0] 29) := ⟨_, rfl⟩
  obtain ⟨R, hR⟩ : ∃ R, R = W.heap.size := ⟨_, rfl⟩
  have k0 : Still W w0 := by rw [hw0]; exact (still_refl W).alloc _
  have r0 : Blk w0 R #[.int .i64 0, .int .i64 0, .int .i64 0, .int .i64 0, .int .i64 0, .int .i64 0] 29 := by rw [hw0, hR]; exact Blk.new _ _ _
  have hb0 := hb.still k0
  have hRf : R ≠ f := by have := hb.lt; omega
  have c0 : w0.cell? ⟨f, 0, none⟩ = some (.int .i64 a0) := hb0.cell 0
  have c1 : w0.cell? ⟨f, 1, none⟩ = some (.int .i64 a1) := hb0.cell 1
  have c2 : w0.cell? ⟨f, 2, none⟩ = some (.int .i64 a2) := hb0.cell 2
  have c3 : w0.cell? ⟨f, 3, none⟩ = some (.int .i64 a3) := hb0.cell 3
  have c4 : w0.cell? ⟨f, 4, none⟩ = some (.int .i64 a4) := hb0.cell 4
  have c5 : w0.cell? ⟨f, 5, none⟩ = some (.int .i64 a5) := hb0.cell 5
  have d0 : w0.cell? ⟨R, 0, none⟩ = some (.int .i64 0) := r0.cell 0
  have d1 : w0.cell? ⟨R, 1, none⟩ = some (.int .i64 0) := r0.cell 1
  have d2 : w0.cell? ⟨R, 2, none⟩ = some (.int .i64 0) := r0.cell 2
  have d3 : w0.cell? ⟨R, 3, none⟩ = some (.int .i64 0) := r0.cell 3
  have d4 : w0.cell? ⟨R, 4, none⟩ = some (.int .i64 0) := r0.cell 4
  have d5 : w0.cell? ⟨R, 5, none⟩ = some (.int .i64 0) := r0.cell 5
  have f0 := r0.free 0
  have f1 := r0.free 1
  have f2 := r0.free 2
  have f3 := r0.free 3
  have f4 := r0.free 4
  have f5 := r0.free 5
  have HW0 := Lib.hid hw0
  have HR := Lib.hid hR
  have R0 := Lib.hid r0
  have K0 := Lib.hid k0
  clear hw0 hR r0 k0 hb0 hb ha0 ha1 ha2 ha3 ha4 ha5
  go_enter Try.func23, Try.ntmps23
  go_upto_region 1 with fail
  rw [← HW0.out, ← HR.out]
  go_wp2_with fail
  obtain ⟨wz, hwz⟩ : ∃ wz, wz = (((((w0.setCell ⟨R, 0, none⟩ (.int .i64 a0)).setCell ⟨R, 1, none⟩ (.int .i64 a1)).setCell ⟨R, 2, none⟩ (.int .i64 a2)).setCell ⟨R, 3, none⟩ (.int .i64 a3)).setCell ⟨R, 4, none⟩ (.int .i64 a4)).setCell ⟨R, 5, none⟩ (.int .i64 a5) := ⟨_, rfl⟩
  have kz : Only R w0 wz := by rw [hwz]; exact ((((((only_refl R w0).put 0 _).put 1 _).put 2 _).put 3 _).put 4 _).put 5 _
  have bz9 : Blk wz R #[.int .i64 a0, .int .i64 a1, .int .i64 a2, .int .i64 a3, .int .i64 a4, .int .i64 a5] 29 := by rw [hwz]; exact (((((R0.out.set 0 _).set 1 _).set 2 _).set 3 _).set 4 _).set' rfl
  rw [← hwz]
  have p0 : wz.cell? ⟨R, 0, none⟩ = some (.int .i64 a0) := bz9.cell 0
  have p1 : wz.cell? ⟨R, 1, none⟩ = some (.int .i64 a1) := bz9.cell 1
  have p2 : wz.cell? ⟨R, 2, none⟩ = some (.int .i64 a2) := bz9.cell 2
  have p3 : wz.cell? ⟨R, 3, none⟩ = some (.int .i64 a3) := bz9.cell 3
  have p4 : wz.cell? ⟨R, 4, none⟩ = some (.int .i64 a4) := bz9.cell 4
  have p5 : wz.cell? ⟨R, 5, none⟩ = some (.int .i64 a5) := bz9.cell 5
  have hR := HR.out
  refine bodyPost_ret (v := .agg #[.int .i64 a0, .int .i64 a1, .int .i64 a2, .int .i64 a3, .int .i64 a4, .int .i64 a5]) (by simp [results, Try.f23, go_sem, p0, p1, p2, p3, p4, p5]) rfl ⟨rfl, Kept.step K0.out kz (fun i hi e => absurd hi (by omega))⟩
theorem cworkers (f : Nat) (w : World) : Calls Try.prog 44 #[.pointer (some ⟨f, 0, none⟩)] w fun e w' => e = .returned (.func (.func 67) #[] #[.pointer (some ⟨w.heap.size, 0, none⟩)]) ∧ Still w w' ∧ Blk w' w.heap.size #[.pointer (some ⟨f, 0, none⟩)] 24 := by
  go_enter Try.func44, Try.ntmps44
  go_wp2
  go_ret
  exact ⟨rfl, by (repeat (first | (with_reducible exact Kept.refl _ _) | (with_reducible refine Kept.drewN ?_ _) | (with_reducible refine Kept.drew ?_) | (with_reducible refine Kept.put ?_ _ _) | (with_reducible refine Kept.alloc ?_ _))), Blk.new _ _ _⟩
def encW (x : Nat) : Array Value := #[.pointer (some ⟨x, 0, none⟩)]
/-- a worker that was begun -/
structure WBq (f x q bx : Nat) (W : World) : Prop where
  b1 : Blk W x #[.pointer (some ⟨f, 0, none⟩), .pointer (some ⟨q, 0, none⟩), .slice none 0 0, .int .i64 0] 96
  b2 : Blk W q #[takeM bx, takeD bx, .int .i64 0] 156
  b3 : Blk W bx #[.pointer (some ⟨x, 0, none⟩)] 31
theorem WBq.kept {f x q bx : Nat} {W W' : World} {S : Nat → Prop} (h : WBq f x q bx W) (k : Kept S W W') (h1 : ¬ S x) (h2 : ¬ S q) (h3 : ¬ S bx) : WBq f x q bx W' := ⟨h.b1.kept k h1, h.b2.kept k h2, h.b3.kept k h3⟩
theorem WBq.uniq {f x q bx q' bx' : Nat} {W : World} (h : WBq f x q bx W) (k : WBq f x q' bx' W) : q' = q ∧ bx' = bx := by
  have e1 : W.cell? ⟨x, 1, none⟩ = some (.pointer (some ⟨q, 0, none⟩)) := h.b1.cell 1
  have e2 : W.cell? ⟨x, 1, none⟩ = some (.pointer (some ⟨q', 0, none⟩)) := k.b1.cell 1
  rw [e1] at e2
  simp at e2
  subst e2
  have e3 : W.cell? ⟨q, 0, none⟩ = some (takeM bx) := h.b2.cell 0
  have e4 : W.cell? ⟨q, 0, none⟩ = some (takeM bx') := k.b2.cell 0
  rw [e3] at e4
  simp at e4
  exact ⟨rfl, e4.symm⟩
/-- the block of the row that a cell holds -/
def rowB (T : Nat) (A : World) : Option Nat := match A.cell? ⟨T, 0, none⟩ with
  | some v => v.ownBlock
  | none => none
theorem rowB_kept {T : Nat} {A B : World} {S : Nat → Prop} (k : Kept S A B) (h1 : T < A.heap.size) (h2 : ¬ S T) : rowB T B = rowB T A := by
  unfold rowB
  rw [World.cell?_of_block (a := ⟨T, 0, none⟩) (k.block T h1 h2)]
section
variable (f p g sb M T T3 B0 : Nat) (cf : Nat → Int) (sh : Value) (bz : Int)
structure QwC (pre : List Nat) (A : World) : Prop where
  fl : FlB f cf sb sh p g bz A
  lt : ∀ k, k ∈ pre → k < A.heap.size
  t3 : T3 < A.heap.size
  t3T : T3 ≠ T
  row : ∀ b, rowB T3 A = some b → b < A.heap.size
  b0 : B0 ≤ A.heap.size
def XwC (pre : List Nat) (x : Nat) (W : World) : Prop := x ∉ pre ∧ ∃ q bx, WBq f x q bx W ∧ B0 ≤ x ∧ B0 ≤ q ∧ B0 ≤ bx ∧ ∀ b, rowB T3 W = some b → b ≠ x ∧ b ≠ q ∧ b ≠ bx
end
set_option maxHeartbeats 1000000 in
set_option maxRecDepth 100000 in
theorem workers_stops (n : Nat) (hn : 1 ≤ n) {f p g sb M T T3 B0 : Nat} {cf : Nat → Int} {sh : Value} {bz : Int} (hM : cf 4 = M) (hM2 : M < 1000) (tt : TypeId) :
    IterX Fence.wide n Try.prog 67 #[.pointer (some ⟨T, 0, none⟩)] encW (fun ys => ys.length = M) (fun _ => True) M T (fun W => Blk W T #[.pointer (some ⟨f, 0, none⟩)] tt) (QwC f p g sb T T3 B0 cf sh bz) (XwC f T3 B0) := by
  intro li J Jx W hT hQ hJ hJx hY h0
  have c0 : W.cell? ⟨T, 0, none⟩ = some (.pointer (some ⟨f, 0, none⟩)) := hT.cell 0
  have hTl := hT.lt
  have hQ0 := hQ [] W h0
  have HCF := Lib.hid (fconfig hQ0.fl (s := 0))
  have hfld : ∀ W, (Instr.field 29 (.agg (cfgC cf)) 4).run Try.prog W = .ok (.int .i64 (cf 4)) W := fun W => by kernel_rfl
  refine callsIn_of_wp Try.func67 rfl trivial ?_ rfl
  simp only [Try.ntmps67, List.size_toArray, List.length_cons, List.length_nil, Nat.reduceAdd, Nat.reduceSub, Array.replicate_succ, Array.replicate_zero, List.push_toArray, List.append_toArray, List.nil_append, List.cons_append]
  gi_wp2_with fail
  refine ⟨trivial, callsIn_wide.2 (HCF.out.mono ?_)⟩
  rintro e w1 ⟨rfl, k1⟩
  have hT1 := hT.still k1
  have h1 := hJ _ _ _ h0 (k1.mono (T := fun y => y = T) (fun _ _ f => f.elim))
  have hTl1 := hT1.lt
  have HT1 := Lib.hid hT1
  have H1 := Lib.hid h1
  have HQ := Lib.hid hQ
  have HJ := Lib.hid hJ
  have HY := Lib.hid hY
  clear hT1 h1 hQ0 hT c0 k1 hQ hJ hJx hY h0
  gi_wp2_with fail
  gi_loopw [8] (fun p wr => ∃ pre : List Nat, p = .int .i64 pre.length ∧ pre.length ≤ M ∧ J pre wr ∧ Blk wr T #[.pointer (some ⟨f, 0, none⟩)] tt) (fun p _ => M - (intOf p).toNat)
  case atStart => exact ⟨[], rfl, Nat.zero_le _, H1.out, HT1.out⟩
  case round =>
    obtain ⟨pre, rfl, hpl, hJp, hT⟩ := hrel
    have HPRE := Lib.hid hT
    have HJP := Lib.hid hJp
    have cT : wr.cell? ⟨T, 0, none⟩ = some (.pointer (some ⟨f, 0, none⟩)) := hT.cell 0
    obtain ⟨L, hL⟩ : ∃ L, L = pre.length := ⟨_, rfl⟩
    rw [← hL] at hpl ⊢
    have HL := Lib.hid hL
    clear hT hJp hL
    by_cases hlt : L < M
    · gi_wp2_with fail
      refine ⟨trivial, callsIn_wide.2 ((cbegin f wr).mono ?_)⟩
      rintro e w2 ⟨x, q, bx, rfl, zx, zq, zbx, b1, b2, b3, k2⟩
      have hq := HQ.out _ _ HJP.out
      have hJ2 := HJ.out _ _ _ HJP.out (k2.mono (T := fun y => y = T) (fun _ _ f => f.elim))
      have hT2 := HPRE.out.still k2
      have hxw : XwC f T3 B0 pre x w2 := ⟨fun hm => by have := hq.lt x hm; omega, q, bx, ⟨b1, b2, b3⟩, by have := hq.b0; omega, by have := hq.b0; omega, by have := hq.b0; omega, fun b hb => by
        rw [rowB_kept k2 hq.t3 (fun f => f)] at hb
        have := hq.row b hb; omega⟩
      obtain ⟨fn, tmps, assign, body, hy, hR⟩ := HY.out pre x w2 hJ2 hxw hT2.lt trivial (by have := HL.out; omega)
      dsimp only [encW] at hy
      have HT2 := Lib.hid hT2
      clear hq hJ2 hT2 hxw zx zq zbx b1 b2 b3 k2 cT
      gi_wp2_with fail
      refine hR.mono ?_
      rintro e W3 (⟨rfl, hJ3, hk3⟩ | ⟨rfl, hJx3⟩)
      · gi_wp2
        go_roundw
        case rel => exact ⟨pre ++ [x], by have := HL.out; simp; omega, by have := HL.out; simp; omega, hJ3, HT2.out.kept hk3 (fun h => h rfl)⟩
        case measure => simp [intOf]; omega
      · gi_wp2
        refine bodyPost_ret (results_none rfl _ _ _) rfl ?_
        exact ⟨⟨_, rfl⟩, .inr ⟨_, trivial, hJx3⟩⟩
    · obtain rfl : L = M := by omega
      gi_wp2
      go_end0
      exact ⟨⟨_, rfl⟩, .inl ⟨_, HL.out.symm, HJP.out⟩⟩
theorem infoPW : (Try.prog.info? 31).map (fun i => (i.zero, i.size, i.bytes)) = some (some (.pointer none), 1, 8) := by kernel_rfl
set_option maxHeartbeats 2000000 in
set_option maxRecDepth 100000 in
theorem ccrew {f p g sb M : Nat} {cf : Nat → Int} {sh : Value} {bz : Int} {w : World} (h : FlB f cf sb sh p g bz w) (hM : cf 4 = M) (hM2 : M < 1000) :
    Calls Try.prog 20 #[.pointer (some ⟨f, 0, none⟩)] w fun e w' => ∃ ks v, e = .returned v ∧ ks.length = M ∧ ks.Nodup ∧ VRow (fun b => w.heap.size ≤ b ∧ ∀ k, k ∈ ks → ∀ q bx, WBq f k q bx w' → b ≠ k ∧ b ≠ q ∧ b ≠ bx) w' v (ptrs ks) ∧
      (∀ k, k ∈ ks → ∃ q bx, WBq f k q bx w' ∧ w.heap.size ≤ k ∧ w.heap.size ≤ q ∧ w.heap.size ≤ bx) ∧ Still w w' := by
  obtain ⟨i0, hi, hz0, hz1, hz2⟩ := info_parts infoPW
  refine (callsIn_wide (n := 4)).1 ?_
  refine callsIn_of_wp_marks Try.func20 rfl trivial ?_ rfl
  simp only [Try.ntmps20, List.size_toArray, List.length_cons, List.length_nil, Nat.reduceAdd, Nat.reduceSub, Array.replicate_succ, Array.replicate_zero, List.push_toArray, List.append_toArray, List.nil_append, List.cons_append]
  obtain ⟨w0, hw0⟩ : ∃ w0, w0 = w.alloc (.cells #[.slice none 0 0] 49) := ⟨_, rfl⟩
  obtain ⟨C, hC⟩ : ∃ C, C = w.heap.size := ⟨_, rfl⟩
  have k0 : Still w w0 := by rw [hw0]; exact (still_refl w).alloc _
  have n0 : Blk w0 C #[.slice none 0 0] 49 := by rw [hw0, hC]; exact Blk.new _ _ _
  have hf0 := h.still k0
  have hwk := cworkers f w0
  have HW0 := Lib.hid hw0
  have HC := Lib.hid hC
  have K0 := Lib.hid k0
  clear hw0 hC k0
  gi_wp2_with fail
  rw [← HW0.out, ← HC.out]
  refine ⟨trivial, callsIn_wide.2 (hwk.mono ?_)⟩
  rintro e w1 ⟨rfl, k1, b1⟩
  obtain ⟨T, hT⟩ : ∃ T, T = w0.heap.size := ⟨_, rfl⟩
  rw [← hT] at b1 ⊢
  have hCT : C < T := by rw [hT]; exact n0.lt
  have hTz := b1.lt
  have nb := n0.still k1
  have hf1 := hf0.still k1
  have hfC : f < C := by rw [HC.out]; exact h.lt
  have K1 := Lib.hid (K0.out.trans k1)
  have hCw : C ≤ w.heap.size ∧ w.heap.size ≤ C := by rw [HC.out]; exact ⟨Nat.le_refl _, Nat.le_refl _⟩
  clear hT k1 hwk n0 hf0 h
  have hfr : ∀ A B : World, FlB f cf sb sh p g bz A → Looped T w1.heap.size A B → FlB f cf sb sh p g bz B := fun A B h9 k => h9.kept k (by omega)
  gi_wp2_with fail
  refine wpIn_range_x (T := T) rfl (by omega) (gf := 67) (lb := #[.pointer (some ⟨T, 0, none⟩)]) rfl trivial (enters_of Try.func67 (by kernel_rfl) rfl)
    (workers_stops 3 (by omega) (f := f) (p := p) (g := g) (sb := sb) (T := T) (T3 := C) (B0 := w1.heap.size + 2) (cf := cf) (sh := sh) (bz := bz) hM hM2 24) (by omega) (fun W h => h.trans b1) (fun _ => rfl)
    (fun pre W => ∃ v, Blk W C #[v] 49 ∧ W.ownsRow (w1.heap.size + 2) 31 1 v pre.length (ptrs pre) ∧ FlB f cf sb sh p g bz W ∧ pre.Nodup ∧ (∀ k, k ∈ pre → ∃ q bx, WBq f k q bx W ∧ w1.heap.size + 2 ≤ k ∧ w1.heap.size + 2 ≤ q ∧ w1.heap.size + 2 ≤ bx) ∧
      (∀ b, v.ownBlock = some b → ∀ k, k ∈ pre → ∀ q bx, WBq f k q bx W → b ≠ k ∧ b ≠ q ∧ b ≠ bx) ∧ Kept (fun k => k = C ∨ k = T ∨ w1.heap.size ≤ k) w1 W)
    (fun c pre W => False)
    (fun s W hz h => by
      obtain ⟨v, h1, h2, h3, h4, h5, h6, h7⟩ := h
      exact ⟨h3, fun k hk => by obtain ⟨q, bx, h8, -⟩ := h5 k hk; exact h8.b1.lt, h1.lt, by omega, fun b hb => by
        unfold rowB at hb
        rw [h1.cell 0] at hb
        exact owns_lt h2 b hb, hz⟩)
    (fun s A B h k => by
      obtain ⟨v, h1, h2, h3, h4, h5, h6, h7⟩ := h
      refine ⟨v, h1.kept k (by omega), owns_kept h2 k (by omega), hfr _ _ h3 k, h4, fun j hj => ?_, fun b hb j hj q bx hw => ?_, h7.step k (fun i hi h => by omega)⟩
      · obtain ⟨q, bx, g1, g2, g3, g4⟩ := h5 j hj
        exact ⟨q, bx, g1.kept k (by omega) (by omega) (by omega), g2, g3, g4⟩
      · obtain ⟨q', bx', g1, g2, g3, g4⟩ := h5 j hj
        obtain ⟨rfl, rfl⟩ := (g1.kept k (by omega) (by omega) (by omega)).uniq hw
        exact h6 b hb j hj _ _ g1)
    (fun c s A B h k => h.elim)
    (fun pre x A B h hx k => by
      obtain ⟨v, h1, -⟩ := h
      obtain ⟨g0, q, bx, g1, g2, g3, g4, g5⟩ := hx
      exact ⟨g0, q, bx, g1.kept k (by omega) (by omega) (by omega), g2, g3, g4, fun b hb => g5 b (by rw [rowB_kept k h1.lt (by omega)] at hb; exact hb)⟩)
    ⟨_, nb, World.ownsRow_nil _ _ _ _, hf1, List.nodup_nil, fun k hk => by simp at hk, fun b hb => by simp [Value.ownBlock] at hb, Kept.refl _ _⟩
    (fun x => { tmps := #[.pointer (some ⟨f, 0, none⟩), undef, .slice none 0 0, .pointer (some ⟨C, 0, none⟩), .pointer (some ⟨x, 0, none⟩), .pointer (some ⟨f, 0, none⟩), .func (.func 67) #[] #[.pointer (some ⟨T, 0, none⟩)], .pointer (some ⟨x, 0, none⟩), undef, undef, undef, undef, undef], defers := [] }) ?assign ?body ?done ?stop
  case assign =>
    intro l x W K hK
    simp only [encW]
    gi_wp2
    exact hK
  case body =>
    rintro l pre x W hsz ⟨v, hb, ho, hfl, hnd, hws, hrow, hw⟩ hx - hpl
    obtain ⟨g0, q, bx, g1, g2, g3, g4, g5⟩ := hx
    have hrb : ∀ b, v.ownBlock = some b → rowB C W = some b := fun b h9 => by unfold rowB; rw [hb.cell 0]; exact h9
    have f0 := hb.free 0
    have c0 : W.cell? ⟨C, 0, none⟩ = some v := hb.cell 0
    have hoa : (W.alloc (.cells #[.pointer (some ⟨x, 0, none⟩)] 31)).ownsRow (w1.heap.size + 2) 31 1 v pre.length (ptrs pre) := owns_kept ho ((Kept.refl (fun _ => False) W).alloc _) (fun _ _ _ f => f)
    have hfW := hfl.lt
    have HFL := Lib.hid hfl
    have HWS := Lib.hid hws
    have HROW := Lib.hid hrow
    have HG := Lib.hid (And.intro g0 (And.intro g1 (And.intro g2 (And.intro g3 (And.intro g4 g5)))))
    have HOW := Lib.hid ho
    have HRB := Lib.hid hrb
    have HND := Lib.hid hnd
    have HHW := Lib.hid hw
    clear hfl hws hrow g0 g1 g2 g3 g4 g5 ho hrb hnd hw
    gi_wp2_with (first | (gi_at_builtin; refine wpListIn_append _ rfl _ _ 49 rfl (w1.heap.size + 2) 31 i0 (.pointer none) 1 8 Try.underlying49 hi hz0 hz1 hz2 rfl (by decide) _ _ _ rfl (hoa) ⟨W.heap.size, 0, none⟩ 1 1 [.pointer (some ⟨x, 0, none⟩)] rfl rfl (by intro j u hj; match j, hj with | 0, hj => simp at hj; subst hj; first | (simp [Addr.add]; done) | exact (Blk.newAt _ _ _ (by simp)).cell 0) (by intro u hu; simp at hu; subst hu; rfl) (by unfold maxLen; omega) (by omega) (by first | omega | (simp; omega) | simp) ?_) | fail)
    intro v' w2 hap
    have hk2 : Kept (fun b => v.ownBlock = some b) W w2 := ((Kept.refl _ W).alloc _).grown hap.grown (fun k e _ => e)
    have hvb : ∀ b, v.ownBlock = some b → w1.heap.size + 2 ≤ b ∧ b < W.heap.size := fun b h9 => ⟨owns_block HOW.out b h9, owns_lt HOW.out b h9⟩
    have hb2 := hb.kept hk2 (fun h9 => by have := hvb _ h9; omega)
    have f2 := hb2.free 0
    have c2 := hb2.cell 0
    obtain ⟨a', c', rfl⟩ := owns_slice hap.owns
    have HAP := Lib.hid hap
    clear hap hoa
    gi_wp2
    have hap := HAP.out
    obtain ⟨g0, g1, g2, g3, g4, g5⟩ := HG.out
    have kC : Kept (fun y => y = C) w2 (w2.setCell ⟨C, 0, none⟩ (.slice a' (pre.length + 1) c')) := (only_refl C w2).put 0 _
    have kWC : Kept (fun b => v.ownBlock = some b ∨ b = C) W (w2.setCell ⟨C, 0, none⟩ (.slice a' (pre.length + 1) c')) := (hk2.mono (fun _ _ h => .inl h)).step kC (fun _ _ h => .inr h)
    have hgx : WBq f x q bx (w2.setCell ⟨C, 0, none⟩ (.slice a' (pre.length + 1) c')) := g1.kept kWC
      (fun h9 => h9.elim (fun h9 => (g5 _ (HRB.out _ h9)).1 rfl) (fun h9 => by omega))
      (fun h9 => h9.elim (fun h9 => (g5 _ (HRB.out _ h9)).2.1 rfl) (fun h9 => by omega))
      (fun h9 => h9.elim (fun h9 => (g5 _ (HRB.out _ h9)).2.2 rfl) (fun h9 => by omega))
    have hgk : ∀ k, k ∈ pre → ∃ q bx, WBq f k q bx W ∧ WBq f k q bx (w2.setCell ⟨C, 0, none⟩ (.slice a' (pre.length + 1) c')) ∧ w1.heap.size + 2 ≤ k ∧ w1.heap.size + 2 ≤ q ∧ w1.heap.size + 2 ≤ bx := fun k hk => by
      obtain ⟨q', bx', e1, e2, e3, e4⟩ := HWS.out k hk
      exact ⟨q', bx', e1, e1.kept kWC
        (fun h9 => h9.elim (fun h9 => (HROW.out _ h9 k hk _ _ e1).1 rfl) (fun h9 => by omega))
        (fun h9 => h9.elim (fun h9 => (HROW.out _ h9 k hk _ _ e1).2.1 rfl) (fun h9 => by omega))
        (fun h9 => h9.elim (fun h9 => (HROW.out _ h9 k hk _ _ e1).2.2 rfl) (fun h9 => by omega)), e2, e3, e4⟩
    refine ⟨kWC.mono (fun k h1 h2 => ?_), .slice a' (pre.length + 1) c', hb2.set' rfl, ?_, HFL.out.kept kWC (fun h9 => ?_), ?_, ?_, ?_, ?_⟩
    · rcases h2 with h2 | h2
      · have := hvb _ h2; omega
      · omega
    · rw [List.length_append, List.length_singleton]
      have e9 : ptrs (pre ++ [x]) = ptrs pre ++ [.pointer (some ⟨x, 0, none⟩)] := by unfold ptrs; simp
      rw [e9]
      exact owns_kept hap.owns kC (fun b h1 _ h2 => by omega)
    · rcases h9 with h9 | h9
      · have := hvb _ h9; omega
      · omega
    · rw [List.nodup_append]
      exact ⟨HND.out, by simp, fun a ha b hb9 e => by simp at hb9; subst hb9; exact g0 (e ▸ ha)⟩
    · intro k hk
      rcases List.mem_append.1 hk with hk | hk
      · obtain ⟨q', bx', -, e1, e2, e3, e4⟩ := hgk k hk
        exact ⟨q', bx', e1, e2, e3, e4⟩
      · simp at hk
        subst hk
        exact ⟨q, bx, hgx, g2, g3, g4⟩
    · intro b hb9 k hk q9 bx9 hw9
      have hb8 := hap.block b hb9
      rcases List.mem_append.1 hk with hk | hk
      · obtain ⟨q', bx', e0, e1, e2, e3, e4⟩ := hgk k hk
        obtain ⟨rfl, rfl⟩ := e1.uniq hw9
        rcases hb8 with hb8 | hb8
        · exact HROW.out _ hb8 k hk _ _ e0
        · have h1 := e0.b1.lt; have h2 := e0.b2.lt; have h3 := e0.b3.lt
          simp at hb8; omega
      · simp at hk
        subst hk
        obtain ⟨rfl, rfl⟩ := hgx.uniq hw9
        rcases hb8 with hb8 | hb8
        · exact g5 _ (HRB.out _ hb8)
        · have h1 := g1.b1.lt; have h2 := g1.b2.lt; have h3 := g1.b3.lt
          simp at hb8; omega
    · exact HHW.out.step kWC (fun i hi h9 => by
        rcases h9 with h9 | h9
        · have := hvb _ h9; omega
        · omega)
  case done =>
    rintro ks W hks ⟨v, hb, ho, hfl, hnd, hws, hrow, hw⟩ hK
    have c0 : W.cell? ⟨C, 0, none⟩ = some v := hb.cell 0
    have k2 := Kept.putObj (S := fun k => k = w1.heap.size) (l := w1.heap.size) (Kept.refl _ W) (.deferred none) rfl
    have HFL := Lib.hid hfl
    have HWS := Lib.hid hws
    have HROW := Lib.hid hrow
    have HOW := Lib.hid ho
    have HND := Lib.hid hnd
    have HHW := Lib.hid hw
    clear hfl hws hrow ho hnd hw
    gi_wp2
    refine ⟨by simp, .inl ⟨_, _, rfl, run_takeDeferred hK, ?_⟩⟩
    have how := owns_kept HOW.out k2 (fun b h1 _ h2 => by omega)
    refine ⟨v, ?_, ks, v, rfl, hks, HND.out, ?_, fun k hk => ?_, ?_⟩
    · simp [results, Try.f20, go_sem]
    · obtain ⟨a, cap, hv, hl, hm, h0⟩ := VRow.of_owns how
      refine ⟨a, cap, hv, hl, hm, fun hp => ?_⟩
      obtain ⟨b, o, ha, hb9, hq, hc⟩ := h0 hp
      refine ⟨b, o, ha, hb9, ⟨by omega, fun k hk q bx hw9 => ?_⟩, hc⟩
      obtain ⟨q', bx', e1, e2, e3, e4⟩ := HWS.out k hk
      obtain ⟨rfl, rfl⟩ := (e1.kept k2 (by omega) (by omega) (by omega)).uniq hw9
      exact HROW.out b (by rw [hv, ha]; rfl) k hk _ _ e1
    · obtain ⟨q, bx, e1, e2, e3, e4⟩ := HWS.out k hk
      exact ⟨q, bx, e1.kept k2 (by omega) (by omega) (by omega), by omega, by omega, by omega⟩
    · exact Kept.step K1.out (HHW.out.step k2 (fun i hi h => by omega)) (fun i hi h => by omega)
  case stop =>
    rintro c pre W hp h
    exact h.elim
end Go.Proofs.Ytbikganlloopbaa
