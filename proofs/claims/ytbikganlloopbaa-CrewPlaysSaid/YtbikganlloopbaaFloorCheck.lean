/-
  What stands here: a config's bounds, gone through. Under the condition that they hold.
-/
import Derived.Test.YtbikganlloopbaaLib
import Derived.Test.YtbikganlloopbaaRangeQ
import Derived.Shelf.Abstract
import Derived.Shelf.RegionOpen
import Derived.WalkKit
import Derived.OwnWalkIn
import Derived.TacticsInMore
import Derived.LoopNIn
import Derived.LoopIn
namespace Go.Proofs.Ytbikganlloopbaa
set_option linter.unusedVariables false
set_option linter.unusedSimpArgs false
open Go.RowKit Go.Proofs
attribute [local go_sem] Oper.semAt_some
/-- how much may be -/
def mxB (i : Nat) : Int := match i with
  | 0 => 4
  | 1 => 64
  | 2 => 64
  | 3 => 16
  | 4 => 4
  | _ => 8
def encB (cf : Nat → Int) (i : Nat) : Array Value := #[.int .i64 (cf i), .int .i64 (mxB i)]
abbrev cfgC (cf : Nat → Int) : Array Value := #[.int .i64 (cf 0), .int .i64 (cf 1), .int .i64 (cf 2), .int .i64 (cf 3), .int .i64 (cf 4), .int .i64 (cf 5)]
set_option maxHeartbeats 2000000 in
theorem bounds_stops (n : Nat) (hn : 1 ≤ n) (T B : Nat) (cf : Nat → Int) (tt : TypeId) :
    IterC Fence.wide n Try.prog 70 #[.pointer (some ⟨B, 0, none⟩)] (encB cf) (fun ys => ys = [0, 1, 2, 3, 4, 5]) (fun pre => pre <+: [0, 1, 2, 3, 4, 5]) 6 T (fun W => Blk W T (cfgC cf) tt) (fun _ W => Blk W B (cfgC cf) tt) := by
  intro li J Jx W hT hQ hJ hJx hY h0
  have hlt0 := hT.lt
  refine callsIn_of_wp Try.func70 rfl trivial ?_ rfl
  simp only [Try.ntmps70, List.size_toArray, List.length_cons, List.length_nil, Nat.reduceAdd, Nat.reduceSub, Array.replicate_succ, Array.replicate_zero, List.push_toArray, List.append_toArray, List.nil_append, List.cons_append]
  obtain ⟨fn0, tm0, as0, bo0, hy0, hR0⟩ := hY [] 0 W h0 (hlt0) ⟨_, rfl⟩ (by decide)
  simp only [encB, mxB] at hy0
  have b0 := hQ _ _ h0
  have c0 : (W).cell? ⟨B, 0, none⟩ = some (.int .i64 (cf 0)) := b0.cell 0
  clear b0
  gi_wp2
  refine hR0.mono ?_
  rintro e W1 (⟨rfl, hJ1, hk1⟩ | ⟨rfl, hJx⟩)
  · have hlt1 : T < W1.heap.size := Nat.lt_of_lt_of_le hlt0 hk1.size
    clear c0 hy0 hR0 hk1
    obtain ⟨fn1, tm1, as1, bo1, hy1, hR1⟩ := hY [0] 1 W1 hJ1 (hlt1) ⟨_, rfl⟩ (by decide)
    simp only [encB, mxB] at hy1
    have b1 := hQ _ _ hJ1
    have c1 : (W1).cell? ⟨B, 1, none⟩ = some (.int .i64 (cf 1)) := b1.cell 1
    clear b1
    gi_wp2
    refine hR1.mono ?_
    rintro e W2 (⟨rfl, hJ2, hk2⟩ | ⟨rfl, hJx⟩)
    · have hlt2 : T < W2.heap.size := Nat.lt_of_lt_of_le hlt1 hk2.size
      clear c1 hy1 hR1 hk2
      obtain ⟨fn2, tm2, as2, bo2, hy2, hR2⟩ := hY [0, 1] 2 W2 hJ2 (hlt2) ⟨_, rfl⟩ (by decide)
      simp only [encB, mxB] at hy2
      have b2 := hQ _ _ hJ2
      have c2 : (W2).cell? ⟨B, 2, none⟩ = some (.int .i64 (cf 2)) := b2.cell 2
      clear b2
      gi_wp2
      refine hR2.mono ?_
      rintro e W3 (⟨rfl, hJ3, hk3⟩ | ⟨rfl, hJx⟩)
      · have hlt3 : T < W3.heap.size := Nat.lt_of_lt_of_le hlt2 hk3.size
        clear c2 hy2 hR2 hk3
        obtain ⟨fn3, tm3, as3, bo3, hy3, hR3⟩ := hY [0, 1, 2] 3 W3 hJ3 (hlt3) ⟨_, rfl⟩ (by decide)
        simp only [encB, mxB] at hy3
        have b3 := hQ _ _ hJ3
        have c3 : (W3).cell? ⟨B, 3, none⟩ = some (.int .i64 (cf 3)) := b3.cell 3
        clear b3
        gi_wp2
        refine hR3.mono ?_
        rintro e W4 (⟨rfl, hJ4, hk4⟩ | ⟨rfl, hJx⟩)
        · have hlt4 : T < W4.heap.size := Nat.lt_of_lt_of_le hlt3 hk4.size
          clear c3 hy3 hR3 hk4
          obtain ⟨fn4, tm4, as4, bo4, hy4, hR4⟩ := hY [0, 1, 2, 3] 4 W4 hJ4 (hlt4) ⟨_, rfl⟩ (by decide)
          simp only [encB, mxB] at hy4
          have b4 := hQ _ _ hJ4
          have c4 : (W4).cell? ⟨B, 4, none⟩ = some (.int .i64 (cf 4)) := b4.cell 4
          clear b4
          gi_wp2
          refine hR4.mono ?_
          rintro e W5 (⟨rfl, hJ5, hk5⟩ | ⟨rfl, hJx⟩)
          · have hlt5 : T < W5.heap.size := Nat.lt_of_lt_of_le hlt4 hk5.size
            clear c4 hy4 hR4 hk5
            obtain ⟨fn5, tm5, as5, bo5, hy5, hR5⟩ := hY [0, 1, 2, 3, 4] 5 W5 hJ5 (hlt5) ⟨_, rfl⟩ (by decide)
            simp only [encB, mxB] at hy5
            have b5 := hQ _ _ hJ5
            have c5 : (W5).cell? ⟨B, 5, none⟩ = some (.int .i64 (cf 5)) := b5.cell 5
            clear b5
            gi_wp2
            refine hR5.mono ?_
            rintro e W6 (⟨rfl, hJ6, hk6⟩ | ⟨rfl, hJx⟩)
            · have hlt6 : T < W6.heap.size := Nat.lt_of_lt_of_le hlt5 hk6.size
              clear c5 hy5 hR5 hk6
              gi_wp2
              go_end0
              exact ⟨⟨_, rfl⟩, .inl ⟨_, rfl, hJ6⟩⟩
            · gi_wp2
              repeat (refine ⟨fun _ h => (by cases h), ?_⟩; gi_wp2)
              go_end0
              exact ⟨⟨_, rfl⟩, .inr ⟨_, ⟨_, rfl⟩, hJx⟩⟩
          · gi_wp2
            repeat (refine ⟨fun _ h => (by cases h), ?_⟩; gi_wp2)
            go_end0
            exact ⟨⟨_, rfl⟩, .inr ⟨_, ⟨_, rfl⟩, hJx⟩⟩
        · gi_wp2
          repeat (refine ⟨fun _ h => (by cases h), ?_⟩; gi_wp2)
          go_end0
          exact ⟨⟨_, rfl⟩, .inr ⟨_, ⟨_, rfl⟩, hJx⟩⟩
      · gi_wp2
        repeat (refine ⟨fun _ h => (by cases h), ?_⟩; gi_wp2)
        go_end0
        exact ⟨⟨_, rfl⟩, .inr ⟨_, ⟨_, rfl⟩, hJx⟩⟩
    · gi_wp2
      repeat (refine ⟨fun _ h => (by cases h), ?_⟩; gi_wp2)
      go_end0
      exact ⟨⟨_, rfl⟩, .inr ⟨_, ⟨_, rfl⟩, hJx⟩⟩
  · gi_wp2
    repeat (refine ⟨fun _ h => (by cases h), ?_⟩; gi_wp2)
    go_end0
    exact ⟨⟨_, rfl⟩, .inr ⟨_, ⟨_, rfl⟩, hJx⟩⟩
theorem fbounds (cf : Nat → Int) (w : World) : Calls Try.prog 50 #[.agg (cfgC cf)] w fun e w' => e = .returned (.func (.func 70) #[] #[.pointer (some ⟨w.heap.size, 0, none⟩)]) ∧ Still w w' ∧ Blk w' w.heap.size (cfgC cf) 29 := by
  go_enter Try.func50, Try.ntmps50
  go_wp2
  go_ret
  exact ⟨rfl, by (repeat (first | (with_reducible exact Kept.refl _ _) | (with_reducible refine Kept.drewN ?_ _) | (with_reducible refine Kept.drew ?_) | (with_reducible refine Kept.put ?_ _ _) | (with_reducible refine Kept.alloc ?_ _))), Blk.new _ _ _⟩
set_option maxHeartbeats 1000000 in
theorem fcheck_ok (cf : Nat → Int) (w : World) (hc : ∀ i, i < 6 → 1 ≤ cf i ∧ cf i ≤ mxB i) :
    Calls Try.prog 29 #[.agg (cfgC cf)] w fun e w' => e = .returned (.int .i64 0) ∧ Below w.heap.size w w' := by
  have b0 : Blk (w.alloc (.cells (cfgC cf) 29)) w.heap.size (cfgC cf) 29 := Blk.new w _ _
  have b0' := b0.alloc (.cells #[.int .i64 0] 25)
  have e0 : Blk ((w.alloc (.cells (cfgC cf) 29)).alloc (.cells #[.int .i64 0] 25)) (w.heap.size + 1) #[.int .i64 0] 25 := Blk.newAt _ _ _ (by simp)
  have hb0 : Below w.heap.size w ((w.alloc (.cells (cfgC cf) 29)).alloc (.cells #[.int .i64 0] 25)) := below_still (Below.refl _ w) (((still_refl w).alloc _).alloc _) (Nat.le_refl _)
  have HC := Lib.hid hc
  have B0 := Lib.hid b0'
  have E0 := Lib.hid e0
  have HB := Lib.hid hb0
  clear b0 b0' e0 hb0 hc
  refine (callsIn_wide (n := 4)).1 ?_
  refine callsIn_of_wp_marks Try.func29 rfl trivial ?_ rfl
  simp only [Try.ntmps29, List.size_toArray, List.length_cons, List.length_nil, Nat.reduceAdd, Nat.reduceSub, Array.replicate_succ, Array.replicate_zero, List.push_toArray, List.append_toArray, List.nil_append, List.cons_append]
  gi_wp2_with fail
  refine ⟨trivial, callsIn_wide.2 ((fbounds cf _).mono ?_)⟩
  rintro e w1 ⟨rfl, k1, b1⟩
  have bA := B0.out.still k1
  have bE := E0.out.still k1
  have kw := below_still HB.out k1 (by simp)
  have hz1 := b1.lt
  simp only [World.size_alloc] at hz1 b1
  have hz2 : w.heap.size + 1 + 1 < w1.heap.size := hz1
  gi_wp2_with fail
  refine wpIn_range_cell (T := w.heap.size) rfl (by omega) (gf := 70) (lb := #[.pointer (some ⟨w.heap.size + 1 + 1, 0, none⟩)]) rfl trivial (enters_of Try.func70 (by kernel_rfl) rfl)
    (bounds_stops 3 (by omega) w.heap.size (w.heap.size + 1 + 1) cf 29) (by omega) (fun W h => h.trans bA) (fun _ => rfl)
    (fun pre W => Blk W (w.heap.size + 1 + 1) (cfgC cf) 29 ∧ Blk W (w.heap.size + 1) #[.int .i64 0] 25 ∧ Below w.heap.size w W)
    (fun c pre W => False)
    (fun pre W h => h.1)
    (fun pre A B h k => ⟨Blk.kept h.1 k (by omega), Blk.kept h.2.1 k (by omega), below_step h.2.2 k (Nat.le_refl _) (fun i hi h => by omega)⟩)
    (fun c s A B h k => h.elim)
    ⟨b1, bE, kw⟩
    (fun x => { tmps := #[.agg (cfgC cf), .pointer (some ⟨w.heap.size, 0, none⟩), .pointer (some ⟨w.heap.size + 1, 0, none⟩), .int .i64 (cf x), .int .i64 (mxB x), .agg (cfgC cf), .func (.func 70) #[] #[.pointer (some ⟨w.heap.size + 1 + 1, 0, none⟩)], .int .i64 (cf x), .int .i64 (mxB x), undef, undef, undef, undef, undef, undef, undef], defers := [] }) ?assign ?body ?done ?stop
  case assign =>
    intro l x W K hK
    simp only [encB]
    gi_wp2
    exact hK
  case body =>
    rintro l' pre x W hsz hI ⟨rest, he⟩ hpl
    have hx6 : x < 6 := by
      have hm : x ∈ [0, 1, 2, 3, 4, 5] := by rw [← he]; simp
      simp at hm; omega
    obtain ⟨h1, h2⟩ := HC.out x hx6
    obtain ⟨z, hz⟩ : ∃ z, z = cf x := ⟨_, rfl⟩
    obtain ⟨m, hm⟩ : ∃ m, m = mxB x := ⟨_, rfl⟩
    rw [← hz] at h1 h2 ⊢
    rw [← hm] at h2 ⊢
    have hd1 : ¬ z < 1 := by omega
    have hd2 : ¬ m < z := by omega
    gi_wp2
    exact ⟨Kept.refl _ _, hI⟩
  case done =>
    rintro ys W hys ⟨hb, he, hw⟩ hK
    have f0 := he.free 0
    have c0 : W.cell? ⟨w.heap.size + 1, 0, none⟩ = some (.int .i64 0) := he.cell 0
    obtain ⟨W2, hW2⟩ : ∃ W2, W2 = W.setCell ⟨w.heap.size + 1, 0, none⟩ (.int .i64 0) := ⟨_, rfl⟩
    have k2 : Kept (fun k => k = w.heap.size + 1) W W2 := by rw [hW2]; exact Kept.setCell (S := fun k => k = w.heap.size + 1) (Kept.refl _ _) (fun _ => rfl) _
    have b2 : Blk W2 (w.heap.size + 1) (#[Value.int .i64 0].setIfInBounds 0 (.int .i64 0)) 25 := by rw [hW2]; exact he.set 0 (.int .i64 0)
    have hK2 : W2.heap[w1.heap.size]? = some (.deferred (some [])) := (k2.block _ (lt_of_block hK) (by omega)).trans hK
    have hk3 := Kept.putObj (S := fun k => k = w1.heap.size) (l := w1.heap.size) (Kept.refl _ W2) (.deferred none) rfl
    have b3 := b2.kept hk3 (by omega)
    have p0 := b3.cell 0
    have p0' : (W2.putObj w1.heap.size (.deferred none)).cell? ⟨w.heap.size + 1, 0, none⟩ = some (.int .i64 0) := p0
    have HW2 := Lib.hid hW2
    clear hW2 p0
    gi_wp2
    rw [← HW2.out]
    refine ⟨by simp, .inl ⟨_, _, rfl, run_takeDeferred hK2, ?_⟩⟩
    refine ⟨.int .i64 0, ?_, rfl, below_step (below_step hw k2 (Nat.le_refl _) (fun i hi h => by omega)) hk3 (Nat.le_refl _) (fun i hi h => by omega)⟩
    simp [results, Try.f29, go_sem, p0']
  case stop =>
    rintro c pre W hp h
    exact h.elim
end Go.Proofs.Ytbikganlloopbaa
