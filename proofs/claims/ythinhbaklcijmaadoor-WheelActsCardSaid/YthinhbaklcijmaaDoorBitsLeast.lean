/-
  What stands here: the least slot from one on, and round the end, by the program. Under the condition that the library's table is as its initialiser lays it.
-/
import Derived.Test.YthinhbaklcijmaaDoorBitsAll
namespace Go.Proofs.YthinhbaklcijmaaDoor
set_option linter.unusedVariables false
set_option linter.unusedSimpArgs false
open Go.RowKit Go.Proofs
attribute [local go_sem] Oper.semAt_some

theorem fromL_some {l p : List Nat} {x : Nat} {s : Int} (h : p ++ [x] <+: l) (hp : ∀ y ∈ p, ¬ s ≤ (y : Int)) (hx : s ≤ (x : Int)) : fromL l s = x := by
  obtain ⟨t, rfl⟩ := h
  unfold fromL
  rw [List.append_assoc, List.find?_append, List.find?_eq_none.2 (fun y hy => by simpa using hp y hy)]
  simp [hx]
theorem fromL_none {l : List Nat} {s : Int} (hp : ∀ y ∈ l, ¬ s ≤ (y : Int)) : fromL l s = -1 := by
  unfold fromL
  rw [List.find?_eq_none.2 (fun y hy => by simpa using hp y hy)]

set_option maxHeartbeats 1000000 in
theorem from_any (m : Nat) (hm : m < 18446744073709551616) (s : Int) (w : World) (hT : Tab w) :
    Calls Tryd.prog 48 #[.int .u64 m, .int .i64 s] w fun e w' => e = .returned (.int .i64 (fromL (slots m) s)) ∧ Below w.heap.size w w' := by
  have hpos := hT.lt
  refine (callsIn_wide (n := 4)).1 ?_
  refine callsIn_of_wp_marks Tryd.func48 rfl trivial ?_ rfl
  simp only [Tryd.ntmps48, List.size_toArray, List.length_cons, List.length_nil, Nat.reduceAdd, Nat.reduceSub, Array.replicate_succ, Array.replicate_zero, List.push_toArray, List.append_toArray, List.nil_append, List.cons_append]
  gi_wp2_with fail
  refine ⟨trivial, callsIn_wide.2 ((ball_of m _).mono ?_)⟩
  rintro e w1 ⟨rfl, k1, b1⟩
  have bS0 : Blk w1 w.heap.size #[.int .i64 s] 3 := ((Blk.new w _ _).alloc _).still k1
  have bR0 : Blk w1 (w.heap.size + 1) #[.int .i64 0] 3 := (Blk.newAt (w.alloc (.cells #[.int .i64 s] 3)) #[.int .i64 0] 3 (by simp)).still k1
  have kw : Below w.heap.size w w1 := below_still ((((Below.refl _ w).alloc (Nat.le_refl _) _)).alloc (by simp) _) k1 (Nat.le_refl _)
  rw [World.size_alloc, World.size_alloc] at *
  have z1 := b1.lt
  have hT1 := hT.below kw hpos
  gi_wp2_with fail
  have hown : ∀ (A B : World) (c : Array Value) (X : Nat) (T : TypeId), Looped (w.heap.size + 1 + 1) w1.heap.size A B → Blk A X c T → X ≠ w.heap.size + 1 + 1 → X < w1.heap.size → Blk B X c T := fun A B c X T h hb hne hlt => hb.kept h (by omega)
  have hbel : ∀ A B : World, Looped (w.heap.size + 1 + 1) w1.heap.size A B → Below w.heap.size w A → Below w.heap.size w B := fun A B h hb => below_step hb h (Nat.le_refl _) (by omega)
  refine wpIn_range_cell (T := w.heap.size + 1 + 1) rfl (by omega) (gf := 65) (lb := #[.pointer (some ⟨w.heap.size + 1 + 1, 0, none⟩)]) rfl trivial (enters_of Tryd.func65 (by kernel_rfl) rfl)
    (ball_stops 3 (by omega) (w.heap.size + 1 + 1) m hm 100) z1 (fun W h => h.trans b1) (fun _ => rfl)
    (fun pre W => (∀ x ∈ pre, ¬ s ≤ (x : Int)) ∧ Blk W w.heap.size #[.int .i64 s] 3 ∧ Blk W (w.heap.size + 1) #[.int .i64 0] 3 ∧ Below w.heap.size w W)
    (fun c pre W => c = .ret ∧ ∃ (p : List Nat) (x : Nat), pre = p ++ [x] ∧ (∀ y ∈ p, ¬ s ≤ (y : Int)) ∧ s ≤ (x : Int) ∧ Blk W (w.heap.size + 1) #[.int .i64 x] 3 ∧ Below w.heap.size w W)
    (fun s' W h => hT.below h.2.2.2 hpos)
    (fun s' A B h k => ⟨h.1, hown _ _ _ _ _ k h.2.1 (by omega) (by omega), hown _ _ _ _ _ k h.2.2.1 (by omega) (by omega), hbel _ _ k h.2.2.2⟩)
    (fun c s' A B h k => by
      obtain ⟨hc, p, x, h1, h2, h3, h4, h5⟩ := h
      exact ⟨hc, p, x, h1, h2, h3, hown _ _ _ _ _ k h4 (by omega) (by omega), hbel _ _ k h5⟩)
    ⟨by simp, bS0, bR0, kw⟩
    (fun x => { tmps := #[.int .u64 m, .int .i64 s, undef, .pointer (some ⟨w.heap.size, 0, none⟩), .pointer (some ⟨w.heap.size + 1, 0, none⟩), .int .i64 x, .int .u64 m, .func (.func 65) #[] #[.pointer (some ⟨w.heap.size + 1 + 1, 0, none⟩)], .int .i64 x, undef, undef, undef, undef], defers := [] }) ?assign ?body ?done ?stop
  case assign =>
    intro l x W K hK
    simp only [encS]
    gi_wp2
    exact hK
  case body =>
    rintro l pre x W hsz ⟨hp, hs, hb, hw⟩ _ _
    have f0 := hb.free 0
    have c0 := hb.cell 0
    have cs := hs.cell 0
    gi_wp2
    · rename_i hx
      exact ⟨Kept.setCell (Kept.refl _ W) (fun _ => ⟨by simp only; omega, by simp only; omega, by simp only; omega⟩) _, rfl, pre, x, rfl, hp, by simpa using hx, hb.set 0 _, hw.setCell (p := ⟨w.heap.size + 1, 0, none⟩) (by simp only; omega) _⟩
    · rename_i hx
      refine ⟨Kept.refl _ W, fun y hy => ?_, hs, hb, hw⟩
      rcases List.mem_append.1 hy with hy | hy
      · exact hp y hy
      · obtain rfl := List.mem_singleton.1 hy
        simpa using hx
  case done =>
    rintro xs W hxs ⟨hp, hs, hb, hw⟩ hK
    have f0 := hb.free 0
    have c0 := hb.cell 0
    subst hxs
    gi_wp2
    have hK' : (W.setCell ⟨w.heap.size + 1, 0, none⟩ (.int .i64 (-1))).heap[w1.heap.size]? = some (.deferred (some [])) := (Below.heap_setCell W _ _ _ (by simp only; omega)).trans hK
    have hb2 := (hb.set 0 (.int .i64 (-1))).kept (Kept.putObj (S := fun k => k = w1.heap.size) (l := w1.heap.size) (Kept.refl _ _) (.deferred none) rfl) (by omega)
    have c2 := hb2.cell 0
    refine ⟨by simp, .inl ⟨_, _, rfl, run_takeDeferred hK', ?_⟩⟩
    refine ⟨.int .i64 (-1), ?_, ret_int (fromL_none (fun y hy => by have := hp y hy; omega)).symm, below_step (hw.setCell (p := ⟨w.heap.size + 1, 0, none⟩) (by simp only; omega) _) (Kept.putObj (S := fun k => k = w1.heap.size) (l := w1.heap.size) (Kept.refl _ _) (.deferred none) rfl) (Nat.le_refl _) (by omega)⟩
    simp [results, Tryd.f48, go_sem, c2]
  case stop =>
    rintro c pre W hpre ⟨rfl, p, x, rfl, hp, hx, hb, hw⟩ hK
    have c0 := hb.cell 0
    gi_wp2
    have hb2 := hb.kept (Kept.putObj (S := fun k => k = w1.heap.size) (l := w1.heap.size) (Kept.refl _ W) (.deferred none) rfl) (by omega)
    have c2 := hb2.cell 0
    refine ⟨by simp, .inl ⟨_, _, rfl, run_takeDeferred hK, ?_⟩⟩
    refine ⟨.int .i64 x, ?_, ret_int (fromL_some hpre (fun y hy => by have := hp y hy; omega) hx).symm, below_step hw (Kept.putObj (S := fun k => k = w1.heap.size) (l := w1.heap.size) (Kept.refl _ _) (.deferred none) rfl) (Nat.le_refl _) (by omega)⟩
    simp [results, Tryd.f48, go_sem, c2]
/-- round the end -/
def roundL (l : List Nat) (s : Int) : Int := if 0 ≤ fromL l s then fromL l s else fromL l 0
end Go.Proofs.YthinhbaklcijmaaDoor
