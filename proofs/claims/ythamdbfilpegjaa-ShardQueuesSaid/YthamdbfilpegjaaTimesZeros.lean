/-
  What stands here: how many of a time's lowest digits are 0, and all digits, by the program. Under no condition.
-/
import Derived.Test.YthamdbfilpegjaaTimesAll
namespace Go.Proofs.Ythamdbfilpegjaa
set_option linter.unusedVariables false
set_option linter.unusedSimpArgs false
open Go.RowKit Go.Proofs
attribute [local go_sem] Oper.semAt_some

/-- k is how many of t's lowest digits are 0 -/
def ZerosIs (t : Int) (k : Nat) : Prop := k ≤ 11 ∧ (∀ i, i < k → dg t i = 0) ∧ (k < 11 → dg t k ≠ 0)

theorem dgs_len (t : Int) (k : Nat) : (dgs t k).length = k := by simp [dgs]
theorem dgs_last {t : Int} {p : List (Nat × Int)} {k : Nat} {d : Int} (h : p ++ [(k, d)] <+: dgs t 11) : k < 11 ∧ d = dg t k ∧ p = dgs t k := by
  have hl := h.length_le
  rw [dgs_len, List.length_append] at hl
  simp only [List.length_cons, List.length_nil] at hl
  have h1 := List.prefix_iff_eq_take.1 h
  have h2 := List.prefix_iff_eq_take.1 (dgs_pre t (show p.length + 1 ≤ 11 by omega))
  rw [dgs_len] at h2
  rw [List.length_append] at h1
  simp only [List.length_cons, List.length_nil] at h1
  rw [Nat.zero_add, ← h2, dgs_succ] at h1
  obtain ⟨h3, h4⟩ := List.append_inj' h1 rfl
  simp only [List.cons.injEq, Prod.mk.injEq, and_true] at h4
  obtain ⟨h4, h5⟩ := h4
  rw [h4]
  exact ⟨by omega, h5, h3⟩
theorem dgs_zero {t : Int} {k : Nat} (h : ∀ x ∈ dgs t k, x.2 = 0) : ∀ i, i < k → dg t i = 0 := fun i hi => h (i, dg t i) (by unfold dgs; exact List.mem_map.2 ⟨i, List.mem_range.2 hi, rfl⟩)

set_option maxHeartbeats 1000000 in
theorem zeros_any (t : Int) (ht : 0 ≤ t ∧ t < 18446744073709551616) (w : World) :
    Calls Try.prog 48 #[.int .u64 t] w fun e w' => ∃ k : Nat, ZerosIs t k ∧ e = .returned (.int .i64 k) ∧ Below w.heap.size w w' := by
  refine (callsIn_wide (n := 3)).1 ?_
  refine callsIn_of_wp_marks Try.func48 rfl trivial ?_ rfl
  simp only [Try.ntmps48, List.size_toArray, List.length_cons, List.length_nil, Nat.reduceAdd, Nat.reduceSub, Array.replicate_succ, Array.replicate_zero, List.push_toArray, List.append_toArray, List.nil_append, List.cons_append]
  gi_wp2_with fail
  refine ⟨trivial, callsIn_wide.2 ((all_of t _).mono ?_)⟩
  rintro e w1 ⟨rfl, k1, b1⟩
  have bR0 : Blk w1 w.heap.size #[.int .i64 0] 3 := (Blk.new w _ _).still k1
  have kw : Below w.heap.size w w1 := below_still (((Below.refl _ w).alloc (Nat.le_refl _) _)) k1 (Nat.le_refl _)
  rw [World.size_alloc] at *
  have z1 := b1.lt
  gi_wp2_with fail
  have hown : ∀ (A B : World) (c : Array Value) (X : Nat) (T : TypeId), Looped0 (w.heap.size + 1) w1.heap.size A B → Blk A X c T → X ≠ w.heap.size + 1 → X < w1.heap.size → Blk B X c T := fun A B c X T h hb hne hlt => hb.kept h (by omega)
  have hbel : ∀ A B : World, Looped0 (w.heap.size + 1) w1.heap.size A B → Below w.heap.size w A → Below w.heap.size w B := fun A B h hb => below_step hb h (Nat.le_refl _) (by omega)
  refine wpIn_range_cell0 (T := w.heap.size + 1) rfl (by omega) (gf := 69) (lb := #[.pointer (some ⟨w.heap.size + 1, 0, none⟩)]) rfl trivial (enters_of Try.func69 (by kernel_rfl) rfl)
    (all_stops Fence.wide 2 trivial rfl (by omega) (w.heap.size + 1) t ht 29) z1 (fun W h => h.trans b1) (fun _ => rfl)
    (fun pre W => (∀ x ∈ pre, x.2 = 0) ∧ Blk W w.heap.size #[.int .i64 0] 3 ∧ Below w.heap.size w W)
    (fun c pre W => c = .ret ∧ ∃ (p : List (Nat × Int)) (k : Nat) (d : Int), pre = p ++ [(k, d)] ∧ (∀ x ∈ p, x.2 = 0) ∧ d ≠ 0 ∧ Blk W w.heap.size #[.int .i64 k] 3 ∧ Below w.heap.size w W)
    (fun s A B h k => ⟨h.1, hown _ _ _ _ _ k h.2.1 (by omega) (by omega), hbel _ _ k h.2.2⟩)
    (fun c s A B h k => by
      obtain ⟨hc, p, i, d, h1, h2, h3, h4, h5⟩ := h
      exact ⟨hc, p, i, d, h1, h2, h3, hown _ _ _ _ _ k h4 (by omega) (by omega), hbel _ _ k h5⟩)
    ⟨by simp, bR0, kw⟩
    (fun x => { tmps := #[.int .u64 t, undef, .pointer (some ⟨w.heap.size, 0, none⟩), .int .i64 x.1, .int .i64 x.2, .int .u64 t, .func (.func 69) #[] #[.pointer (some ⟨w.heap.size + 1, 0, none⟩)], .int .i64 x.1, .int .i64 x.2, undef, undef, undef], defers := [] }) ?assign ?body ?done ?stop
  case assign =>
    intro l x W K hK
    simp only [encD]
    gi_wp2
    exact hK
  case body =>
    rintro l pre x W hsz ⟨hp, hb, hw⟩ _
    have f0 := hb.free 0
    have c0 := hb.cell 0
    gi_wp2
    · rename_i hx
      exact ⟨Kept.setCell (Kept.refl _ W) (fun _ => ⟨by simp, by simp only; omega, by simp only; omega⟩) _, rfl, pre, x.1, x.2, rfl, hp, by simpa using hx, hb.set 0 _, hw.setCell (p := ⟨w.heap.size, 0, none⟩) (Nat.le_refl _) _⟩
    · rename_i hx
      refine ⟨Kept.refl _ W, fun y hy => ?_, hb, hw⟩
      rcases List.mem_append.1 hy with hy | hy
      · exact hp y hy
      · obtain rfl := List.mem_singleton.1 hy
        simpa using hx
  case done =>
    rintro xs W hxs ⟨hp, hb, hw⟩ hK
    have f0 := hb.free 0
    have c0 := hb.cell 0
    subst hxs
    gi_wp2
    have hK' : (W.setCell ⟨w.heap.size, 0, none⟩ (.int .i64 11)).heap[w1.heap.size]? = some (.deferred (some [])) := (Below.heap_setCell W _ _ _ (by simp only; omega)).trans hK
    have hb2 := (hb.set 0 (.int .i64 11)).kept (Kept.putObj0 (S := fun k => k = w1.heap.size) (l := w1.heap.size) (Kept.refl _ _) (.deferred none) rfl) (by omega)
    have c2 := hb2.cell 0
    refine ⟨by simp, .inl ⟨_, _, rfl, run_takeDeferred hK', ?_⟩⟩
    refine ⟨.int .i64 11, ?_, 11, ⟨by omega, dgs_zero hp, by omega⟩, rfl, below_step (hw.setCell (p := ⟨w.heap.size, 0, none⟩) (Nat.le_refl _) _) (Kept.putObj0 (S := fun k => k = w1.heap.size) (l := w1.heap.size) (Kept.refl _ _) (.deferred none) rfl) (Nat.le_refl _) (by omega)⟩
    simp [results, Try.f48, go_sem, c2]
  case stop =>
    rintro c pre W hpre ⟨rfl, p, k, d, rfl, hp, hd, hb, hw⟩ hK
    have c0 := hb.cell 0
    obtain ⟨hk11, rfl, rfl⟩ := dgs_last hpre
    gi_wp2
    have hb2 := hb.kept (Kept.putObj0 (S := fun k => k = w1.heap.size) (l := w1.heap.size) (Kept.refl _ W) (.deferred none) rfl) (by omega)
    have c2 := hb2.cell 0
    refine ⟨by simp, .inl ⟨_, _, rfl, run_takeDeferred hK, ?_⟩⟩
    refine ⟨.int .i64 k, ?_, k, ⟨by omega, dgs_zero hp, fun _ => hd⟩, rfl, below_step hw (Kept.putObj0 (S := fun k => k = w1.heap.size) (l := w1.heap.size) (Kept.refl _ _) (.deferred none) rfl) (Nat.le_refl _) (by omega)⟩
    simp [results, Try.f48, go_sem, c2]
end Go.Proofs.Ythamdbfilpegjaa
