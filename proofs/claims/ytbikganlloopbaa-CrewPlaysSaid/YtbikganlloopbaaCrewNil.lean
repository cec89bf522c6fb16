/-
  What stands here: no floor has no crew. Under no condition.
-/
import Derived.Test.YtbikganlloopbaaCrewIdle
namespace Go.Proofs.Ytbikganlloopbaa
set_option linter.unusedVariables false
set_option linter.unusedSimpArgs false
open Go.RowKit Go.Proofs
attribute [local go_sem] Oper.semAt_some
set_option maxHeartbeats 1000000 in
set_option maxRecDepth 100000 in
theorem workers_nil (n : Nat) (hn : 1 ≤ n) (T : Nat) (tt : TypeId) :
    IterC Fence.wide n Try.prog 67 #[.pointer (some ⟨T, 0, none⟩)] encW (fun ys => ys = []) (fun _ => True) 0 T (fun W => Blk W T #[.pointer none] tt) (fun _ _ => True) := by
  intro li J Jx W hT hQ hJ hJx hY h0
  have c0 : W.cell? ⟨T, 0, none⟩ = some (.pointer none) := hT.cell 0
  have hfld : ∀ W, (Instr.field 29 (.agg #[.int .i64 0, .int .i64 0, .int .i64 0, .int .i64 0, .int .i64 0, .int .i64 0]) 4).run Try.prog W = .ok (.int .i64 0) W := fun W => by kernel_rfl
  refine callsIn_of_wp Try.func67 rfl trivial ?_ rfl
  simp only [Try.ntmps67, List.size_toArray, List.length_cons, List.length_nil, Nat.reduceAdd, Nat.reduceSub, Array.replicate_succ, Array.replicate_zero, List.push_toArray, List.append_toArray, List.nil_append, List.cons_append]
  gi_wp2_with fail
  refine ⟨trivial, callsIn_wide.2 ((fconfig_nil W).mono ?_)⟩
  rintro e w1 ⟨rfl, k1⟩
  have h1 := hJ _ _ _ h0 (k1.mono (T := fun y => y = T) (fun _ _ f => f.elim))
  have H1 := Lib.hid h1
  clear h1 hT c0 k1 hQ hJ hJx hY h0
  gi_wp2_with fail
  gi_loopw [8] (fun p wr => p = .int .i64 0 ∧ J [] wr) (fun p _ => 0)
  case atStart => exact ⟨rfl, H1.out⟩
  case round =>
    obtain ⟨rfl, hJp⟩ := hrel
    gi_wp2
    go_end0
    exact ⟨⟨_, rfl⟩, .inl ⟨_, rfl, hJp⟩⟩
theorem cworkers_nil (w : World) : Calls Try.prog 44 #[.pointer none] w fun e w' => e = .returned (.func (.func 67) #[] #[.pointer (some ⟨w.heap.size, 0, none⟩)]) ∧ Still w w' ∧ Blk w' w.heap.size #[.pointer none] 24 := by
  go_enter Try.func44, Try.ntmps44
  go_wp2
  go_ret
  exact ⟨rfl, by (repeat (first | (with_reducible exact Kept.refl _ _) | (with_reducible refine Kept.drewN ?_ _) | (with_reducible refine Kept.drew ?_) | (with_reducible refine Kept.put ?_ _ _) | (with_reducible refine Kept.alloc ?_ _))), Blk.new _ _ _⟩
set_option maxHeartbeats 1000000 in
set_option maxRecDepth 100000 in
theorem ccrew_nil (w : World) :
    Calls Try.prog 20 #[.pointer none] w fun e w' => e = .returned (.slice none 0 0) ∧ Still w w' := by
  refine (callsIn_wide (n := 4)).1 ?_
  refine callsIn_of_wp_marks Try.func20 rfl trivial ?_ rfl
  simp only [Try.ntmps20, List.size_toArray, List.length_cons, List.length_nil, Nat.reduceAdd, Nat.reduceSub, Array.replicate_succ, Array.replicate_zero, List.push_toArray, List.append_toArray, List.nil_append, List.cons_append]
  obtain ⟨w0, hw0⟩ : ∃ w0, w0 = w.alloc (.cells #[.slice none 0 0] 49) := ⟨_, rfl⟩
  obtain ⟨C, hC⟩ : ∃ C, C = w.heap.size := ⟨_, rfl⟩
  have k0 : Still w w0 := by rw [hw0]; exact (still_refl w).alloc _
  have n0 : Blk w0 C #[.slice none 0 0] 49 := by rw [hw0, hC]; exact Blk.new _ _ _
  have hwk := cworkers_nil w0
  have HW0 := Lib.hid hw0
  have HC := Lib.hid hC
  have K0 := Lib.hid k0
  clear hw0 hC k0
  gi_wp2_with fail
  rw [← HW0.out, ← HC.out]
  refine ⟨trivial, callsIn_wide.2 (hwk.mono ?_)⟩
  rintro e w1 ⟨rfl, k1, b1⟩
  obtain ⟨T, hT⟩ : ∃ T, T = w0.heap.size := ⟨_, rfl⟩
  rw [← hT] at b1 ⊢
  have hCT : C < T := by rw [hT]; exact n0.lt
  have hTz := b1.lt
  have nb := n0.still k1
  have K1 := Lib.hid (K0.out.trans k1)
  have hCw : C ≤ w.heap.size ∧ w.heap.size ≤ C := by rw [HC.out]; exact ⟨Nat.le_refl _, Nat.le_refl _⟩
  clear hT k1 hwk n0
  gi_wp2_with fail
  refine wpIn_range_cell (T := T) rfl (by omega) (gf := 67) (lb := #[.pointer (some ⟨T, 0, none⟩)]) rfl trivial (enters_of Try.func67 (by kernel_rfl) rfl)
    (workers_nil 3 (by omega) T 24) (by omega) (fun W h => h.trans b1) (fun _ => rfl)
    (fun pre W => Blk W C #[.slice none 0 0] 49 ∧ Kept (fun k => k = T ∨ w1.heap.size ≤ k) w1 W)
    (fun c pre W => False)
    (fun s W h => trivial)
    (fun s A B h k => ⟨h.1.kept k (by omega), h.2.step k (fun i hi h => by omega)⟩)
    (fun c s A B h k => h.elim)
    ⟨nb, Kept.refl _ _⟩
    (fun x => { tmps := #[.pointer none, undef, .slice none 0 0, .pointer (some ⟨C, 0, none⟩), .pointer (some ⟨x, 0, none⟩), .pointer none, .func (.func 67) #[] #[.pointer (some ⟨T, 0, none⟩)], .pointer (some ⟨x, 0, none⟩), undef, undef, undef, undef, undef], defers := [] }) ?assign ?body ?done ?stop
  case assign =>
    intro l x W K hK
    simp only [encW]
    gi_wp2
    exact hK
  case body =>
    rintro l pre x W hsz hI - hpl
    omega
  case done =>
    rintro ks W hks ⟨hb, hw⟩ hK
    have c0 : W.cell? ⟨C, 0, none⟩ = some (.slice none 0 0) := hb.cell 0
    have k2 := Kept.putObj (S := fun k => k = w1.heap.size) (l := w1.heap.size) (Kept.refl _ W) (.deferred none) rfl
    gi_wp2
    refine ⟨by simp, .inl ⟨_, _, rfl, run_takeDeferred hK, ?_⟩⟩
    refine ⟨.slice none 0 0, ?_, rfl, ?_⟩
    · simp [results, Try.f20, go_sem]
    · exact Kept.step K1.out (hw.step k2 (fun i hi h => by omega)) (fun i hi h => by omega)
  case stop =>
    rintro c pre W hp h
    exact h.elim
end Go.Proofs.Ytbikganlloopbaa
