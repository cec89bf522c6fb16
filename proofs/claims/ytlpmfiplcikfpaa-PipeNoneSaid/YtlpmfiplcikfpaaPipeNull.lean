/-
  What stands here: what no pipe does. Under no condition.
-/
import Derived.Test.YtlpmfiplcikfpaaPipeAlive
import Derived.Test.YtlpmfiplcikfpaaPipeAll
namespace Go.Proofs.Ytlpmfiplcikfpaa
set_option linter.unusedVariables false
set_option linter.unusedSimpArgs false
open Go.RowKit Go.Proofs
attribute [local go_sem] Oper.semAt_some
theorem pput_nil (v : Int) (w : World) : Calls Try.prog 9 #[.pointer none, .int .i64 v] w fun e w' => e = .returned (.tuple #[.bool false, .int .i64 6]) ∧ w = w' := by
  go_enter Try.func9, Try.ntmps9
  go_wp2_with fail
  go_ret2
  exact ⟨rfl, rfl⟩
theorem ptake_nil (w : World) : Calls Try.prog 10 #[.pointer none] w fun e w' => e = .returned (.tuple #[.int .i64 0, .int .i64 6]) ∧ w = w' := by
  go_enter Try.func10, Try.ntmps10
  go_wp2_with fail
  go_ret2
  exact ⟨rfl, rfl⟩
theorem pshut_nil (w : World) : Calls Try.prog 13 #[.pointer none] w fun e w' => e = .returned (.int .i64 6) ∧ w = w' := by
  go_enter Try.func13, Try.ntmps13
  go_wp2_with fail
  go_ret
  exact ⟨rfl, rfl⟩
theorem pclosed_nil (w : World) : Calls Try.prog 14 #[.pointer none] w fun e w' => e = .returned (.bool false) ∧ Still w w' := by
  go_enter Try.func14, Try.ntmps14
  go_wp2_with fail
  go_ret
  exact ⟨rfl, still_refl _⟩
theorem plen_nil (w : World) : Calls Try.prog 11 #[.pointer none] w fun e w' => e = .returned (.int .i64 0) ∧ w = w' := by
  go_enter Try.func11, Try.ntmps11
  go_wp2_with fail
  go_ret
  exact ⟨rfl, rfl⟩
theorem pspilled_nil (w : World) : Calls Try.prog 12 #[.pointer none] w fun e w' => e = .returned (.int .i64 0) ∧ w = w' := by
  go_enter Try.func12, Try.ntmps12
  go_wp2_with fail
  go_ret
  exact ⟨rfl, rfl⟩
theorem pmost_nil (w : World) : Calls Try.prog 15 #[.pointer none] w fun e w' => e = .returned (.int .i64 0) ∧ w = w' := by
  go_enter Try.func15, Try.ntmps15
  go_wp2_with fail
  go_ret
  exact ⟨rfl, rfl⟩
theorem pall_of_nil (w : World) : Calls Try.prog 31 #[.pointer none] w fun e w' => e = .returned (.func (.func 40) #[] #[.pointer (some ⟨w.heap.size, 0, none⟩)]) ∧ Still w w' ∧ Blk w' w.heap.size #[.pointer none] 24 := by
  go_enter Try.func31, Try.ntmps31
  go_wp2
  go_ret
  exact ⟨rfl, by (repeat (first | (with_reducible exact Kept.refl _ _) | (with_reducible refine Kept.drewN ?_ _) | (with_reducible refine Kept.drew ?_) | (with_reducible refine Kept.put ?_ _ _) | (with_reducible refine Kept.alloc ?_ _))), Blk.new _ _ _⟩
theorem pall1_nil (n : Nat) (T : Nat) (tt : TypeId) :
    IterC Fence.wide n Try.prog 40 #[.pointer (some ⟨T, 0, none⟩)] encP_i (fun ys => ys = []) (fun _ => False) 0 T (fun W => Blk W T #[.pointer none] tt) (fun _ _ => True) := by
  intro li J Jx W hT hQ hJ hJx hY h0
  have c0 := hT.cell 0
  have c0' : W.cell? ⟨T, 0, none⟩ = some (.pointer none) := c0
  clear c0
  refine callsIn_of_wp Try.func40 rfl trivial ?_ rfl
  simp only [Try.ntmps40, List.size_toArray, List.length_cons, List.length_nil, Nat.reduceAdd, Nat.reduceSub, Array.replicate_succ, Array.replicate_zero, List.push_toArray, List.append_toArray, List.nil_append, List.cons_append]
  gi_wp2
  refine bodyPost_ret (results_none rfl _ _ _) rfl ?_
  exact ⟨⟨_, rfl⟩, h0⟩
theorem pall_nil (w : World) : Calls Try.prog 16 #[.pointer none] w fun e w' => e = .returned (.slice none 0 0) ∧ Below w.heap.size w w' := by
  refine (callsIn_wide (n := 4)).1 ?_
  refine callsIn_of_wp_marks Try.func16 rfl trivial ?_ rfl
  simp only [Try.ntmps16, List.size_toArray, List.length_cons, List.length_nil, Nat.reduceAdd, Nat.reduceSub, Array.replicate_succ, Array.replicate_zero, List.push_toArray, List.append_toArray, List.nil_append, List.cons_append]
  gi_wp2_with fail
  refine ⟨trivial, callsIn_wide.2 ((pall_of_nil _).mono ?_)⟩
  rintro e w1 ⟨rfl, k1, b1⟩
  have bR0 : Blk w1 w.heap.size #[.slice none 0 0] 35 := (Blk.new w _ _).still k1
  have kw : Below w.heap.size w w1 := below_still (((Below.refl _ w).alloc (Nat.le_refl _) _)) k1 (Nat.le_refl _)
  rw [World.size_alloc] at *
  have z1 := b1.lt
  gi_wp2_with fail
  refine wpIn_range_cell (α := Int) (T := w.heap.size + 1) rfl (by omega) (gf := 40) (lb := #[.pointer (some ⟨w.heap.size + 1, 0, none⟩)]) rfl trivial (enters_of Try.func40 (by kernel_rfl) rfl)
    (pall1_nil 3 (w.heap.size + 1) 24) (by omega) (fun W h => h.trans b1) (fun _ => rfl)
    (fun pre W => Blk W w.heap.size #[.slice none 0 0] 35 ∧ Below w.heap.size w W)
    (fun c pre W => False)
    (fun _ _ _ => trivial)
    (fun pre A B h k => ⟨h.1.kept k (by omega), below_step h.2 k (Nat.le_refl _) (fun i hi h => by omega)⟩)
    (fun c s A B h k => h.elim)
    ⟨bR0, kw⟩
    (fun x => { tmps := #[.pointer none, undef, .slice none 0 0, .pointer (some ⟨w.heap.size, 0, none⟩), .int .i64 x, .pointer none, .func (.func 40) #[] #[.pointer (some ⟨w.heap.size + 1, 0, none⟩)], .int .i64 x, undef, undef, undef, undef, undef], defers := [] }) ?assign ?body ?done ?stop
  case assign =>
    intro l x W K hK
    simp only [encP_i]
    gi_wp2
    exact hK
  case body =>
    rintro l' pre x W hsz _ hf hpl
    exact hf.elim
  case done =>
    rintro ys W hys ⟨hb, hw⟩ hK
    have c0 := hb.cell 0
    gi_wp2
    have hk3 := Kept.putObj (S := fun k => k = w1.heap.size) (l := w1.heap.size) (Kept.refl _ W) (.deferred none) rfl
    refine ⟨by simp, .inl ⟨_, _, rfl, run_takeDeferred hK, ?_⟩⟩
    refine ⟨.slice none 0 0, ?_, rfl, below_step hw hk3 (Nat.le_refl _) (fun i hi h => by omega)⟩
    simp [results, Try.f16, go_sem]
  case stop =>
    rintro c pre W hpre h hK
    exact h.elim
end Go.Proofs.Ytlpmfiplcikfpaa
