/-
  What stands here: the walk of the law CellTurns: it answers true and turns nothing that was there. Under no condition.
-/
import Derived.Test.YtojjelafkieflaaCellAlive
import Derived.Test.YtojjelafkieflaaTurn
import Derived.Test.YtojjelafkieflaaText
namespace Go.Proofs.Ytojjelafkieflaa
set_option linter.unusedVariables false
set_option linter.unusedSimpArgs false
open Go.RowKit Go.Proofs

/-- the function that the law hands to Turn: it counts, keeps what it saw, answers -/
theorem turns_fun (A S P Q : Nat) (n : Int) (x v to : Int) (yes : Bool) (w : World) (hn : 0 ≤ n ∧ n < 1000) (T1 T2 T3 T4 : TypeId) (hA : Blk w A #[.int .i64 n] T1) (hS : Blk w S #[.int .i64 x] T2) (hP : Blk w P #[.int .i64 to] T3) (hQ : Blk w Q #[.bool yes] T4)
    (hAS : A ≠ S) (hAP : A ≠ P) (hAQ : A ≠ Q) (hSP : S ≠ P) (hSQ : S ≠ Q) :
    Calls Try.prog 30 #[.int .i64 v, .pointer (some ⟨A, 0, none⟩), .pointer (some ⟨S, 0, none⟩), .pointer (some ⟨P, 0, none⟩), .pointer (some ⟨Q, 0, none⟩)] w
      fun e w' => e = .returned (.tuple #[.int .i64 to, .bool yes]) ∧ Kept (fun k => k = A ∨ k = S) w w' ∧ Blk w' A #[.int .i64 (n + 1)] T1 ∧ Blk w' S #[.int .i64 v] T2 := by
  have c1 := hA.cell 0
  have c2 := hS.cell 0
  have c3 := hP.cell 0
  have c4 := hQ.cell 0
  have f1 := hA.free 0
  have f2 := hS.free 0
  go_enter Try.func30, Try.ntmps30
  go_wp2
  go_quiet (fail)
  go_wp2
  go_ret2
  refine ⟨rfl, ((((Kept.refl _ w).setCell (fun _ => .inl rfl) _).setCell (fun _ => .inr rfl) _).drewN _), ((hA.set 0 _).other hAS _).drewN _, ((hS.other (Ne.symm hAS) _).set 0 _).drewN _⟩

set_option maxHeartbeats 1000000 in
theorem cellTurns_walk (a0 : Int) (a1 : Int) (a2 : Bool) (w : World) (w0 : (Lit.int .i64 a0).wf = true) (w1 : (Lit.int .i64 a1).wf = true) :
    Calls Try.prog 6 #[.int .i64 a0, .int .i64 a1, .bool a2] w fun e w' => e = .returned (.bool true) ∧ Below w.heap.size w w' := by
  go_enter Try.func6, Try.ntmps6
  go_wp2_with fail
  refine (cellAlive _).mono ?_
  rintro e w1 ⟨rfl, k1⟩
  have z1 := k1.size
  simp only [World.size_alloc] at z1 k1
  have bP : Blk w1 w.heap.size #[.int .i64 a1] 3 := ((Blk.new w _ _).alloc _).below k1 (by omega)
  have bQ : Blk w1 (w.heap.size + 1) #[.bool a2] 4 := (Blk.newAt _ _ _ (by simp)).below k1 (by omega)
  have kw : Below w.heap.size w w1 := (((Below.refl _ w).alloc (Nat.le_refl _) _).alloc (by simp) _).trans (k1.mono (by omega))
  clear k1
  go_wp2_with fail
  refine (of_any _ _).mono ?_
  rintro e w2 ⟨rfl, k2, b2⟩
  have z2 := b2.lt
  have bP2 := bP.still k2
  have bQ2 := bQ.still k2
  have kw2 := below_still kw k2 (Nat.le_refl _)
  obtain ⟨C, hC⟩ : ∃ C, w1.heap.size = C := ⟨_, rfl⟩
  rw [hC] at b2 z2 z1 ⊢
  clear hC bP bQ kw k2
  go_wp2_with fail
  obtain ⟨A, hA⟩ : ∃ A, w2.heap.size = A := ⟨_, rfl⟩
  obtain ⟨w3, h3⟩ : ∃ w3, (w2.alloc (.cells #[.int .i64 0] 3)).alloc (.cells #[.int .i64 0] 3) = w3 := ⟨_, rfl⟩
  have bA : Blk w3 A #[.int .i64 0] 3 := by rw [← h3]; exact (Blk.newAt _ _ _ hA).alloc _
  have bS : Blk w3 (A + 1) #[.int .i64 0] 3 := by rw [← h3]; exact Blk.newAt _ _ _ (by simp [hA])
  have bP3 : Blk w3 w.heap.size #[.int .i64 a1] 3 := by rw [← h3]; exact (bP2.alloc _).alloc _
  have bQ3 : Blk w3 (w.heap.size + 1) #[.bool a2] 4 := by rw [← h3]; exact (bQ2.alloc _).alloc _
  have bC3 := (b2.alloc (.cells #[.int .i64 0] 3)).alloc (.cells #[.int .i64 0] 3)
  have kw3 := (kw2.alloc (by omega) (.cells #[.int .i64 0] 3)).alloc (by simp; omega) (.cells #[.int .i64 0] 3)
  rw [h3] at bC3 kw3 ⊢
  rw [hA] at z2 ⊢
  clear h3 hA bP2 bQ2 b2 kw2
  have hcall : ∀ w4, Only C w3 w4 → Blk w4 C (#[.int .i64 a0, .int .i64 0, .int .i64 0, .int .i64 0].setIfInBounds (0+1) (.int .i64 1)) 80 →
      Calls Try.prog 30 (#[.int .i64 a0] ++ #[.pointer (some ⟨A, 0, none⟩), .pointer (some ⟨A + 1, 0, none⟩), .pointer (some ⟨w.heap.size, 0, none⟩), .pointer (some ⟨w.heap.size + 1, 0, none⟩)]) w4
        fun e w' => e = .returned (.tuple #[.int .i64 a1, .bool a2]) ∧ Blk w' C (#[.int .i64 a0, .int .i64 0, .int .i64 0, .int .i64 0].setIfInBounds (0+1) (.int .i64 1)) 80 ∧
          (Kept (fun k => k = A ∨ k = A + 1) w4 w' ∧ Blk w' A #[.int .i64 1] 3 ∧ Blk w' (A + 1) #[.int .i64 a0] 3) := by
    intro w4 k4 c4
    refine (turns_fun A (A + 1) w.heap.size (w.heap.size + 1) 0 0 a0 a1 a2 w4 (by omega) 3 3 3 4 (bA.only k4 (by omega)) (bS.only k4 (by omega)) (bP3.only k4 (by omega)) (bQ3.only k4 (by omega)) (by omega) (by omega) (by omega) (by omega) (by omega)).mono ?_
    rintro e w5 ⟨rfl, k5, h1, h2⟩
    exact ⟨rfl, c4.kept k5 (by omega), k5, h1, h2⟩
  cases a2
  · refine (turn_no 30 _ ⟨_, Try.func30, by kernel_rfl, by kernel_rfl⟩ C 0 _ a0 0 a1 (l' := 1) (wrap64_in _ (by omega) (by omega)) _ w3 bC3 rfl rfl
      (fun w4 w' => Kept (fun k => k = A ∨ k = A + 1) w4 w' ∧ Blk w' A #[.int .i64 1] 3 ∧ Blk w' (A + 1) #[.int .i64 a0] 3) hcall).mono ?_
    rintro e w6 ⟨rfl, w4, k4, ⟨k5, bA5, bS5⟩, bC5⟩
    have kw6 : Below w.heap.size w w6 := (below_step (below_only kw3 k4 (Nat.le_refl _) (by omega)) k5 (Nat.le_refl _) (by omega))
    have bQ6 := (bQ3.only k4 (by omega)).kept k5 (by omega)
    simp only [List.setIfInBounds_toArray, List.set_cons_succ, List.set_cons_zero, Nat.reduceAdd] at bC5
    go_wp2_with fail
    refine (counts_any C 0 _ 1 0 0 _ _ bC5 rfl rfl rfl).mono ?_
    rintro e w7 ⟨rfl, k7⟩
    have bC7 := bC5.still k7
    have bA7 := bA5.still k7
    have bS7 := bS5.still k7
    have bQ7 := bQ6.still k7
    have kw7 := below_still kw6 k7 (Nat.le_refl _)
    have cQ := bQ7.cell 0
    have cA := bA7.cell 0
    have cS := bS7.cell 0
    go_wp2_with fail
    refine (load_any C 0 _ a0 1 (l' := 2) (wrap64_in _ (by omega) (by omega)) _ _ bC7 rfl rfl).mono ?_
    rintro e w8 ⟨rfl, k8, _⟩
    go_wp2
    go_ret
    exact ⟨rfl, below_only kw7 k8 (Nat.le_refl _) (by omega)⟩
  · refine (turn_yes 30 _ ⟨_, Try.func30, by kernel_rfl, by kernel_rfl⟩ C 0 _ a0 0 0 0 a1 (l' := 1) (t' := 1) (u' := 1) (wrap64_in _ (by omega) (by omega)) (wrap64_in _ (by omega) (by omega)) (wrap64_in _ (by omega) (by omega)) _ w3 bC3 rfl rfl rfl rfl
      (fun w4 w' => Kept (fun k => k = A ∨ k = A + 1) w4 w' ∧ Blk w' A #[.int .i64 1] 3 ∧ Blk w' (A + 1) #[.int .i64 a0] 3) hcall).mono ?_
    rintro e w6 ⟨rfl, w4, w5, k4, ⟨k5, bA5, bS5⟩, k6, bC6⟩
    have kw6 : Below w.heap.size w w6 := below_only (below_step (below_only kw3 k4 (Nat.le_refl _) (by omega)) k5 (Nat.le_refl _) (by omega)) k6 (Nat.le_refl _) (by omega)
    have bP6 := ((bP3.only k4 (by omega)).kept k5 (by omega)).only k6 (by omega)
    have bQ6 := ((bQ3.only k4 (by omega)).kept k5 (by omega)).only k6 (by omega)
    have bA6 := bA5.only k6 (by omega)
    have bS6 := bS5.only k6 (by omega)
    simp only [List.setIfInBounds_toArray, List.set_cons_succ, List.set_cons_zero, Nat.reduceAdd] at bC6
    go_wp2_with fail
    refine (counts_any C 0 _ 1 1 1 _ _ bC6 rfl rfl rfl).mono ?_
    rintro e w7 ⟨rfl, k7⟩
    have bC7 := bC6.still k7
    have bA7 := bA6.still k7
    have bS7 := bS6.still k7
    have bP7 := bP6.still k7
    have bQ7 := bQ6.still k7
    have kw7 := below_still kw6 k7 (Nat.le_refl _)
    have cP := bP7.cell 0
    have cQ := bQ7.cell 0
    have cA := bA7.cell 0
    have cS := bS7.cell 0
    go_wp2_with fail
    refine (load_any C 0 _ a1 1 (l' := 2) (wrap64_in _ (by omega) (by omega)) _ _ bC7 rfl rfl).mono ?_
    rintro e w8 ⟨rfl, k8, _⟩
    go_wp2
    go_ret
    exact ⟨rfl, below_only kw7 k8 (Nat.le_refl _) (by omega)⟩
end Go.Proofs.Ytojjelafkieflaa
