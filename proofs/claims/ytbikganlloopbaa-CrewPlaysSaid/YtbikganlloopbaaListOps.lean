/-
  What stands here: what each function does to the lists' nodes and values, without what lies behind. Under no condition but that the world holds them.
-/
import Derived.Test.YtbikganlloopbaaListIter
import Derived.Test.YtbikganlloopbaaListMem
namespace Go.Proofs.Ytbikganlloopbaa
set_option linter.unusedVariables false
set_option linter.unusedSimpArgs false
open Go.RowKit Go.Proofs
/-- the nodes' values -/
def LV (s : LS) : Nat → Value := fun y => (s.nd y).val
theorem upd_id {α : Type} (f : Nat → α) (k : Nat) : upd f k (f k) = f := by
  funext y
  by_cases e : y = k
  · rw [e, upd_same]
  · rw [upd_ne _ _ e]
theorem LS.put_val (s : LS) (l x : Nat) : LV (s.put l x) = LV s := by
  funext y
  show (putNd s.nd (s.sq l) (s.hm l) x y).val = _
  unfold putNd
  repeat' split
  all_goals first | rfl | (rename_i e; rw [e]; rfl) | (rename_i e _; rw [e]; rfl)
theorem LS.node_val (s : LS) (x : Nat) (v : Value) : LV (s.node x v) = upd (LV s) x v := by
  funext y
  show (upd s.nd x _ y).val = _
  by_cases e : y = x
  · rw [e, upd_same, upd_same]
  · rw [upd_ne _ _ e, upd_ne _ _ e]; rfl
theorem LS.out_val (s : LS) (l x : Nat) : LV (s.out l x) = LV s := by
  funext y
  show (outNd s.nd x y).val = _
  unfold outNd
  split
  · rename_i e; rw [e]; rfl
  · split
    · rfl
    · split <;> rfl
theorem LS.splice_val (s : LS) (l o h : Nat) : LV (s.splice l o h) = LV s := by
  funext y
  show (joinNd s.nd (s.sq l) (s.sq o) y).val = _
  unfold joinNd
  split
  · rfl
  · split <;> rfl
theorem oNew_t (s : LS) (w : World) (h : LW_t s w) :
    Calls Try.prog 72 #[] w fun e w' => e = .returned (.pointer (some ⟨w.heap.size + 1, 0, none⟩)) ∧ w.heap.size + 1 < w'.heap.size ∧ Still w w' ∧ ∃ s', LW_t s' w' ∧ (∀ y, y < w.heap.size → s'.kd y = s.kd y) ∧ s'.kd (w.heap.size + 1) = 1 ∧ s'.sq = upd s.sq (w.heap.size + 1) [] ∧ LV s' = LV s := by
  refine (lnew_t s w h).mono ?_
  rintro e w1 ⟨rfl, h1, k1⟩
  have hk : (s.new w.heap.size (w.heap.size + 1)).kd (w.heap.size + 1) = 1 := upd_same _ _ _
  exact ⟨rfl, (h1.lists _ hk).lt, k1, _, h1, fun y hy => by show upd (upd s.kd _ _) _ _ y = _; rw [upd_ne _ _ (by omega), upd_ne _ _ (by omega)], hk, rfl, rfl⟩

end Go.Proofs.Ytbikganlloopbaa
