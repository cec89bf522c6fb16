/-
  What stands here: a region that draws its order and holds communication, in a call that is walked piece by piece. Under no condition.
-/
import Derived.Test.YtbikganlloopbaaFin
import Derived.Orders
namespace Go.Proofs.Ytbikganlloopbaa
set_option linter.unusedVariables false
set_option linter.unusedSimpArgs false
open Go.RowKit Go.Proofs
open Go.Conc
section
variable {P : Program} {f : FuncId} {fn : Func} {R : Ending → World → Prop} {cs : List Frame} {a : Act} {w : World} {k : List Item} {ops : Array Oper}
/-- whatever order comes up, from here the call comes to an end -/
def FinOK (P : Program) (f : FuncId) (R : Ending → World → Prop) (cs : List Frame) (k : List Item) (ops : Array Oper) (n : Nat) (listed : Array Bool) (a : Act) (w : World) : Prop :=
  ∀ t, Fin P f R cs (lone ((fb f).at a (.inRegion ops (Region.linearise.go .any ops n t listed []) :: k)) cs w)
theorem Fin.region_draw {id : Nat} (hm : P.follows .mixedOrders = true) (h : FinOK P f R cs k ops ops.size (Array.replicate ops.size false) a w.drew) : Fin P f R cs (lone ((fb f).at a (.code (.region id ops true) :: k)) cs w) := by
  refine Fin.step step_region_draw ?_
  have h9 := h (w.tape w.drawn (.order (fb f).fn id))
  simp only [Region.schedule, hm, Bool.true_or, if_true]
  exact h9
theorem FinOK.done {listed : Array Bool} (h : Fin P f R cs (lone ((fb f).at a (.inRegion ops [] :: k)) cs w)) : FinOK P f R cs k ops 0 listed a w := fun t => by
  simpa [Region.linearise.go] using h
theorem FinOK.one {n : Nat} {listed : Array Bool} (rs : List Nat) (hrs : Region.ready .any ops listed = rs) (hne : rs ≠ []) (h : ∀ i, i ∈ rs → ∃ a' w', (∀ rest, Fin P f R cs (lone ((fb f).at a' (.inRegion ops rest :: k)) cs w') → Fin P f R cs (lone ((fb f).at a (.inRegion ops (i :: rest) :: k)) cs w)) ∧ FinOK P f R cs k ops n (listed.setIfInBounds i true) a' w') : FinOK P f R cs k ops (n + 1) listed a w := by
  intro t
  simp only [Region.linearise.go]
  change Fin P f R cs (lone ((fb f).at a (.inRegion ops (match (Region.ready .any ops listed)[t % (Region.ready .any ops listed).length]? with
      | some i => Region.linearise.go .any ops n (t / (Region.ready .any ops listed).length) (listed.setIfInBounds i true) [i]
      | none => [].reverse) :: k)) cs w)
  rw [hrs]
  have hlt : t % rs.length < rs.length := Nat.mod_lt _ (by cases rs with | nil => exact absurd rfl hne | cons x l => simp)
  rw [List.getElem?_eq_getElem hlt]
  simp only
  rw [linearise_go_acc, List.reverse_singleton, List.singleton_append]
  obtain ⟨a', w', h1, h2⟩ := h _ (List.getElem_mem hlt)
  exact h1 _ (h2 _)
/-- one operation that turns the world -/
theorem Fin.eff {i : Nat} {rest : List Nat} {o : Oper} {v : Value} {w' : World} (ho : ops[i]? = some o) (hw : Region.wanted o (yielded ops a.tmps) = true) (hr : (execOp a.eval o).run P w = .ok (.value v) w')
    (h : Fin P f R cs (lone ((fb f).at (a.put o.dst v) (.inRegion ops rest :: k)) cs w')) : Fin P f R cs (lone ((fb f).at a (.inRegion ops (i :: rest) :: k)) cs w) := by
  refine h.step (step_lone_go ?_)
  have hfin : ((fb f).at a (.inRegion ops (i :: rest) :: k)).finish v = (fb f).at (a.put o.dst v) (.inRegion ops rest :: k) := by rw [Frame.finish_at, ho]; rfl
  rw [stepG_op ho hw, ← hfin]
  simp [stepG.apply, hr]
/-- one that yields nothing -/
theorem Fin.void {i : Nat} {rest : List Nat} {o : Oper} {w' : World} (ho : ops[i]? = some o) (hw : Region.wanted o (yielded ops a.tmps) = true) (hr : (execOp a.eval o).run P w = .ok .skip w')
    (h : Fin P f R cs (lone ((fb f).at (a.put o.dst undef) (.inRegion ops rest :: k)) cs w')) : Fin P f R cs (lone ((fb f).at a (.inRegion ops (i :: rest) :: k)) cs w) := by
  refine h.step (step_lone_go ?_)
  have hfin : ((fb f).at a (.inRegion ops (i :: rest) :: k)).finish undef = (fb f).at (a.put o.dst undef) (.inRegion ops rest :: k) := by rw [Frame.finish_at, ho]; rfl
  rw [stepG_op ho hw, ← hfin]
  simp [stepG.apply, hr]
theorem fin_of {X Y : Prop} (h : X → Y) (x : X) : Y := h x
end
end Go.Proofs.Ytbikganlloopbaa
