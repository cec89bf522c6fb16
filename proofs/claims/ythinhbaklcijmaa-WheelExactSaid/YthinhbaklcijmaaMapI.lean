/-
  What stands here: a map from numbers to numbers that a call has made, told by a function. Under no condition.
-/
import Derived.Test.YthinhbaklcijmaaLib
import Derived.Maps.OwnSet
import Derived.Maps.OwnOps
namespace Go.Proofs.Ythinhbaklcijmaa
set_option linter.unusedVariables false
set_option linter.unusedSimpArgs false
open Go.RowKit Go.Proofs
open Go.Maps

theorem wf_natI {q : Nat} (h : q < 9223372036854775807) : (Lit.int .i64 (q : Int)).wf = true := WalkArith.wf_i64 (by omega)
/-- block mb is a map of at most n entries, whose key x has f x -/
def MapI (P : Program) (K E : TypeId) (w : World) (mb n : Nat) (f : Int → Int) : Prop :=
  ∃ D : DataW Unit, w.ownsMap P K (plainElem P E) mb n D ∧ ∀ k : Int, (Lit.int .i64 k).wf = true → D.atKey (.int .i64 k) (.lit (.int .i64 0)) = .lit (.int .i64 (f k))
theorem MapI.new (P : Program) (K E : TypeId) (w : World) : MapI P K E (w.alloc (.map #[] 0)) w.heap.size 0 (fun _ => 0) :=
  ⟨_, World.ownsMap_made _ _ _ _, fun _ _ => rfl⟩
theorem MapI.lt {P : Program} {K E : TypeId} {w : World} {mb n : Nat} {f : Int → Int} (h : MapI P K E w mb n f) : mb < w.heap.size := by
  obtain ⟨D, ⟨es, clock, hb, _⟩, _⟩ := h
  exact lt_of_block hb
theorem MapI.block {P : Program} {K E : TypeId} {w : World} {mb n : Nat} {f : Int → Int} (h : MapI P K E w mb n f) : ∃ es k, w.heap[mb]? = some (.map es k) := by
  obtain ⟨D, ⟨es, clock, hb, _⟩, _⟩ := h
  exact ⟨es, clock, hb⟩
theorem MapI.of_block {P : Program} {K E : TypeId} {w w' : World} {mb n : Nat} {f : Int → Int} (h : MapI P K E w mb n f) (e : w'.heap[mb]? = w.heap[mb]?) : MapI P K E w' mb n f := by
  obtain ⟨D, ⟨es, clock, hb, h2⟩, h3⟩ := h
  exact ⟨D, ⟨es, clock, e.trans hb, h2⟩, h3⟩
theorem MapI.kept {P : Program} {K E : TypeId} {S : Nat → Prop} {w w' : World} {mb n : Nat} {f : Int → Int} (h : MapI P K E w mb n f) (k : Kept S w w') (hS : ¬ S mb) : MapI P K E w' mb n f :=
  h.of_block (k.block mb h.lt hS)
theorem MapI.look {P : Program} {K E T : TypeId} {w : World} {mb n : Nat} {f : Int → Int} (h : MapI P K E w mb n f) (hK : P.underlying K = some (.int .i64)) (hE : P.underlying E = some (.int .i64)) (hT : P.underlying T = some (.map K E)) (hz : (zeroValue E).run P w = .ok (.int .i64 0) w) (k : Int) (hk : (Lit.int .i64 k).wf = true) :
    (Instr.lookup T (.map (some mb)) (.int .i64 k) false).run P w = .ok (.int .i64 (f k)) w := by
  obtain ⟨D, ho, hf⟩ := h
  obtain ⟨v, ps, hrun, hv⟩ := ho.lookup (int_keyed hK) hT hz (plainElem_int hE (by decide)) (keyOf_int_mk hK hk)
  obtain ⟨b, rfl, hb, _⟩ := plainElem_int_inv hE hv
  rw [hf k hk] at hb
  simp only [Prod.mk.injEq, DataW.lit.injEq, Lit.int.injEq, true_and] at hb
  rw [hrun, hb.1]
theorem MapI.put {P : Program} {K E : TypeId} {w w' : World} {mb n : Nat} {f : Int → Int} {D : DataW Unit} (hK : P.underlying K = some (.int .i64)) (ho : w.ownsMap P K (plainElem P E) mb n D) (hf : ∀ k : Int, (Lit.int .i64 k).wf = true → D.atKey (.int .i64 k) (.lit (.int .i64 0)) = .lit (.int .i64 (f k))) (x : Int) (hx : (Lit.int .i64 x).wf = true) (v : Int)
    (ho' : w'.ownsMap P K (plainElem P E) mb (n + 1) (D.put (.int .i64 x) (.lit (.int .i64 v)))) : MapI P K E w' mb (n + 1) (fun k => if k = x then v else f k) := by
  refine ⟨_, ho', fun k hk => ?_⟩
  by_cases e : k = x
  · subst e
    show _ = DataW.lit (.int .i64 (if k = k then v else f k))
    rw [if_pos rfl, atKey_put_same (ho.tidy (int_keyed hK)).isMap ((int_keyed hK).key (keyOf_int_mk hK hk))]
  · show _ = DataW.lit (.int .i64 (if k = x then v else f k))
    rw [if_neg e, atKey_put_other (by intro h; simp only [Lit.int.injEq, true_and] at h; exact e h), hf k hk]
end Go.Proofs.Ythinhbaklcijmaa
