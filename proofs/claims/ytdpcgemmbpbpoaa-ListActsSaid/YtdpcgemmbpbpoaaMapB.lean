/-
  What stands here: a map from numbers to truths that a call has made, told by a function. Under no condition.
-/
import Derived.Test.YtdpcgemmbpbpoaaLib
import Derived.Maps.OwnSet
import Derived.Maps.OwnOps
namespace Go.Proofs.Ytdpcgemmbpbpoaa
set_option linter.unusedVariables false
set_option linter.unusedSimpArgs false
open Go.RowKit Go.Proofs
open Go.Maps

theorem plainElem_bool_inv {H : Type} {P : Program} {e : TypeId} (he : P.underlying e = some .bool) {v : Value} {z : DataW H × List MemPlace} (h : plainElem P e v = some z) : ∃ b, v = .bool b ∧ z = (.lit (.bool b), []) := by
  unfold plainElem at h
  rw [he] at h
  cases v <;> simp at h
  exact ⟨_, rfl, h.symm⟩
/-- block mb is a map of at most n entries, whose key x has f x -/
def MapB (P : Program) (K E : TypeId) (w : World) (mb n : Nat) (f : Int → Bool) : Prop :=
  ∃ D : DataW Unit, w.ownsMap P K (plainElem P E) mb n D ∧ ∀ k : Int, (Lit.int .i64 k).wf = true → D.atKey (.int .i64 k) (.lit (.bool false)) = .lit (.bool (f k))
theorem MapB.new (P : Program) (K E : TypeId) (w : World) : MapB P K E (w.alloc (.map #[] 0)) w.heap.size 0 (fun _ => false) :=
  ⟨_, World.ownsMap_made _ _ _ _, fun _ _ => rfl⟩
theorem MapB.lt {P : Program} {K E : TypeId} {w : World} {mb n : Nat} {f : Int → Bool} (h : MapB P K E w mb n f) : mb < w.heap.size := by
  obtain ⟨D, ⟨es, clock, hb, _⟩, _⟩ := h
  exact lt_of_block hb
theorem MapB.block {P : Program} {K E : TypeId} {w : World} {mb n : Nat} {f : Int → Bool} (h : MapB P K E w mb n f) : ∃ es k, w.heap[mb]? = some (.map es k) := by
  obtain ⟨D, ⟨es, clock, hb, _⟩, _⟩ := h
  exact ⟨es, clock, hb⟩
theorem MapB.of_block {P : Program} {K E : TypeId} {w w' : World} {mb n : Nat} {f : Int → Bool} (h : MapB P K E w mb n f) (e : w'.heap[mb]? = w.heap[mb]?) : MapB P K E w' mb n f := by
  obtain ⟨D, ⟨es, clock, hb, h2⟩, h3⟩ := h
  exact ⟨D, ⟨es, clock, e.trans hb, h2⟩, h3⟩
theorem MapB.kept {P : Program} {K E : TypeId} {S : Nat → Prop} {w w' : World} {mb n : Nat} {f : Int → Bool} (h : MapB P K E w mb n f) (k : Kept S w w') (hS : ¬ S mb) : MapB P K E w' mb n f :=
  h.of_block (k.block mb h.lt hS)
theorem MapB.look {P : Program} {K E T : TypeId} {w : World} {mb n : Nat} {f : Int → Bool} (h : MapB P K E w mb n f) (hK : P.underlying K = some (.int .i64)) (hE : P.underlying E = some .bool) (hT : P.underlying T = some (.map K E)) (hz : (zeroValue E).run P w = .ok (.bool false) w) (k : Int) (hk : (Lit.int .i64 k).wf = true) :
    (Instr.lookup T (.map (some mb)) (.int .i64 k) false).run P w = .ok (.bool (f k)) w := by
  obtain ⟨D, ho, hf⟩ := h
  obtain ⟨v, ps, hrun, hv⟩ := ho.lookup (int_keyed hK) hT hz (plainElem_bool hE false) (keyOf_int_mk hK hk)
  obtain ⟨b, rfl, hb⟩ := plainElem_bool_inv hE hv
  rw [hf k hk] at hb
  simp only [Prod.mk.injEq, DataW.lit.injEq, Lit.bool.injEq] at hb
  rw [hrun, hb.1]
theorem MapB.put {P : Program} {K E : TypeId} {w w' : World} {mb n : Nat} {f : Int → Bool} {D : DataW Unit} (hK : P.underlying K = some (.int .i64)) (ho : w.ownsMap P K (plainElem P E) mb n D) (hf : ∀ k : Int, (Lit.int .i64 k).wf = true → D.atKey (.int .i64 k) (.lit (.bool false)) = .lit (.bool (f k))) (x : Int) (hx : (Lit.int .i64 x).wf = true) (v : Bool)
    (ho' : w'.ownsMap P K (plainElem P E) mb (n + 1) (D.put (.int .i64 x) (.lit (.bool v)))) : MapB P K E w' mb (n + 1) (fun k => if k = x then v else f k) := by
  refine ⟨_, ho', fun k hk => ?_⟩
  by_cases e : k = x
  · subst e
    show _ = DataW.lit (.bool (if k = k then v else f k))
    rw [if_pos rfl, atKey_put_same (ho.tidy (int_keyed hK)).isMap ((int_keyed hK).key (keyOf_int_mk hK hk))]
  · show _ = DataW.lit (.bool (if k = x then v else f k))
    rw [if_neg e, atKey_put_other (by intro h; simp only [Lit.int.injEq, true_and] at h; exact e h), hf k hk]
end Go.Proofs.Ytdpcgemmbpbpoaa
