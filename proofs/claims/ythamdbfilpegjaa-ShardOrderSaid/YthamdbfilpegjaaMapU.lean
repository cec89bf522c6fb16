/-
  What stands here: a map from uint64 to uint64 that a call has made, told by a function and its number of keys. Under no condition.
-/
import Derived.Test.YthamdbfilpegjaaLib
import Derived.Maps.OwnSet
import Derived.Maps.OwnOps
namespace Go.Proofs.Ythamdbfilpegjaa
set_option linter.unusedVariables false
set_option linter.unusedSimpArgs false
open Go.RowKit Go.Proofs
open Go.Maps
theorem wf_natU {q : Nat} (h : q < 18446744073709551616) : (Lit.int .u64 (q : Int)).wf = true := WalkArith.wf_u64 (by omega)
/-- block mb is a map of c keys; key k has what g says -/
def MapU (P : Program) (K E : TypeId) (w : World) (mb n : Nat) (g : Int → Option Int) (c : Nat) : Prop :=
  ∃ D : DataW Unit, w.ownsMap P K (plainElem P E) mb n D ∧ (∀ k : Int, (Lit.int .u64 k).wf = true → Maps.has D (.int .u64 k) = (g k).isSome ∧ D.atKey (.int .u64 k) (.lit (.int .u64 0)) = .lit (.int .u64 ((g k).getD 0))) ∧ Maps.size D = c
section
variable {P : Program} {K E T : TypeId} {w w' : World} {mb n : Nat} {g : Int → Option Int} {c : Nat}
theorem MapU.new (P : Program) (K E : TypeId) (w : World) : MapU P K E (w.alloc (.map #[] 0)) w.heap.size 0 (fun _ => none) 0 :=
  ⟨_, World.ownsMap_made _ _ _ _, fun _ _ => ⟨rfl, rfl⟩, rfl⟩
theorem MapU.lt (h : MapU P K E w mb n g c) : mb < w.heap.size := by
  obtain ⟨D, ⟨es, clock, hb, _⟩, _⟩ := h
  exact lt_of_block hb
theorem MapU.block (h : MapU P K E w mb n g c) : ∃ es k, w.heap[mb]? = some (.map es k) := by
  obtain ⟨D, ⟨es, clock, hb, _⟩, _⟩ := h
  exact ⟨es, clock, hb⟩
theorem MapU.of_block (h : MapU P K E w mb n g c) (e : w'.heap[mb]? = w.heap[mb]?) : MapU P K E w' mb n g c := by
  obtain ⟨D, ⟨es, clock, hb, h2⟩, h3⟩ := h
  exact ⟨D, ⟨es, clock, e.trans hb, h2⟩, h3⟩
theorem MapU.kept {S : Nat → Prop} (h : MapU P K E w mb n g c) (k : Kept S w w') (hS : ¬ S mb) : MapU P K E w' mb n g c :=
  h.of_block (k.block mb h.lt hS)
theorem MapU.look (h : MapU P K E w mb n g c) (hK : P.underlying K = some (.int .u64)) (hE : P.underlying E = some (.int .u64)) (hT : P.underlying T = some (.map K E)) (hz : (zeroValue E).run P w = .ok (.int .u64 0) w) (k : Int) (hk : (Lit.int .u64 k).wf = true) :
    (Instr.lookup T (.map (some mb)) (.int .u64 k) false).run P w = .ok (.int .u64 ((g k).getD 0)) w := by
  obtain ⟨D, ho, hf, _⟩ := h
  obtain ⟨v, ps, hrun, hv⟩ := ho.lookup (int_keyed hK) hT hz (plainElem_int hE (by decide)) (keyOf_int_mk hK hk)
  obtain ⟨b, rfl, hb, _⟩ := plainElem_int_inv hE hv
  rw [(hf k hk).2] at hb
  simp only [Prod.mk.injEq, DataW.lit.injEq, Lit.int.injEq, true_and] at hb
  rw [hrun, hb.1]
theorem MapU.look_ok (h : MapU P K E w mb n g c) (hK : P.underlying K = some (.int .u64)) (hE : P.underlying E = some (.int .u64)) (hT : P.underlying T = some (.map K E)) (hz : (zeroValue E).run P w = .ok (.int .u64 0) w) (k : Int) (hk : (Lit.int .u64 k).wf = true) :
    (Instr.lookup T (.map (some mb)) (.int .u64 k) true).run P w = .ok (.tuple #[.int .u64 ((g k).getD 0), .bool (g k).isSome]) w := by
  obtain ⟨D, ho, hf, _⟩ := h
  obtain ⟨v, ps, hrun, hv⟩ := ho.look_ok (int_keyed hK) hT hz (plainElem_int hE (by decide)) (keyOf_int_mk hK hk)
  obtain ⟨b, rfl, hb, _⟩ := plainElem_int_inv hE hv
  rw [(hf k hk).2] at hb
  simp only [Prod.mk.injEq, DataW.lit.injEq, Lit.int.injEq, true_and] at hb
  rw [hrun, hb.1, (hf k hk).1]
theorem MapU.len (h : MapU P K E w mb n g c) (hT : P.underlying T = some (.map K E)) (ty : TypeId) : (Builtin.len_ #[T] ty #[.map (some mb)]).run P w = .ok (.int .i64 c) w := by
  obtain ⟨D, ho, _, hs⟩ := h
  rw [ho.len hT ty, hs]
theorem MapU.put (hK : P.underlying K = some (.int .u64)) {D : DataW Unit} (ho : w.ownsMap P K (plainElem P E) mb n D) (hf : ∀ k : Int, (Lit.int .u64 k).wf = true → Maps.has D (.int .u64 k) = (g k).isSome ∧ D.atKey (.int .u64 k) (.lit (.int .u64 0)) = .lit (.int .u64 ((g k).getD 0))) (hs : Maps.size D = c) (x : Int) (hx : (Lit.int .u64 x).wf = true) (hnew : g x = none) (v : Int)
    (ho' : w'.ownsMap P K (plainElem P E) mb (n + 1) (D.put (.int .u64 x) (.lit (.int .u64 v)))) : MapU P K E w' mb (n + 1) (fun k => if k = x then some v else g k) (c + 1) := by
  have hik := (int_keyed hK).key (keyOf_int_mk hK hx)
  refine ⟨_, ho', fun k hk => ?_, ?_⟩
  · by_cases e : k = x
    · subst e
      rw [atKey_put_same (ho.tidy (int_keyed hK)).isMap hik, has_put_same (ho.tidy (int_keyed hK)).isMap hik]
      simp
    · have hne : (Lit.int .u64 k) ≠ .int .u64 x := by intro h; simp only [Lit.int.injEq, true_and] at h; exact e h
      rw [atKey_put_other hne, has_put_other hne]
      simp only [if_neg e]
      exact hf k hk
  · rw [size_put (ho.tidy (int_keyed hK)), (hf x hx).1, hnew, hs]
    rfl
theorem MapU.del (hK : P.underlying K = some (.int .u64)) {D : DataW Unit} (ho : w.ownsMap P K (plainElem P E) mb n D) (hf : ∀ k : Int, (Lit.int .u64 k).wf = true → Maps.has D (.int .u64 k) = (g k).isSome ∧ D.atKey (.int .u64 k) (.lit (.int .u64 0)) = .lit (.int .u64 ((g k).getD 0))) (hs : Maps.size D = c + 1) (x : Int) (hx : (Lit.int .u64 x).wf = true) (hold : (g x).isSome = true)
    (ho' : w'.ownsMap P K (plainElem P E) mb n (D.del (.int .u64 x))) : MapU P K E w' mb n (fun k => if k = x then none else g k) c := by
  refine ⟨_, ho', fun k hk => ?_, ?_⟩
  · by_cases e : k = x
    · subst e
      rw [atKey_del_same, has_del_same]
      simp
    · have hne : (Lit.int .u64 k) ≠ .int .u64 x := by intro h; simp only [Lit.int.injEq, true_and] at h; exact e h
      rw [atKey_del_other hne, has_del_other hne]
      simp only [if_neg e]
      exact hf k hk
  · have := size_del (k := Lit.int .u64 x) (ho.tidy (int_keyed hK))
    rw [(hf x hx).1, hold, hs] at this
    simpa using this
end
end Go.Proofs.Ythamdbfilpegjaa
