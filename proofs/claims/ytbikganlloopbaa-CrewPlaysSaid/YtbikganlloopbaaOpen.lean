/-
  What stands here: what a slice that came in tells the walk, whatever its elements: the cells of each element, and how they read. Under no condition.
-/
import Derived.Test.YtbikganlloopbaaLib
import Derived.ProofKit
import Derived.Deep.Slices
namespace Go.Proofs.Ytbikganlloopbaa
set_option linter.unusedVariables false
set_option linter.unusedSimpArgs false
open Go Go.RowKit Go.Proofs Go.Deep Go.ChangeShapes Go.WideShapes Go.ChangeAt

section
variable {H : Type} {enc : TypeId × Value → H} {P : Program} {w : World} {spare : Nat → Bool} {held : Bool}

theorem open_rows {t e k fuel : Nat} {a : Option Addr} {len cap : Nat} {x : DataW H × List MemPlace} (ht : P.underlying t = some (.slice e)) (ce : P.cellsOf e = k) (hk : 0 < k)
    (h : DataW.trod enc P w 0 spare held fuel t [.slice a len cap] = some x) (hsp : ∀ b, spare b = true) :
    (len ≤ cap ∧ cap ≤ maxLen) ∧ (0 < len → ∃ b o n, a = some ⟨b, o, none⟩ ∧ b < w.heap.size ∧ ∀ i, i < len → ∃ (cs : List Value) (d : DataW H × List MemPlace), cs.length = k ∧
      (∀ j, j < k → w.cell? ⟨b, o + i * k + j, none⟩ = cs[j]?) ∧ DataW.trod enc P w 0 spare held n e cs = some d) := by
  rcases open_slice ht h with ⟨h0, _⟩ | ⟨x', l, c, m, n, D, Pl, h0, _, hl, hm, hmm, rfl, hx⟩
  · simp only [List.cons.injEq, Value.slice.injEq, and_true] at h0
    obtain ⟨rfl, rfl, rfl⟩ := h0
    exact ⟨⟨Nat.le_refl _, Nat.zero_le _⟩, fun h => absurd h (by omega)⟩
  · simp only [List.cons.injEq, Value.slice.injEq, and_true] at h0
    obtain ⟨rfl, rfl, rfl⟩ := h0
    rw [hsp, if_pos rfl] at hmm
    subst hmm
    refine ⟨⟨by omega, by omega⟩, fun hpos => ?_⟩
    rw [ce] at hx
    have hcell : ∀ i, i < len → ∃ (cs : List Value) (d : DataW H × List MemPlace), cs.length = k ∧ (∀ j, j < k → w.cell? ((x'.add (i * k)).add j) = cs[j]?) ∧ DataW.trod enc P w 0 spare held n e cs = some d := by
      intro i hi
      obtain ⟨cs, h1, h2⟩ := hx i (by omega)
      obtain ⟨_, h3, h4⟩ := World.cells?_some h1
      exact ⟨cs, _, h3, h4, h2⟩
    obtain ⟨cs, _, h3, h4, _⟩ := hcell 0 hpos
    have hc0 : ∃ v, w.cell? x' = some v := by
      have := h4 0 hk
      rw [Nat.zero_mul] at this
      simp only [Addr.add, if_true] at this
      exact ⟨cs[0], by rw [this]; exact List.getElem?_eq_getElem (by omega)⟩
    obtain ⟨v, hv⟩ := hc0
    have hs := spot_of_cell hv
    have hlt := lt_of_cell hv
    obtain ⟨b, o, s⟩ := x'
    obtain rfl : s = none := hs
    refine ⟨b, o, n, rfl, hlt, fun i hi => ?_⟩
    obtain ⟨cs, d, h3, h4, h5⟩ := hcell i hi
    exact ⟨cs, d, h3, fun j hj => by have := h4 j hj; rwa [addr_add, addr_add] at this, h5⟩

theorem field_at {e : TypeId} {fs : Array Field} {fuel : Nat} {cs : List Value} {d : DataW H × List MemPlace} (he : P.underlying e = some (.struct fs)) (h : DataW.trod enc P w 0 spare held fuel e cs = some d)
    (i : Nat) {f : Field} (hf : fs[i]? = some f) (hc : P.cellsOf f.type = 1) (ho : f.offset < cs.length) : ∃ v n d', cs[f.offset]? = some v ∧ DataW.trod enc P w 0 spare held n f.type [v] = some d' := by
  obtain ⟨xs, n, _, _, hlen, hxl, hfs⟩ := DataW.trod_struct he h
  have h1 := hfs i f hf
  rw [hc] at h1
  have hi : i < xs.length := by rw [hxl]; exact (Array.getElem?_eq_some_iff.1 hf).1
  rw [List.getElem?_eq_getElem hi] at h1
  have h2 : (cs.drop f.offset).take 1 = [cs[f.offset]] := by
    rw [List.drop_eq_getElem_cons ho]; rfl
  rw [h2] at h1
  exact ⟨_, _, _, List.getElem?_eq_getElem ho, h1⟩
theorem field_in {e : TypeId} {fs : Array Field} {fuel m : Nat} {cs : List Value} {d : DataW H × List MemPlace} (he : P.underlying e = some (.struct fs)) (h : DataW.trod enc P w 0 spare held fuel e cs = some d)
    (i : Nat) {f : Field} (hf : fs[i]? = some f) (hc : P.cellsOf f.type = m) (ho : f.offset + m ≤ cs.length) : ∃ n d' cs', cs'.length = m ∧ (∀ j, j < m → cs'[j]? = cs[f.offset + j]?) ∧ DataW.trod enc P w 0 spare held n f.type cs' = some d' := by
  obtain ⟨xs, n, _, _, hlen, hxl, hfs⟩ := DataW.trod_struct he h
  have h1 := hfs i f hf
  rw [hc] at h1
  have hi : i < xs.length := by rw [hxl]; exact (Array.getElem?_eq_some_iff.1 hf).1
  rw [List.getElem?_eq_getElem hi] at h1
  exact ⟨_, _, _, by rw [List.length_take, List.length_drop]; omega, fun j hj => by rw [List.getElem?_take_of_lt hj, List.getElem?_drop], h1⟩
theorem val_int {t : TypeId} {k : IntKind} {n : Nat} {v : Value} {d : DataW H × List MemPlace} (ht : P.underlying t = some (.int k)) (h : DataW.trod enc P w 0 spare held n t [v] = some d) : ∃ m, v = .int k m ∧ (Lit.int k m).wf = true := by
  obtain ⟨m, h1, _, h2⟩ := DataW.trod_int ht h
  exact ⟨m, by simpa using h1, h2⟩
theorem val_bool {t : TypeId} {n : Nat} {v : Value} {d : DataW H × List MemPlace} (ht : P.underlying t = some .bool) (h : DataW.trod enc P w 0 spare held n t [v] = some d) : ∃ b, v = .bool b := by
  obtain ⟨m, h1, _⟩ := DataW.trod_bool ht h
  exact ⟨m, by simpa using h1⟩
theorem val_ints {t e : TypeId} {k : IntKind} {n : Nat} {v : Value} {d : DataW H × List MemPlace} (ht : P.underlying t = some (.slice e)) (he : P.underlying e = some (.int k)) (hc : P.cellsOf e = 1) (hsp : ∀ b, spare b = true)
    (h : DataW.trod enc P w 0 spare held n t [v] = some d) : ∃ a len cap zs, v = .slice a len cap ∧ IsRow k w a len cap zs := by
  rcases open_ints ht he hc h with ⟨hcs, _⟩ | ⟨x, l, c, zs, hcs, _, hl, hm, hz, _, hcell, hwz⟩
  · exact ⟨none, 0, 0, [], by simpa using hcs, .inl ⟨rfl, rfl, rfl, rfl⟩⟩
  · rw [hsp, if_pos rfl] at hz
    exact ⟨some x, l, c, zs, by simpa using hcs, .inr ⟨x, rfl, hl, hm, hz, hcell, hwz⟩⟩
end
end Go.Proofs.Ytbikganlloopbaa
