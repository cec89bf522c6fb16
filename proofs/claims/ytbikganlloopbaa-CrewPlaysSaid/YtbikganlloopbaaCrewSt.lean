/-
  What stands here: what a crew's state keeps, and All of its pipe. Under no condition but that the world holds it.
-/
import Derived.Test.YtbikganlloopbaaCrewAlive
import Derived.Test.YtbikganlloopbaaCrewKept
import Derived.Test.YtbikganlloopbaaFAll2
import Derived.Laws.AppendOwnNone
namespace Go.Proofs.Ytbikganlloopbaa
set_option linter.unusedVariables false
set_option linter.unusedSimpArgs false
open Go.RowKit Go.Proofs
abbrev CSs (base : Nat) (col : Nat → Nat) (f p g N M : Nat) (cf : Nat → Int) (s : CSt) (ks : List Nat) (lv : Value) (w W : World) : Prop := CS base col f p g N M cf s.bz s.xs s.logs ks s.ns s.hs lv w W
/-- a worker's place in the row -/
theorem CS.at_ {base : Nat} {col : Nat → Nat} {f p g N M : Nat} {cf : Nat → Int} {bz : Int} {xs logs : List FiringV} {ks : List Nat} {ns : Nat → Int} {hs : Nat → Option FiringV} {a : Option Addr} {n cap : Nat} {w W : World} (h : CS base col f p g N M cf bz xs logs ks ns hs (.slice a n cap) w W) (hn : n = ks.length) (i : Nat) (hi : i < n) :
    ∃ b o k, a = some ⟨b, o, none⟩ ∧ b < W.heap.size ∧ col b = 5 ∧ ks[i]? = some k ∧ W.cell? ⟨b, o + i, none⟩ = some (.pointer (some ⟨k, 0, none⟩)) := by
  obtain ⟨a', cap', hv, hl, hm, h0⟩ := h.row
  rw [ptrs_len] at hv hl h0
  simp only [Value.slice.injEq] at hv
  obtain ⟨rfl, -, rfl⟩ := hv
  obtain ⟨b, o, ha, hb, h5, hc⟩ := h0 (by omega)
  obtain ⟨k, hk⟩ : ∃ k, ks[i]? = some k := ⟨_, List.getElem?_eq_getElem (by omega)⟩
  refine ⟨b, o, k, ha, hb, h5, hk, ?_⟩
  rw [hc i (by omega)]
  unfold ptrs
  rw [List.getElem?_map, hk]; rfl
/-- All of the floor's pipe: a row of the colour 7 -/
theorem cs_pall {base : Nat} {col : Nat → Nat} {f p g N M : Nat} {cf : Nat → Int} {bz : Int} {xs logs : List FiringV} {ks : List Nat} {ns : Nat → Int} {hs : Nat → Option FiringV} {lv : Value} {w W : World} (h : CS base col f p g N M cf bz xs logs ks ns hs lv w W) (hM : M < 90000) :
    Calls Try.prog 27 #[.pointer (some ⟨p, 0, none⟩)] W fun e w' => ∃ v col', e = .returned v ∧ Move (· = 2) col col' W w' ∧ CS base col' f p g N M cf bz xs logs ks ns hs lv w w' ∧ Owns col' 7 w' 40 4 v xs.length (cells4 xs) := by
  obtain ⟨s, sb, sh, c, l, mx, hf, cf1, hp, cp, cc, cy, hl, ha, hb⟩ := h.st
  refine (pall_f W hp (by omega)).mono ?_
  rintro e w1 ⟨⟨v, rfl, ho⟩, P1, k1⟩
  have m1 : Move (· = 2) col (ext col W.heap.size 7) W w1 := Move.ext (k1.mono fun y _ hy => by rw [hy]; exact cc) 7
  refine ⟨v, _, rfl, m1, ⟨h.fr.move m1 (by omega), ⟨s, sb, sh, c, l, mx, hf.kept m1.k (fun e => by rw [cf1] at e; omega), (m1.re f hf.lt).trans cf1, P1, (m1.re p hp.blk.lt).trans cp, (m1.re c hp.ch.lt).trans cc, fun y hy => (m1.re y (hp.in2 hy)).trans (cy y hy), hl.move m1 (by omega) (by omega), ha, hb⟩, fun i x hx => (h.wk i x hx).move m1 (by omega), vrow_move h.row m1 (by omega)⟩, ⟨owns_base ho (Nat.zero_le _), fun y hy => ext_new _ (owns_block ho y hy)⟩⟩
theorem held_le (k : Nat) (hs : Nat → Option FiringV) : (held k hs).length ≤ k := by
  have := List.length_filterMap_le hs (List.range k)
  unfold held
  rw [List.length_range] at this
  exact this
theorem cells4_app (a b : List FiringV) : cells4 (a ++ b) = cells4 a ++ cells4 b := by unfold cells4; simp
/-- a step that turns nothing of a crew's -/
theorem CS.move {base : Nat} {col col' : Nat → Nat} {f p g N M : Nat} {cf : Nat → Int} {bz : Int} {xs logs : List FiringV} {ks : List Nat} {ns : Nat → Int} {hs : Nat → Option FiringV} {lv : Value} {w W W' : World} (h : CS base col f p g N M cf bz xs logs ks ns hs lv w W) {S : Nat → Prop} (m : Move S col col' W W') (hS : ∀ c, S c → c = 7 ∨ c = 8) : CS base col' f p g N M cf bz xs logs ks ns hs lv w W' :=
  have hn : ∀ {c}, c ≠ 7 → c ≠ 8 → ¬ S c := fun h7 h8 h => (hS _ h).elim h7 h8
  ⟨h.fr.move m (hn (by omega) (by omega)), h.st.move m (hn (by omega) (by omega)) (hn (by omega) (by omega)) (hn (by omega) (by omega)) (hn (by omega) (by omega)), fun i x hx => (h.wk i x hx).move m (hn (by omega) (by omega)), vrow_move h.row m (hn (by omega) (by omega))⟩
end Go.Proofs.Ytbikganlloopbaa
