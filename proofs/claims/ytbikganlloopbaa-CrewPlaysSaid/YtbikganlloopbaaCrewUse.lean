/-
  What stands here: workers of a crew, as a law meets them. Under no condition but that the world holds them.
-/
import Derived.Test.YtbikganlloopbaaCrewAll
namespace Go.Proofs.Ytbikganlloopbaa
set_option linter.unusedVariables false
set_option linter.unusedSimpArgs false
open Go.RowKit Go.Proofs
/-- the blocks of the crew's worker i -/
def PBk (f : Nat) (ks : List Nat) (W : World) (i y : Nat) : Prop := ∃ k, ks[i]? = some k ∧ ∃ q bx, WBq f k q bx W ∧ (y = k ∨ y = q ∨ y = bx)
theorem pb_uniq {f : Nat} {ks : List Nat} {W : World} (hn : ks.Nodup) {i j y : Nat} (h : PBk f ks W i y) (k : PBk f ks W j y) : i = j := by
  obtain ⟨a, ha, q, bx, ⟨h1, h2, h3⟩, h4⟩ := h
  obtain ⟨b, hb, q', bx', ⟨k1, k2, k3⟩, k4⟩ := k
  have key : a = b := by
    rcases h4 with rfl | rfl | rfl <;> rcases k4 with rfl | rfl | rfl
    · rfl
    · exact absurd rfl (h1.other_size k2 (by simp))
    · exact absurd rfl (h1.other_size k3 (by simp))
    · exact absurd rfl (h2.other_size k1 (by simp))
    · have e1 : W.cell? ⟨y, 0, none⟩ = some (takeM bx) := h2.cell 0
      have e2 : W.cell? ⟨y, 0, none⟩ = some (takeM bx') := k2.cell 0
      rw [e1] at e2
      simp at e2
      subst e2
      have e3 : W.cell? ⟨bx, 0, none⟩ = some (.pointer (some ⟨a, 0, none⟩)) := h3.cell 0
      have e4 : W.cell? ⟨bx, 0, none⟩ = some (.pointer (some ⟨b, 0, none⟩)) := k3.cell 0
      rw [e3] at e4
      simpa using e4
    · exact absurd rfl (h2.other_size k3 (by simp))
    · exact absurd rfl (h3.other_size k1 (by simp))
    · exact absurd rfl (h3.other_size k2 (by simp))
    · have e3 : W.cell? ⟨y, 0, none⟩ = some (.pointer (some ⟨a, 0, none⟩)) := h3.cell 0
      have e4 : W.cell? ⟨y, 0, none⟩ = some (.pointer (some ⟨b, 0, none⟩)) := k3.cell 0
      rw [e3] at e4
      simpa using e4
  subst key
  have hi : i < ks.length := (List.getElem?_eq_some_iff.1 ha).1
  exact (List.getElem?_inj hi hn).1 (ha.trans hb.symm)
open Classical in
theorem paint (col : Nat → Nat) {f : Nat} {ks : List Nat} {W0 W : World} (hn : ks.Nodup) (hw : ∀ k, k ∈ ks → ∃ q bx, WBq f k q bx W ∧ W0.heap.size ≤ k ∧ W0.heap.size ≤ q ∧ W0.heap.size ≤ bx) :
    ∃ col', Recol W0.heap.size col col' ∧ (∀ i k, ks[i]? = some k → Wk col' i f k 0 none W) ∧ ∀ b, W0.heap.size ≤ b → (∀ k, k ∈ ks → ∀ q bx, WBq f k q bx W → b ≠ k ∧ b ≠ q ∧ b ≠ bx) → col' b = 5 := by
  let col' : Nat → Nat := fun y => if y < W0.heap.size then col y else if h : ∃ i, PBk f ks W i y then 10 + Classical.choose h else 5
  have hc : ∀ i y, PBk f ks W i y → W0.heap.size ≤ y → col' y = 10 + i := fun i y h hy => by
    have hex : ∃ i, PBk f ks W i y := ⟨i, h⟩
    show (if y < W0.heap.size then col y else if h : ∃ i, PBk f ks W i y then 10 + Classical.choose h else 5) = _
    rw [if_neg (by omega), dif_pos hex, pb_uniq hn (Classical.choose_spec hex) h]
  refine ⟨col', fun y hy => if_pos hy, fun i k hk => ?_, fun b hb h => ?_⟩
  · obtain ⟨q, bx, h1, h2, h3, h4⟩ := hw k (List.mem_of_getElem? hk)
    exact ⟨q, bx, 0, ⟨h1.b1, hc i k ⟨k, hk, q, bx, h1, .inl rfl⟩ h2⟩, ⟨h1.b2, hc i q ⟨k, hk, q, bx, h1, .inr (.inl rfl)⟩ h3⟩, ⟨h1.b3, hc i bx ⟨k, hk, q, bx, h1, .inr (.inr rfl)⟩ h4⟩⟩
  · have hne : ¬ ∃ i, PBk f ks W i b := fun ⟨i, k, hk, q, bx, h1, h2⟩ => by
      obtain ⟨g1, g2, g3⟩ := h k (List.mem_of_getElem? hk) q bx h1
      rcases h2 with h2 | h2 | h2
      · exact g1 h2
      · exact g2 h2
      · exact g3 h2
    show (if b < W0.heap.size then col b else if h : ∃ i, PBk f ks W i b then 10 + Classical.choose h else 5) = 5
    rw [if_neg (by omega), dif_neg hne]
section
variable {col : Nat → Nat} {i f p g N M k : Nat} {cf : Nat → Int} {bz n : Int} {xs logs : List FiringV} {ho : Option FiringV} {w : World}
/-- zero of a firing -/
def zF : FiringV := ⟨0, 0, 0, 0⟩
theorem cw_may (h : CF col f p g N M cf bz xs logs w) (hM : M < 100000) (hk : Wk col i f k n ho w) :
    Calls Try.prog 11 #[.pointer (some ⟨k, 0, none⟩)] w fun e w' => e = .returned (.bool (ho.isSome || decide (0 < xs.length))) ∧ Still w w' := by
  match ho, hk with
  | none, ⟨q, bx, m, h1, h2, h3⟩ =>
    obtain ⟨s, sb, sh, c, l, mx, hf, cf1, hp, cp, cc, cy, hl, ha, hb⟩ := h
    have h9 := wmayfn hf hp (by omega) h3.1 h1.1
    exact cmay h1.1 _ (may_ask q _ _ _ _ m _ w h2.1 ⟨_, Try.func56, by kernel_rfl, by kernel_rfl⟩ _ h9)
  | some x, ⟨q, m, b1, b2, hb, cap, h1, h2, h3, h4⟩ =>
    exact cmay h1.1 true ((may_free q _ _ m _ w h2.1).mono fun e w' h => ⟨h.1, h.2 ▸ still_refl w⟩)
theorem cw_holds (hk : Wk col i f k n ho w) : Calls Try.prog 19 #[.pointer (some ⟨k, 0, none⟩)] w fun e w' => e = .returned (.tuple #[(ho.getD zF).v, .bool ho.isSome]) ∧ Still w w' := by
  match ho, hk with
  | none, ⟨q, bx, m, h1, h2, h3⟩ => exact cholds_no h1.1
  | some x, ⟨q, m, b1, b2, hb, cap, h1, h2, h3, h4⟩ =>
    obtain ⟨hcap, d0, d1, d2, d3⟩ := owns_firing h3
    exact cholds_yes hcap h1.1 d0 d1 d2 d3
theorem cw_worked (hk : Wk col i f k n ho w) : Calls Try.prog 15 #[.pointer (some ⟨k, 0, none⟩)] w fun e w' => e = .returned (.int .i64 n) ∧ w = w' := by
  match ho, hk with
  | none, ⟨q, bx, m, h1, h2, h3⟩ => exact cworked h1.1
  | some x, ⟨q, m, b1, b2, hb, cap, h1, h2, h3, h4⟩ => exact cworked h1.1
/-- the colours that a step of the worker i may turn -/
abbrev StS (i : Nat) (c : Nat) : Prop := c = 1 ∨ c = 2 ∨ c = 3 ∨ c = 6 ∨ c = 10 + i
theorem cw_take {x : FiringV} {rest : List FiringV} (h : CF col f p g N M cf bz (x :: rest) logs w) (hM : M < 100000) (hbz : 0 ≤ bz ∧ bz < 100000) (hk : Wk col i f k n none w) :
    Calls Try.prog 14 #[.pointer (some ⟨k, 0, none⟩)] w fun e w' => e = .returned (.bool true) ∧ ∃ col', Move (StS i) col col' w w' ∧ CF col' f p g N M cf (bz + 1) rest logs w' ∧ Wk col' i f k n (some x) w' := by
  obtain ⟨q, bx, m, h1, h2, h3⟩ := hk
  refine cstep (fun w' => ∃ col', Move (StS i) col col' w w' ∧ CF col' f p g N M cf (bz + 1) rest logs w' ∧ Wk col' i f k n (some x) w') h1.1 true ((pstep_take h hM hbz h1 h2 h3).mono ?_)
  rintro e w' ⟨rfl, col', m', h', k'⟩
  exact ⟨rfl, col', m'.mono (fun c h => by show _ ∨ _; omega), h', k'⟩
theorem cw_put {x : FiringV} (h : CF col f p g N M cf bz xs logs w) (hM : logs.length < 1000000) (hbz : 1 ≤ bz ∧ bz < 100000) (hn : 0 ≤ n ∧ n < 1000000) (hk : Wk col i f k n (some x) w) :
    Calls Try.prog 14 #[.pointer (some ⟨k, 0, none⟩)] w fun e w' => e = .returned (.bool true) ∧ ∃ col', Move (StS i) col col' w w' ∧ CF col' f p g N M cf (bz - 1) xs (logs ++ [x]) w' ∧ Wk col' i f k (n + 1) none w' := by
  obtain ⟨q, m, b1, b2, hb, cap, h1, h2, h3, h4⟩ := hk
  refine cstep (fun w' => ∃ col', Move (StS i) col col' w w' ∧ CF col' f p g N M cf (bz - 1) xs (logs ++ [x]) w' ∧ Wk col' i f k (n + 1) none w') h1.1 true ((pstep_put h hM hbz hn h1 h2 h3 h4).mono ?_)
  rintro e w' ⟨rfl, col', m', h', k'⟩
  exact ⟨rfl, col', m'.mono (fun c h => by show _ ∨ _; omega), h', k'⟩
theorem cw_no (h : CF col f p g N M cf bz [] logs w) (hM : M < 100000) (hk : Wk col i f k n none w) :
    Calls Try.prog 14 #[.pointer (some ⟨k, 0, none⟩)] w fun e w' => e = .returned (.bool false) ∧ Still w w' := by
  obtain ⟨q, bx, m, h1, h2, h3⟩ := hk
  obtain ⟨s, sb, sh, c, l, mx, hf, cf1, hp, cp, cc, cy, hl, ha, hb⟩ := h
  have h9 := wmayfn hf hp (by simp) h3.1 h1.1
  exact cstep (Still w) h1.1 false (step_no _ w (may_ask q _ _ _ _ m _ w h2.1 ⟨_, Try.func56, by kernel_rfl, by kernel_rfl⟩ _ h9))
end
end Go.Proofs.Ytbikganlloopbaa
