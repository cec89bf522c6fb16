/-
  What stands here: among which entries the least deadline is: plain laws. Under no condition.
-/
import Derived.Test.YthinhbaklcijmaaDoorWheelSee
import Derived.Test.YthinhbaklcijmaaDoorBitsLeast
import Derived.Test.YthinhbaklcijmaaDoorRangeT
namespace Go.Proofs.YthinhbaklcijmaaDoor
set_option linter.unusedVariables false
set_option linter.unusedSimpArgs false
open Go.RowKit Go.Proofs
theorem zplc_lev0 {d n k : Nat} (h : n < d) (e : plc d n = k) (hk : k < 64) : d / 64 = n / 64 ∧ n % 64 < k ∧ d % 64 = k := by
  unfold plc at e
  split at e
  · omega
  · split at e
    · omega
    · split at e
      · omega
      · split at e
        · omega
        · omega
theorem zplc_lev1 {d n k : Nat} (h : n < d) (e : plc d n = 64 + k) (hk : k < 64) : d / 64 / 64 = n / 64 / 64 ∧ n / 64 % 64 < k ∧ d / 64 % 64 = k := by
  unfold plc at e
  split at e
  · omega
  · split at e
    · omega
    · split at e
      · omega
      · split at e
        · omega
        · omega
theorem zplc_lev2 {d n k : Nat} (h : n < d) (e : plc d n = 128 + k) (hk : k < 64) : d / 64 / 64 / 64 = n / 64 / 64 / 64 ∧ n / 64 / 64 % 64 < k ∧ d / 64 / 64 % 64 = k := by
  unfold plc at e
  split at e
  · omega
  · split at e
    · omega
    · split at e
      · omega
      · split at e
        · omega
        · omega
theorem zplc_lev3 {d n k : Nat} (h : n < d) (e : plc d n = 192 + k) (hk : k < 64) : d / 64 / 64 / 64 / 64 = n / 64 / 64 / 64 / 64 ∧ n / 64 / 64 / 64 % 64 < k ∧ d / 64 / 64 / 64 % 64 = k := by
  unfold plc at e
  split at e
  · omega
  · split at e
    · omega
    · split at e
      · omega
      · split at e
        · omega
        · omega
theorem zplc_bd {d n : Nat} (h : n < d) (e : plc d n = 256) : n / 64 / 64 / 64 / 64 < d / 64 / 64 / 64 / 64 := by
  unfold plc at e
  split at e
  · omega
  · split at e
    · omega
    · split at e
      · omega
      · split at e
        · omega
        · omega
/-- what stands at a lesser place is due ahead -/
theorem plc_less {d e n p q : Nat} (hd : n < d) (he : n < e) (hp : plc d n = p) (hq : plc e n = q) (h : p < q) : d < e := by
  have hq2 := plc_lt e n
  have hl : ∀ x p, n < x → plc x n = p → (p < 64 ∧ x / 64 = n / 64 ∧ n % 64 < p ∧ x % 64 = p) ∨ (64 ≤ p ∧ p < 128 ∧ x / 64 / 64 = n / 64 / 64 ∧ n / 64 % 64 < p - 64 ∧ x / 64 % 64 = p - 64) ∨ (128 ≤ p ∧ p < 192 ∧ x / 64 / 64 / 64 = n / 64 / 64 / 64 ∧ n / 64 / 64 % 64 < p - 128 ∧ x / 64 / 64 % 64 = p - 128) ∨ (192 ≤ p ∧ p < 256 ∧ x / 64 / 64 / 64 / 64 = n / 64 / 64 / 64 / 64 ∧ n / 64 / 64 / 64 % 64 < p - 192 ∧ x / 64 / 64 / 64 % 64 = p - 192) ∨ (p = 256 ∧ n / 64 / 64 / 64 / 64 < x / 64 / 64 / 64 / 64) := fun x p hx h1 => by
    have h9 := plc_lt x n
    rcases Nat.lt_or_ge p 64 with h2 | h2
    · exact .inl ⟨h2, zplc_lev0 hx h1 h2⟩
    · rcases Nat.lt_or_ge p 128 with h3 | h3
      · exact .inr (.inl ⟨h2, h3, zplc_lev1 hx (by omega) (by omega)⟩)
      · rcases Nat.lt_or_ge p 192 with h4 | h4
        · exact .inr (.inr (.inl ⟨h3, h4, zplc_lev2 hx (by omega) (by omega)⟩))
        · rcases Nat.lt_or_ge p 256 with h5 | h5
          · exact .inr (.inr (.inr (.inl ⟨h4, h5, zplc_lev3 hx (by omega) (by omega)⟩)))
          · exact .inr (.inr (.inr (.inr ⟨by omega, zplc_bd hx (by omega)⟩)))
  have h1 := hl d p hd hp
  have h2 := hl e q he hq
  clear hl hp hq hq2
  rcases h1 with h1 | h1 | h1 | h1 | h1 <;> rcases h2 with h2 | h2 | h2 | h2 | h2 <;> omega
/-- the first slot of a level that holds any -/
def lvFirst (pl : Nat → List Nat) (l : Nat) : Option Nat := (List.range 64).find? fun k => !(pl (l * 64 + k)).isEmpty
/-- what the map tells of it, and what stands there -/
def lvZ (pl : Nat → List Nat) (l : Nat) : Int := match lvFirst pl l with
  | some k => (k : Int)
  | none => -1
def lvXs (pl : Nat → List Nat) (l : Nat) : List Nat := match lvFirst pl l with
  | some k => pl (l * 64 + k)
  | none => []
/-- the entries of the first place that holds any, of the last j levels and what lies beyond -/
def fsq (pl : Nat → List Nat) : Nat → List Nat
  | 0 => pl 256
  | j + 1 => match lvFirst pl (3 - j) with
    | some k => pl ((3 - j) * 64 + k)
    | none => fsq pl j
theorem lvFirst_some {pl : Nat → List Nat} {l k : Nat} (h : lvFirst pl l = some k) : k < 64 ∧ pl (l * 64 + k) ≠ [] ∧ ∀ j, j < k → pl (l * 64 + j) = [] := by
  unfold lvFirst at h
  have h1 := List.find?_some h
  have h2 := List.mem_of_find?_eq_some h
  rw [List.mem_range] at h2
  refine ⟨h2, fun h9 => by simp [h9] at h1, fun j hj => ?_⟩
  rw [List.find?_eq_some_iff_append] at h
  obtain ⟨_, xs1, bs, e, h4⟩ := h
  have hlen : xs1.length = k := by
    have h5 : (List.range 64)[xs1.length]? = some k := by rw [e]; simp
    rw [List.getElem?_eq_some_iff] at h5
    obtain ⟨h6, h7⟩ := h5
    rw [List.getElem_range] at h7; exact h7
  have hjm : j ∈ xs1 := by
    have h5 : (List.range 64)[j]? = xs1[j]? := by rw [e, List.getElem?_append_left (by omega)]
    rw [List.getElem?_range (by omega)] at h5
    exact List.mem_of_getElem? h5.symm
  have := h4 j hjm
  simpa using this
theorem lvFirst_none {pl : Nat → List Nat} {l : Nat} (h : lvFirst pl l = none) : ∀ k, k < 64 → pl (l * 64 + k) = [] := fun k hk => by
  unfold lvFirst at h
  rw [List.find?_eq_none] at h
  have := h k (List.mem_range.2 hk)
  simpa using this
theorem fsq_xs {pl : Nat → List Nat} {l : Nat} (hl : l < 4) : lvXs pl l <+: fsq pl (4 - l) ∧ (lvXs pl l ≠ [] → fsq pl (4 - l) = lvXs pl l) ∧ (lvXs pl l = [] → fsq pl (4 - (l + 1)) = fsq pl (4 - l) ∧ ∀ k, k < 64 → pl (l * 64 + k) = []) := by
  have e : fsq pl (4 - l) = match lvFirst pl l with | some k => pl (l * 64 + k) | none => fsq pl (3 - l) := by
    rw [show 4 - l = (3 - l) + 1 by omega]
    show (match lvFirst pl (3 - (3 - l)) with | some k => pl ((3 - (3 - l)) * 64 + k) | none => fsq pl (3 - l)) = _
    rw [show 3 - (3 - l) = l by omega]
  rw [e, show 4 - (l + 1) = 3 - l by omega]
  unfold lvXs
  cases hlf : lvFirst pl l with
  | some k => exact ⟨List.prefix_refl _, fun _ => rfl, fun h9 => absurd h9 (lvFirst_some hlf).2.1⟩
  | none => exact ⟨List.nil_prefix, fun h9 => absurd rfl h9, fun _ => ⟨rfl, lvFirst_none hlf⟩⟩
theorem fsq_mem {pl : Nat → List Nat} : ∀ (j : Nat), j ≤ 4 → (∃ q, q < 257 ∧ (4 - j) * 64 ≤ q ∧ fsq pl j = pl q ∧ (pl q ≠ [] ∨ q = 256) ∧ ∀ r, (4 - j) * 64 ≤ r → r < q → pl r = [])
  | 0, _ => ⟨256, by omega, by omega, rfl, .inr rfl, fun r h1 h2 => by omega⟩
  | j + 1, hj => by
    show ∃ q, q < 257 ∧ (4 - (j + 1)) * 64 ≤ q ∧ (match lvFirst pl (3 - j) with | some k => pl ((3 - j) * 64 + k) | none => fsq pl j) = pl q ∧ (pl q ≠ [] ∨ q = 256) ∧ ∀ r, (4 - (j + 1)) * 64 ≤ r → r < q → pl r = []
    cases hl : lvFirst pl (3 - j) with
    | some k =>
      obtain ⟨h1, h2, h3⟩ := lvFirst_some hl
      refine ⟨(3 - j) * 64 + k, by omega, by omega, rfl, .inl h2, fun r h4 h5 => ?_⟩
      have := h3 (r - (3 - j) * 64) (by omega)
      rwa [show (3 - j) * 64 + (r - (3 - j) * 64) = r by omega] at this
    | none =>
      have h0 := lvFirst_none hl
      obtain ⟨q, h1, h2, h3, h4, h5⟩ := fsq_mem (pl := pl) j (by omega)
      refine ⟨q, h1, by omega, h3, h4, fun r h6 h7 => ?_⟩
      rcases Nat.lt_or_ge r ((4 - j) * 64) with h8 | h8
      · have := h0 (r - (3 - j) * 64) (by omega)
        rwa [show (3 - j) * 64 + (r - (3 - j) * 64) = r by omega] at this
      · exact h5 r h8 h7
/-- among them is one with the least deadline -/
theorem Right.least {due : Nat → Nat} {n : Nat} {pl : Nat → List Nat} (h : Right due n pl) {L : Nat} (h1 : ∃ e, e ∈ fsq pl 4 ∧ due e = L) (h2 : ∀ e, e ∈ fsq pl 4 → L ≤ due e) : (∃ e, Stands pl e ∧ due e = L) ∧ ∀ e, Stands pl e → L ≤ due e := by
  obtain ⟨q, g1, g2, g3, g4, g5⟩ := fsq_mem (pl := pl) 4 (by omega)
  rw [g3] at h1 h2
  obtain ⟨e0, he0, hd0⟩ := h1
  refine ⟨⟨e0, ⟨q, g1, he0⟩, hd0⟩, fun e ⟨r, hr, he⟩ => ?_⟩
  rcases Nat.lt_trichotomy r q with h3 | h3 | h3
  · rw [g5 r (by omega) h3] at he; cases he
  · exact h2 e (by rw [← h3]; exact he)
  · obtain ⟨a1, a2⟩ := h q e0 g1 he0
    obtain ⟨b1, b2⟩ := h r e hr he
    have := plc_less a1 b1 a2 b2 h3
    omega
theorem fsq_some {pl : Nat → List Nat} (h : ∃ e, Stands pl e) : fsq pl 4 ≠ [] := by
  obtain ⟨q, g1, g2, g3, g4, g5⟩ := fsq_mem (pl := pl) 4 (by omega)
  rw [g3]
  rcases g4 with g4 | g4
  · exact g4
  · obtain ⟨e, r, hr, he⟩ := h
    intro h9
    rcases Nat.lt_or_ge r q with h3 | h3
    · rw [g5 r (by omega) h3] at he; cases he
    · rw [show r = q by omega, h9] at he; cases he
/-- what the map tells -/
theorem from_first {u : Nat} {f : Nat → List Nat} {pl : Nat → List Nat} {l : Nat} (h : UsedOk u f) (hf : ∀ k, k < 64 → (f k = [] ↔ pl (l * 64 + k) = [])) : fromL (slots u) 0 = lvZ pl l := by
  have e : (slots u).find? (fun i : Nat => decide ((0 : Int) ≤ (i : Int))) = lvFirst pl l := by
    unfold slots lvFirst
    have h9 : ∀ l' : List Nat, (∀ x, x ∈ l' → x < 64) → (l'.filter fun i => u.testBit i).find? (fun a : Nat => decide ((0 : Int) ≤ (a : Int))) = l'.find? fun k => !(pl (l * 64 + k)).isEmpty := fun l' => by
      induction l' with
      | nil => intro _; rfl
      | cons x xs ih =>
        intro hx
        have hx64 := hx x (by simp)
        have ih' := ih (fun y hy => hx y (by simp [hy]))
        by_cases hb : pl (l * 64 + x) = []
        · have h1 : u.testBit x = false := by rw [h.2 x hx64]; exact decide_eq_false (fun h9 => h9 ((hf x hx64).2 hb))
          rw [List.filter_cons_of_neg (by rw [h1]; decide), List.find?_cons_of_neg (by rw [hb]; decide)]
          exact ih'
        · have h1 : u.testBit x = true := by rw [h.2 x hx64]; exact decide_eq_true (fun h9 => hb ((hf x hx64).1 h9))
          have h2 : (!(pl (l * 64 + x)).isEmpty) = true := by
            cases hp : pl (l * 64 + x) with
            | nil => exact absurd hp hb
            | cons _ _ => rfl
          rw [List.filter_cons_of_pos h1, List.find?_cons_of_pos (p := fun a : Nat => decide ((0 : Int) ≤ (a : Int))) (decide_eq_true (by omega)), List.find?_cons_of_pos (p := fun k => !(pl (l * 64 + k)).isEmpty) h2]
    exact h9 _ (fun x hx => List.mem_range.1 hx)
  unfold fromL lvZ
  rw [e]
  cases lvFirst pl l <;> rfl
end Go.Proofs.YthinhbaklcijmaaDoor
