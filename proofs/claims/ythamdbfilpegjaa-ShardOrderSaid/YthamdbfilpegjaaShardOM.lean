/-
  What stands here: what is told of tasks that are armed, in a map: a plain law, and the world that holds it. Under no condition.
-/
import Derived.Test.YthamdbfilpegjaaShardAlive
import Derived.Test.YthamdbfilpegjaaMapU
namespace Go.Proofs.Ythamdbfilpegjaa
set_option linter.unusedVariables false
set_option linter.unusedSimpArgs false
open Go.RowKit Go.Proofs
theorem still_cl {w w' : World} (k : Still w w') {p : Addr} {v : Value} (h : w.cell? p = some v) : w'.cell? p = some v :=
  (World.cell?_of_block (a := p) (k.block p.block (lt_of_cell h) (fun f => f))).trans h
/-- entries A, of numbers idn, whose deadlines a map g tells -/
structure OM (g : Int → Option Int) (Z : Nat → TaskV) (idn due : Nat → Nat) (A : Nat → Prop) (N : Nat) : Prop where
  val : ∀ e, A e → (Z e).id = idn e ∧ (Z e).dl = due e
  rng : ∀ e, A e → 1 ≤ idn e ∧ idn e ≤ N
  has : ∀ e, A e → g (idn e) = some (due e : Int)
  inj : ∀ e f, A e → A f → idn e = idn f → e = f
  back : ∀ k d, g k = some d → ∃ e, A e ∧ k = idn e
section
variable {g : Int → Option Int} {Z : Nat → TaskV} {idn due : Nat → Nat} {A B : Nat → Prop} {N : Nat}
theorem OM.zero (Z : Nat → TaskV) (idn due : Nat → Nat) (h : ∀ e, ¬ A e) : OM (fun _ => none) Z idn due A 0 :=
  ⟨fun e he => absurd he (h e), fun e he => absurd he (h e), fun e he => absurd he (h e), fun e _ he => absurd he (h e), fun _ _ h9 => by cases h9⟩
theorem OM.free (h : OM g Z idn due A N) {k : Int} (hk : k < 1 ∨ (N : Int) < k) : g k = none := by
  cases hg : g k with
  | none => rfl
  | some d =>
    obtain ⟨e, he, rfl⟩ := h.back k d hg
    have := h.rng e he
    omega
theorem OM.arm (h : OM g Z idn due A N) {e d : Nat} (hn : ¬ A e) (z : TaskV) (hz : z.id = ((N + 1 : Nat) : Int) ∧ z.dl = d) (hB : ∀ y, B y ↔ A y ∨ y = e) :
    OM (fun k => if k = ((N + 1 : Nat) : Int) then some (d : Int) else g k) (upd Z e z) (upd idn e (N + 1)) (upd due e d) B (N + 1) := by
  have ne : ∀ y, A y → y ≠ e := fun y hy e9 => hn (e9 ▸ hy)
  refine ⟨fun y hy => ?_, fun y hy => ?_, fun y hy => ?_, fun x y hx hy e9 => ?_, fun k d' hk => ?_⟩
  · rcases (hB y).1 hy with h1 | rfl
    · rw [upd_ne _ _ (ne y h1), upd_ne _ _ (ne y h1), upd_ne _ _ (ne y h1)]; exact h.val y h1
    · rw [upd_same, upd_same, upd_same]; exact hz
  · rcases (hB y).1 hy with h1 | rfl
    · rw [upd_ne _ _ (ne y h1)]; have := h.rng y h1; omega
    · rw [upd_same]; omega
  · rcases (hB y).1 hy with h1 | rfl
    · have := h.rng y h1
      rw [upd_ne _ _ (ne y h1), upd_ne _ _ (ne y h1), if_neg (by omega)]; exact h.has y h1
    · rw [upd_same, upd_same, if_pos rfl]
  · rcases (hB x).1 hx with h1 | rfl
    · rcases (hB y).1 hy with h2 | rfl
      · rw [upd_ne _ _ (ne x h1), upd_ne _ _ (ne y h2)] at e9; exact h.inj x y h1 h2 e9
      · rw [upd_ne _ _ (ne x h1), upd_same] at e9; have := h.rng x h1; omega
    · rcases (hB y).1 hy with h2 | rfl
      · rw [upd_ne _ _ (ne y h2), upd_same] at e9; have := h.rng y h2; omega
      · rfl
  · by_cases hkn : k = ((N + 1 : Nat) : Int)
    · exact ⟨e, (hB e).2 (.inr rfl), by rw [upd_same, hkn]⟩
    · rw [if_neg hkn] at hk
      obtain ⟨y, hy, e9⟩ := h.back k d' hk
      exact ⟨y, (hB y).2 (.inl hy), by rw [upd_ne _ _ (ne y hy)]; exact e9⟩
theorem OM.del (h : OM g Z idn due A N) {e : Nat} (he : A e) (hB : ∀ y, B y ↔ A y ∧ y ≠ e) : OM (fun k => if k = (idn e : Int) then none else g k) Z idn due B N := by
  refine ⟨fun y hy => h.val y ((hB y).1 hy).1, fun y hy => h.rng y ((hB y).1 hy).1, fun y hy => ?_, fun x y hx hy e9 => h.inj x y ((hB x).1 hx).1 ((hB y).1 hy).1 e9, fun k d hk => ?_⟩
  · obtain ⟨h1, h2⟩ := (hB y).1 hy
    rw [if_neg (fun h9 => h2 (h.inj y e h1 he (by omega)))]; exact h.has y h1
  · by_cases hke : k = (idn e : Int)
    · rw [if_pos hke] at hk; cases hk
    · rw [if_neg hke] at hk
      obtain ⟨y, hy, e9⟩ := h.back k d hk
      exact ⟨y, (hB y).2 ⟨hy, fun e8 => hke (by rw [e9, e8])⟩, e9⟩
theorem OM.same (h : OM g Z idn due A N) (hB : ∀ y, B y ↔ A y) : OM g Z idn due B N := by
  have : B = A := funext fun y => propext (hB y)
  rw [this]; exact h
end
/-- a shard and a map beside it -/
structure OX (ls : LS) (v : Nat) (lv : Nat → Nat) (sl : Nat → Nat → Nat) (bd : Nat) (S : WSt) (s r l : Nat) (mb m c : Nat) (g : Int → Option Int) (w W : World) : Prop where
  x : SX ls v lv sl bd S s r l w W
  mp : MapU Try.prog 29 29 W mb m g c
  mz : ls.kd mb = 0
  mw : w.heap.size ≤ mb
section
variable {ls ls' : LS} {v : Nat} {lv : Nat → Nat} {sl : Nat → Nat → Nat} {bd : Nat} {S S' : WSt} {s r l : Nat} {mb m m' c c' : Nat} {g g' : Int → Option Int} {w W W' : World}
theorem OX.turn (h : OX ls v lv sl bd S s r l mb m c g w W) (x : SX ls' v lv sl bd S' s r l w W') (kd : ∀ y, y < W.heap.size → ls'.kd y = ls.kd y) (k : Kept (fun y => ls.kd y ≠ 0) W W') : OX ls' v lv sl bd S' s r l mb m c g w W' :=
  ⟨x, h.mp.kept k (fun h9 => h9 h.mz), (kd _ h.mp.lt).trans h.mz, h.mw⟩
theorem OX.still (h : OX ls v lv sl bd S s r l mb m c g w W) (k : Still W W') : OX ls v lv sl bd S s r l mb m c g w W' := ⟨h.x.still k, h.mp.kept k (fun f => f), h.mz, h.mw⟩
theorem OX.put (h : OX ls v lv sl bd S s r l mb m c g w W) (mp : MapU Try.prog 29 29 W' mb m' g' c') (hne : s ≠ mb) (gr : W.grownBy W' (some mb)) : OX ls v lv sl bd S s r l mb m' c' g' w W' ∧ Kept (fun y => y = mb) W W' := by
  have k : Kept (fun y => y = mb) W W' := Kept.grown (Kept.refl _ _) gr (fun y hy _ => by cases hy; rfl)
  exact ⟨⟨⟨h.x.x.keep k (fun y hy => by rw [hy]; exact ⟨h.mz, h.mw⟩), Blk.kept h.x.sh k hne, h.x.ks, h.x.hs⟩, mp, h.mz, h.mw⟩, k⟩
end
end Go.Proofs.Ythamdbfilpegjaa
