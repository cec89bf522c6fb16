/-
  What stands here: what it means that a stage makes its steps, and what the functions of a program of stages do with it. Under no condition.
-/
import Derived.Test.YtbikganlloopbaaLib
import Derived.Test.YtbikganlloopbaaRow
namespace Go.Proofs.Ytbikganlloopbaa
set_option linter.unusedVariables false
set_option linter.unusedSimpArgs false
open Go.RowKit Go.Proofs

/-- W' has the blocks of Fp as W has them -/
structure Agree (Fp : Nat → Prop) (W W' : World) : Prop where
  size : W.heap.size ≤ W'.heap.size
  block : ∀ b, Fp b → W'.heap[b]? = W.heap[b]?
theorem Agree.refl (Fp : Nat → Prop) (W : World) : Agree Fp W W := ⟨Nat.le_refl _, fun _ _ => rfl⟩
theorem Agree.trans {Fp : Nat → Prop} {A B C : World} (h : Agree Fp A B) (k : Agree Fp B C) : Agree Fp A C := ⟨Nat.le_trans h.size k.size, fun b hb => (k.block b hb).trans (h.block b hb)⟩
theorem Agree.less {Fp Gp : Nat → Prop} {A B : World} (h : Agree Fp A B) (hs : ∀ b, Gp b → Fp b) : Agree Gp A B := ⟨h.size, fun b hb => h.block b (hs b hb)⟩
theorem Agree.of_kept {Fp S : Nat → Prop} {A B : World} (h : Kept S A B) (hd : ∀ b, Fp b → ¬ S b) (hl : ∀ b, Fp b → b < A.heap.size) : Agree Fp A B := ⟨h.size, fun b hb => h.block b (hl b hb) (hd b hb)⟩
theorem Blk.agree {Fp : Nat → Prop} {A B : World} {b : Nat} {c : Array Value} {t : TypeId} (h : Blk A b c t) (k : Agree Fp A B) (hb : Fp b) : Blk B b c t := by
  unfold Blk at *; rw [k.block b hb]; exact h

/-- what a step turned: blocks of M, or new ones; M' and Fp' are what may be turned, and what must stay, from then on -/
structure Moved (M M' Fp Fp' : Nat → Prop) (W W' : World) : Prop where
  kept : Kept M W W'
  may_ : ∀ b, M' b → M b ∨ W.heap.size ≤ b
  fp : ∀ b, Fp' b → Fp b ∨ W.heap.size ≤ b
  apart : ∀ b, Fp' b → ¬ M' b

theorem VRow.agree {Q Fp : Nat → Prop} {A B : World} {v : Value} {xs : List Value} (h : VRow Q A v xs) (k : Agree Fp A B) (hQ : ∀ b, Q b → Fp b) : VRow Q B v xs := by
  obtain ⟨a, cap, hv, hl, hm, h0⟩ := h
  refine ⟨a, cap, hv, hl, hm, fun hp => ?_⟩
  obtain ⟨b, o, ha, hb, hq, hc⟩ := h0 hp
  exact ⟨b, o, ha, Nat.lt_of_lt_of_le hb k.size, hq, fun j hj => (World.cell?_of_block (a := ⟨b, o + j, none⟩) (k.block b (hQ b hq))).trans (hc j hj)⟩

/-- what may hold a step back: nothing, or a function that Q tells, where steps are left -/
def MayOk {σ : Type} (Q : Value → Prop) (p : List σ) (may : Value) : Prop := (may = .nilFunc ∨ ∃ F caps, may = .func (.func F) #[] caps) ∧ (p ≠ [] → Q may)
theorem mayOk_nil {σ : Type} {Q : Value → Prop} (hQ : Q .nilFunc) (p : List σ) : MayOk Q p .nilFunc := ⟨.inl rfl, fun _ => hQ⟩

section
variable {σ : Type} (P : Program) (Q : Value → Prop) (I : σ → (Nat → Prop) → World → Prop)

/-- the function value d makes the steps from s on, through the states p; Q tells of what may hold a stage back -/
def Does : σ → List σ → (Nat → Prop) → World → Value → Prop
  | _, [], Fp, W, d => d = .nilFunc
  | s, s' :: p, Fp, W, d => (∀ b, Fp b → b < W.heap.size) ∧ ∃ F caps, d = .func (.func F) #[] caps ∧ Callable P F ∧
      ∀ W' M, Agree Fp W W' → I s M W' → (∀ b, Fp b → ¬ M b) → Calls P F caps W' fun e W'' =>
        ∃ may d' M' Fp', e = .returned (.agg #[may, d']) ∧ I s' M' W'' ∧ Moved M M' Fp Fp' W' W'' ∧ MayOk Q p may ∧ Does s' p Fp' W'' d'

theorem does_agree {s : σ} {p : List σ} {Fp : Nat → Prop} {W W' : World} {d : Value} (h : Does P Q I s p Fp W d) (k : Agree Fp W W') : Does P Q I s p Fp W' d := by
  match p, h with
  | [], h => exact h
  | s' :: p, h =>
    obtain ⟨hl, F, caps, hd, hc, hs⟩ := h
    exact ⟨fun b hb => Nat.lt_of_lt_of_le (hl b hb) k.size, F, caps, hd, hc, fun W'' M k' => hs W'' M (k.trans k')⟩

theorem does_cases {s : σ} {p : List σ} {Fp : Nat → Prop} {W : World} {d : Value} (h : Does P Q I s p Fp W d) : d = .nilFunc ∨ ∃ F caps, d = .func (.func F) #[] caps := by
  match p, h with
  | [], h => exact .inl h
  | s' :: p, h => obtain ⟨_, F, caps, hd, _⟩ := h; exact .inr ⟨F, caps, hd⟩

/-- a call that lays its result's cell, lets an action happen, asks for what is left, and puts that into the cell -/
theorem does_end {s' : σ} {p : List σ} {Fp Fp1 Fp3 M M1 : Nat → Prop} {W A w2 w3 : World} {d x : Value} (hlt : ∀ s M W, I s M W → ∀ b, M b → b < W.heap.size) (hI : ∀ s M A B, I s M A → Kept (fun b => ¬ M b) A B → I s M B)
    (hM : ∀ b, M b → b < W.heap.size) (hF1 : ∀ b, Fp b → Fp1 b) (hFl : ∀ b, Fp b → b < W.heap.size) (ka : Still W A) (hz : W.heap.size < A.heap.size) (hi1 : I s' M1 w2) (mv : Moved M M1 Fp Fp A w2) (k3 : Still w2 w3) (hF3 : ∀ b, Fp3 b → Fp b ∨ w2.heap.size ≤ b) (hD : Does P Q I s' p Fp3 w3 d) (y : Value) :
    I s' M1 ((w3.setCell ⟨W.heap.size, 0, none⟩ x).setCell ⟨W.heap.size, 1, none⟩ y) ∧ Moved M M1 Fp1 Fp3 W ((w3.setCell ⟨W.heap.size, 0, none⟩ x).setCell ⟨W.heap.size, 1, none⟩ y) ∧ Does P Q I s' p Fp3 ((w3.setCell ⟨W.heap.size, 0, none⟩ x).setCell ⟨W.heap.size, 1, none⟩ y) d := by
  have hR : ¬ M W.heap.size := fun h => by have := hM _ h; omega
  have hR1 : ¬ M1 W.heap.size := fun h => by (rcases mv.may_ _ h with h | h; exact hR h; omega)
  have hsz := mv.kept.size
  have kk : Kept (fun b => b = W.heap.size) w2 ((w3.setCell ⟨W.heap.size, 0, none⟩ x).setCell ⟨W.heap.size, 1, none⟩ y) := ((k3.mono (fun _ _ f => f.elim) : Only W.heap.size w2 w3).put 0 x).put 1 y
  have kw : Kept (fun b => b = W.heap.size) w3 ((w3.setCell ⟨W.heap.size, 0, none⟩ x).setCell ⟨W.heap.size, 1, none⟩ y) := ((only_refl W.heap.size w3).put 0 x).put 1 y
  refine ⟨hI _ _ _ _ hi1 (kk.mono (fun b _ e => by subst e; exact hR1)), ⟨((ka.then mv.kept).step kk (fun b hb e => by omega)), fun b hb => ?_, fun b hb => ?_, fun b hb hm => ?_⟩, ?_⟩
  · rcases mv.may_ b hb with h | h
    · exact .inl h
    · exact .inr (by omega)
  · rcases hF3 b hb with h | h
    · exact .inl (hF1 b h)
    · exact .inr (by omega)
  · rcases hF3 b hb with h | h
    · exact mv.apart b h hm
    · have := hlt _ _ _ hi1 b hm; omega
  · match p, hD with
    | [], hD => exact hD
    | s'' :: p, hD =>
      refine does_agree P Q I hD (Agree.of_kept kw (fun b hb e => ?_) hD.1)
      rcases hF3 b hb with h | h
      · have := hFl b h; omega
      · omega

/-- the same behind two calls -/
theorem does_end2 {s1 s' : σ} {p : List σ} {Fd Fr Fp Fd1 Fp3 M M1 M3 : Nat → Prop} {W A w2 w3 : World} {d x : Value} (hlt : ∀ s M W, I s M W → ∀ b, M b → b < W.heap.size) (hI : ∀ s M A B, I s M A → Kept (fun b => ¬ M b) A B → I s M B)
    (hMl : ∀ b, M b → b < W.heap.size) (hM : ∀ b, Fp b → ¬ M b) (hF : ∀ b, Fd b ∨ Fr b → Fp b) (hFl : ∀ b, Fd b ∨ Fr b → b < W.heap.size) (ka : Still W A) (hz : W.heap.size < A.heap.size) (mv : Moved M M1 Fd Fd1 A w2) (hi1 : I s1 M1 w2) (hi3 : I s' M3 w3)
    (mv3 : Moved M1 M3 (fun b => Fd1 b ∨ Fr b) Fp3 w2 w3) (hD : Does P Q I s' p Fp3 w3 d) (y : Value) :
    I s' M3 ((w3.setCell ⟨W.heap.size, 0, none⟩ x).setCell ⟨W.heap.size, 1, none⟩ y) ∧ Moved M M3 Fp Fp3 W ((w3.setCell ⟨W.heap.size, 0, none⟩ x).setCell ⟨W.heap.size, 1, none⟩ y) ∧ Does P Q I s' p Fp3 ((w3.setCell ⟨W.heap.size, 0, none⟩ x).setCell ⟨W.heap.size, 1, none⟩ y) d := by
  have hR : ¬ M W.heap.size := fun h => by have := hMl _ h; omega
  have hR1 : ¬ M1 W.heap.size := fun h => by (rcases mv.may_ _ h with h | h; exact hR h; omega)
  have hsz := mv.kept.size
  have hsz3 := mv3.kept.size
  have hR3 : ¬ M3 W.heap.size := fun h => by (rcases mv3.may_ _ h with h | h; exact hR1 h; omega)
  have kw : Kept (fun b => b = W.heap.size) w3 ((w3.setCell ⟨W.heap.size, 0, none⟩ x).setCell ⟨W.heap.size, 1, none⟩ y) := ((only_refl W.heap.size w3).put 0 x).put 1 y
  have k1 : Kept M W w3 := (ka.then mv.kept).step mv3.kept (fun b hb h => by (rcases mv.may_ _ h with h | h; exact h; omega))
  have hF3 : ∀ b, Fp3 b → Fd b ∨ Fr b ∨ A.heap.size ≤ b := fun b hb => by
    rcases mv3.fp b hb with (h | h) | h
    · rcases mv.fp b h with h | h
      · exact .inl h
      · exact .inr (.inr h)
    · exact .inr (.inl h)
    · exact .inr (.inr (by omega))
  refine ⟨hI _ _ _ _ hi3 (kw.mono (fun b _ e => by subst e; exact hR3)), ⟨k1.step kw (fun b hb e => by omega), fun b hb => ?_, fun b hb => ?_, mv3.apart⟩, ?_⟩
  · rcases mv3.may_ b hb with h | h
    · rcases mv.may_ b h with h | h
      · exact .inl h
      · exact .inr (by omega)
    · exact .inr (by omega)
  · rcases hF3 b hb with h | h | h
    · exact .inl (hF b (.inl h))
    · exact .inl (hF b (.inr h))
    · exact .inr (by omega)
  · match p, hD with
    | [], hD => exact hD
    | s'' :: p, hD =>
      refine does_agree P Q I hD (Agree.of_kept kw (fun b hb e => ?_) hD.1)
      rcases hF3 b hb with h | h | h
      · have := hFl b (.inl h); omega
      · have := hFl b (.inr h); omega
      · omega

/-- the same behind one call that brought the stage -/
theorem does_fin {s' : σ} {p : List σ} {Fr Fp Fp2 M M2 : Nat → Prop} {W A w2 : World} {d x : Value} {X : Nat} (hlt : ∀ s M W, I s M W → ∀ b, M b → b < W.heap.size) (hI : ∀ s M A B, I s M A → Kept (fun b => ¬ M b) A B → I s M B)
    (hMl : ∀ b, M b → b < W.heap.size) (hF : ∀ b, Fr b → Fp b) (hFl : ∀ b, Fr b → b < W.heap.size) (ka : Still W A) (hX : W.heap.size ≤ X) (hX2 : X < A.heap.size) (mv : Moved M M2 Fr Fp2 A w2) (hi2 : I s' M2 w2) (hD : Does P Q I s' p Fp2 w2 d) (y : Value) :
    I s' M2 ((w2.setCell ⟨X, 0, none⟩ x).setCell ⟨X, 1, none⟩ y) ∧ Moved M M2 Fp Fp2 W ((w2.setCell ⟨X, 0, none⟩ x).setCell ⟨X, 1, none⟩ y) ∧ Does P Q I s' p Fp2 ((w2.setCell ⟨X, 0, none⟩ x).setCell ⟨X, 1, none⟩ y) d := by
  have hR : ¬ M X := fun h => by have := hMl _ h; omega
  have hR2 : ¬ M2 X := fun h => by (rcases mv.may_ _ h with h | h; exact hR h; omega)
  have hsz := mv.kept.size
  have kw : Kept (fun b => b = X) w2 ((w2.setCell ⟨X, 0, none⟩ x).setCell ⟨X, 1, none⟩ y) := ((only_refl X w2).put 0 x).put 1 y
  refine ⟨hI _ _ _ _ hi2 (kw.mono (fun b _ e => by subst e; exact hR2)), ⟨(ka.then mv.kept).step kw (fun b hb e => by omega), fun b hb => ?_, fun b hb => ?_, mv.apart⟩, ?_⟩
  · rcases mv.may_ b hb with h | h
    · exact .inl h
    · exact .inr (by omega)
  · rcases mv.fp b hb with h | h
    · exact .inl (hF b h)
    · exact .inr (by omega)
  · match p, hD with
    | [], hD => exact hD
    | s'' :: p, hD =>
      refine does_agree P Q I hD (Agree.of_kept kw (fun b hb e => ?_) hD.1)
      rcases mv.fp b hb with h | h
      · have := hFl b h; omega
      · omega

/-- the functions vs act in order, from s on, through the states p -/
def Acts : List Value → σ → List σ → (Nat → Prop) → World → Prop
  | [], _, p, _, _ => p = []
  | v :: vs, s, p, Fp, W => (v = .nilFunc ∧ Acts vs s p Fp W) ∨ ∃ s' p' F caps, p = s' :: p' ∧ v = .func (.func F) #[] caps ∧ Callable P F ∧
      (∀ W' M, Agree Fp W W' → I s M W' → (∀ b, Fp b → ¬ M b) → Calls P F caps W' fun e W'' => e = .returned (.tuple #[]) ∧ ∃ M', I s' M' W'' ∧ Moved M M' Fp Fp W' W'') ∧ Acts vs s' p' Fp W

theorem acts_agree {vs : List Value} {s : σ} {p : List σ} {Fp : Nat → Prop} {W W' : World} (h : Acts P I vs s p Fp W) (k : Agree Fp W W') : Acts P I vs s p Fp W' := by
  induction vs generalizing s p with
  | nil => exact h
  | cons v vs ih =>
    rcases h with ⟨hv, h⟩ | ⟨s', p', F, caps, hp, hv, hc, hs, h⟩
    · exact .inl ⟨hv, ih h⟩
    · exact .inr ⟨s', p', F, caps, hp, hv, hc, fun W'' M k' => hs W'' M (k.trans k'), ih h⟩
/-- the first function that is there -/
theorem acts_nils {vs : List Value} {s : σ} {p : List σ} {Fp : Nat → Prop} {W : World} (h : Acts P I vs s p Fp W) (k : Nat) (hk : ∀ j, j < k → vs[j]? = some .nilFunc) : Acts P I (vs.drop k) s p Fp W := by
  induction k generalizing vs with
  | zero => exact h
  | succ k ih =>
    match vs, h with
    | [], h => exact h
    | v :: vs, h =>
      have h0 := hk 0 (by omega)
      simp only [List.getElem?_cons_zero, Option.some.injEq] at h0
      subst h0
      rcases h with ⟨_, h⟩ | ⟨s', p', F, caps, hp, hv, _⟩
      · exact ih h (fun j hj => by have := hk (j + 1) (by omega); simpa using this)
      · simp at hv
end
end Go.Proofs.Ytbikganlloopbaa
