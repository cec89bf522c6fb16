/-
  What stands here: a range over a function whose body always goes on, and whose iterator turns a block of its own: the iterator's contract, and the law of the statement. Under the condition that the body turns neither that block nor the two that the loop lays.
-/
import Derived.Test.YtbikganlloopbaaRangeQ
namespace Go.Proofs.Ytbikganlloopbaa
set_option linter.unusedVariables false
set_option linter.unusedSimpArgs false
open Go Go.RowKit Go.Proofs

/-- the contract of an iterator that turns block T, under bodies that go on; G: blocks that the iterator laid, which bodies leave -/
def IterT {α : Type} (F : Fence) (n : Nat) (P : Program) (g : Nat) (lb : Array Value) (encs : α → Array Value) (S Sp : List α → Prop) (N T : Nat) (TP : World → Prop) (Qw : List α → World → Prop) : Prop :=
  ∀ (l : Nat) (J : List α → (Nat → Prop) → World → Prop) (W : World), TP W → (∀ s G A, J s G A → Qw s A) → (∀ s G A B, J s G A → Only T A B → J s (fun k => G k ∨ (A.heap.size ≤ k ∧ k < B.heap.size)) B) →
    (∀ pre G x W1, J pre G W1 → T < W1.heap.size → Sp (pre ++ [x]) → pre.length < N → YieldAt F (n - 1) P l (encs x) W1 fun e W' =>
      e = .returned (.bool true) ∧ J (pre ++ [x]) G W' ∧ Kept (fun k => k ≠ T ∧ ¬ G k) W1 W') →
    J [] (fun _ => False) W →
    CallsIn F n P g (#[.func (.yield l) #[] #[]] ++ lb) W fun e W' => (∃ v, e = .returned v) ∧ ∃ xs G, S xs ∧ J xs G W' ∧ TP W'
/-- how a round's body is left -/
def goPost {α : Type} (T D : Nat) (G : Nat → Prop) (I : List α → (Nat → Prop) → World → Prop) (xs : List α) (W : World) : Exit → Act → World → Prop
  | .normal, _, W' => Kept (fun k => k ≠ T ∧ k ≠ D ∧ k ≠ D + 1 ∧ ¬ G k) W W' ∧ I xs G W'
  | _, _, _ => False

variable {F : Fence} {n : Nat} {P : Program}

theorem wpIn_range_true {α : Type} {g : Operand} {ps : Array Tmp} {assign body : Code} {Q : Exit → Act → World → Prop} {a : Act} {w : World}
    (hro : F.round = none) (h1 : 1 ≤ n) {gf : Nat} {lb : Array Value} (hg : a.eval g = .func (.func gf) #[] lb) (hFg : F.fn gf) (eg : ∀ args w, (callFunc gf args).run P w = .ok (.enter gf args) w)
    {encs : α → Array Value} {S Sp : List α → Prop} {N T : Nat} {TP : World → Prop} {Qw : List α → World → Prop} (hseq : IterT F (n - 1) P gf lb encs S Sp N T TP Qw)
    (hT : T < w.heap.size) (hTP : ∀ W, W.heap[T]? = w.heap[T]? → TP W) (hps : ∀ x, (encs x).size = ps.size)
    (I : List α → (Nat → Prop) → World → Prop) (hQ : ∀ s G W, I s G W → Qw s W) (hI : ∀ s G A B, I s G A → Looped T w.heap.size A B → I s (fun k => G k ∨ (A.heap.size ≤ k ∧ k < B.heap.size)) B)
    (hmono : ∀ s (G G' : Nat → Prop) A, (∀ k, G' k → G k) → I s G A → I s G' A) (h0 : I [] (fun _ => False) w) (a₁ : α → Act)
    (hassign : ∀ (l : Nat) (x : α) (W : World) (K : Act → World → Prop), K (a₁ x) W →
      assign.wpIn (F.inRound l) (n - 1 - 1) P (Exit.then K (fun _ _ _ => False)) { tmps := (ps.zip (encs x)).foldl (fun t (p, v) => t.setIfInBounds p v) a.tmps, defers := [] } W)
    (hbody : ∀ (l : Nat) (pre : List α) (G : Nat → Prop) (x : α) (W : World), w.heap.size + 2 ≤ W.heap.size → (∀ k, G k → w.heap.size + 2 ≤ k) → I pre G W → Sp (pre ++ [x]) → pre.length < N → body.wpIn (F.inRound l) (n - 1 - 1) P (goPost T w.heap.size G I (pre ++ [x]) W) (a₁ x) W)
    (hTP2 : ∀ A B : World, B.heap[T]? = A.heap[T]? → TP A → TP B)
    (hdone : ∀ (xs : List α) (G : Nat → Prop) (W : World), S xs → I xs G W → TP W → W.heap[w.heap.size]? = some (.deferred (some [])) → Q .normal { a with defers := { target := .collected w.heap.size, args := #[] } :: a.defers } W) :
    (Code.rangeFunc g ps assign body).wpIn F n P Q a w := by
  refine wpIn_rangeFunc ?_
  intro fn hfn
  rw [hro]
  obtain ⟨rec, hrec⟩ : ∃ rec : LoopState → Option Code → Loop, rec = fun st pe => { state := st, pending := pe, fn, tmps := a.tmps, params := ps, assign, body, defers := w.heap.size } := ⟨_, rfl⟩
  obtain ⟨W1, hW1⟩ : ∃ W1, (w.alloc (.deferred (some []))).alloc (.loop (rec .ready none)) = W1 := ⟨_, rfl⟩
  have hL1 : W1.heap[w.heap.size + 1]? = some (.loop (rec .ready none)) := by
    rw [← hW1]; have := World.alloc_heap_new (w.alloc (.deferred (some []))) (.loop (rec .ready none)); rwa [World.size_alloc] at this
  have hK1 : W1.heap[w.heap.size]? = some (.deferred (some [])) := by
    rw [← hW1]; exact (Below.heap_alloc _ _ _ (by simp)).trans (World.alloc_heap_new w _)
  have hkp : Looped T w.heap.size w W1 := by rw [← hW1]; exact ((Kept.refl _ w).alloc _).alloc _
  have hI' : ∀ s G A B, I s G A → Looped T w.heap.size A B → I s G B := fun s G A B h k => hmono _ _ _ _ (fun _ h => .inl h) (hI s G A B h k)
  have hI1 : I [] (fun _ => False) W1 := hI' _ _ _ _ h0 hkp
  have hT1 : W1.heap[T]? = w.heap[T]? := by
    rw [← hW1]; exact (Below.heap_alloc _ _ _ (by simp; omega)).trans (Below.heap_alloc _ _ _ hT)
  refine ⟨w.heap.size + 1, [{ target := .collected w.heap.size, args := #[] }], W1, { target := .fn (.func gf) lb, args := #[.func (.yield (w.heap.size + 1)) #[] #[]] }, W1, gf,
    #[.func (.yield (w.heap.size + 1)) #[] #[]] ++ lb, W1, ?_, ?_, ?_, ?_, fun _ => h1, ?_⟩
  · rw [← hW1, hrec]; exact run_enterLoop_outer _ _ _ _ _
  · simp only [resolve, hg]
    simp [go_sem]
  · intro f' hf'; simp [Target.leads] at hf'; subst hf'; exact hFg
  · simp [invoke, go_sem, eg]
  · have hloop : ∀ {A B : World}, Only T A B → Looped T w.heap.size A B := fun h => h.mono (fun k _ e => .inl e)
    have hob : ∀ {A B : World} {k : Nat} {o : Obj}, Only T A B → k ≠ T → A.heap[k]? = some o → B.heap[k]? = some o := fun h hne hk => (h.block _ (Array.getElem?_eq_some_iff.1 hk).1 hne).trans hk
    refine (hseq (w.heap.size + 1)
      (fun pre G W => I pre G W ∧ (∀ k, G k → w.heap.size + 2 ≤ k) ∧ W.heap[w.heap.size + 1]? = some (.loop (rec .ready none)) ∧ W.heap[w.heap.size]? = some (.deferred (some [])))
      W1 (hTP W1 hT1) (fun s G A hs => hQ s G A hs.1)
      (fun s G A B hs ho => ⟨hI s G A B hs.1 (hloop ho), fun k hk => by
        have hlt : w.heap.size + 1 < A.heap.size := (Array.getElem?_eq_some_iff.1 hs.2.2.1).1
        rcases hk with hk | hk
        · exact hs.2.1 k hk
        · omega, hob ho (by omega) hs.2.2.1, hob ho (by omega) hs.2.2.2⟩)
      ?_ ⟨hI1, fun _ f => f.elim, hL1, hK1⟩).mono ?_
    · -- one round
      rintro pre G x W ⟨hi, hG, hl, hk⟩ hTW hsp hlen
      have hlt : w.heap.size + 1 < W.heap.size := (Array.getElem?_eq_some_iff.1 hl).1
      have hy := run_yield (P := P) (args := encs x) hl (by rw [hrec]; exact hps x)
      rw [hrec] at hy
      refine ⟨fn, _, assign, body, hy, roundIn_of_wpIn hfn (hassign _ x W _ ⟨_, run_beginRound hl (by rw [hrec]), ?_⟩)⟩
      have hl2 : (W.putObj (w.heap.size + 1) (.loop { rec .ready none with state := .busy })).heap[w.heap.size + 1]? = some (.loop { rec .ready none with state := .busy }) := World.putObj_heap_same hlt
      have hk2 : (W.putObj (w.heap.size + 1) (.loop { rec .ready none with state := .busy })).heap[w.heap.size]? = some (.deferred (some [])) := (World.putObj_heap_other (by omega)).trans hk
      have hi2 := hI' _ _ _ _ hi (Kept.putObj (Kept.refl _ W) (l := w.heap.size + 1) (.loop { rec .ready none with state := .busy }) (.inr (.inr rfl)))
      refine wpIn_mono (hbody _ pre G x _ (by rw [World.putObj_size]; omega) hG hi2 hsp hlen) ?_
      have fin : ∀ (jump : Option Code) (W3 : World), Kept (fun k => k ≠ T ∧ k ≠ w.heap.size ∧ k ≠ w.heap.size + 1 ∧ ¬ G k) (W.putObj (w.heap.size + 1) (.loop { rec .ready none with state := .busy })) W3 →
          (Instr.endRound (w.heap.size + 1) jump).run P W3 = .ok (.bool jump.isNone) (W3.putObj (w.heap.size + 1) (.loop (rec (if jump.isNone then .ready else .done) jump))) ∧
          (W3.putObj (w.heap.size + 1) (.loop (rec (if jump.isNone then .ready else .done) jump))).heap[w.heap.size + 1]? = some (.loop (rec (if jump.isNone then .ready else .done) jump)) ∧
          (W3.putObj (w.heap.size + 1) (.loop (rec (if jump.isNone then .ready else .done) jump))).heap[w.heap.size]? = some (.deferred (some [])) ∧
          Looped T w.heap.size W3 (W3.putObj (w.heap.size + 1) (.loop (rec (if jump.isNone then .ready else .done) jump))) ∧
          Kept (fun k => k ≠ T ∧ ¬ G k) W (W3.putObj (w.heap.size + 1) (.loop (rec (if jump.isNone then .ready else .done) jump))) := fun jump W3 hk3 => by
        have hl3 : W3.heap[w.heap.size + 1]? = some (.loop { rec .ready none with state := .busy }) := (hk3.block _ (by rw [World.putObj_size]; omega) (by omega)).trans hl2
        have hd3 : W3.heap[w.heap.size]? = some (.deferred (some [])) := (hk3.block _ (by rw [World.putObj_size]; omega) (by omega)).trans hk2
        have := run_endRound (P := P) jump hl3
        rw [hrec] at this ⊢
        exact ⟨this, World.putObj_heap_same (Array.getElem?_eq_some_iff.1 hl3).1, (World.putObj_heap_other (by omega)).trans hd3, Kept.putObj (Kept.refl _ W3) _ (.inr (.inr rfl)),
          Kept.putObj (S := fun k => k ≠ T ∧ ¬ G k) (l := w.heap.size + 1) (Kept.step (S := fun k => k ≠ T ∧ ¬ G k) (Kept.putObj (S := fun k => k ≠ T ∧ ¬ G k) (l := w.heap.size + 1) (Kept.refl _ W) _ ⟨by omega, fun h => by have := hG _ h; omega⟩) hk3 (fun i _ h => ⟨h.1, h.2.2.2⟩)) _ ⟨by omega, fun h => by have := hG _ h; omega⟩⟩
      rintro e a3 W3 hp
      cases e with
      | normal =>
        obtain ⟨hk3, hi3⟩ := hp
        obtain ⟨hr, hl4, hk4, hlo, hkt⟩ := fin none W3 hk3
        exact ⟨_, _, hr, ⟨rfl, ⟨hI' _ _ _ _ hi3 hlo, hG, hl4, hk4⟩, hkt⟩⟩
      | ret => exact hp.elim
      | exit id => exact hp.elim
      | goto t => exact hp.elim
      | panic ch => exact hp.elim
      | outgrown => exact hp.elim
    · -- behind the iterator
      rintro e W2 ⟨⟨v, rfl⟩, xs, G, hS, ⟨hi, hG, hl, hk⟩, htp⟩
      exact ⟨none, _, by have := run_endLoop (P := P) hl (by rw [hrec]; simp); rw [hrec] at this; exact this, hdone xs G _ hS (hI' _ _ _ _ hi (Kept.putObj (Kept.refl _ W2) _ (.inr (.inr rfl)))) (hTP2 W2 _ (World.putObj_heap_other (by omega)) htp) ((World.putObj_heap_other (by omega)).trans hk)⟩
end Go.Proofs.Ytbikganlloopbaa
