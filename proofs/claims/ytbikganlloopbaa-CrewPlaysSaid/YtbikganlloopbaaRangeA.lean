/-
  What stands here: a range over a function whose iterator keeps its state in a block of its own, and whose rounds lay a block for the variable. Under the condition that the body turns neither the iterator's block nor the two that the loop lays.
-/
import Derived.Test.YtbikganlloopbaaRangeQ
namespace Go.Proofs.Ytbikganlloopbaa
set_option linter.unusedVariables false
set_option linter.unusedSimpArgs false
open Go Go.RowKit Go.Proofs
variable {F : Fence} {n : Nat} {P : Program}

theorem wpIn_range_alloc {α : Type} {g : Operand} {ps : Array Tmp} {assign body : Code} {Q : Exit → Act → World → Prop} {a : Act} {w : World}
    (hro : F.round = none) (h1 : 1 ≤ n) {gf : Nat} {lb : Array Value} (hg : a.eval g = .func (.func gf) #[] lb) (hFg : F.fn gf) (eg : ∀ args w, (callFunc gf args).run P w = .ok (.enter gf args) w)
    {encs : α → Array Value} {S Sp : List α → Prop} {N T : Nat} {TP : World → Prop} {Qw : List α → World → Prop} (hseq : IterC F (n - 1) P gf lb encs S Sp N T TP Qw)
    (hT : T < w.heap.size) (hTP : ∀ W, W.heap[T]? = w.heap[T]? → TP W) (hps : ∀ x, (encs x).size = ps.size)
    (I : List α → World → Prop) (Ix : Code → List α → World → Prop) (hQ : ∀ s W, I s W → Qw s W) (hI : ∀ s W W', I s W → Looped T w.heap.size W W' → I s W') (hIx : ∀ c s W W', Ix c s W → Looped T w.heap.size W W' → Ix c s W') (h0 : I [] w) (a₁ : α → World → Act) (wa : α → World → World) (hwa : ∀ x W, Kept (fun _ => False) W (wa x W))
    (hassign : ∀ (l : Nat) (x : α) (W : World) (K : Act → World → Prop), K (a₁ x W) (wa x W) →
      assign.wpIn (F.inRound l) (n - 1 - 1) P (Exit.then K (fun _ _ _ => False)) { tmps := (ps.zip (encs x)).foldl (fun t (p, v) => t.setIfInBounds p v) a.tmps, defers := [] } W)
    (hbody : ∀ (l : Nat) (pre : List α) (x : α) (W0 W : World), w.heap.size + 2 ≤ W0.heap.size → Kept (fun k => k = w.heap.size + 1) (wa x W0) W → I pre W → Sp (pre ++ [x]) → pre.length < N → body.wpIn (F.inRound l) (n - 1 - 1) P (cellPost T w.heap.size I Ix (pre ++ [x]) W) (a₁ x W0) W)
    (hdone : ∀ (xs : List α) (W : World), S xs → I xs W → W.heap[w.heap.size]? = some (.deferred (some [])) → Q .normal { a with defers := { target := .collected w.heap.size, args := #[] } :: a.defers } W)
    (hstop : ∀ (c : Code) (pre : List α) (W : World), Sp pre → Ix c pre W → W.heap[w.heap.size]? = some (.deferred (some [])) → c.wpIn F n P Q { a with defers := { target := .collected w.heap.size, args := #[] } :: a.defers } W) :
    (Code.rangeFunc g ps assign body).wpIn F n P Q a w := by
  refine wpIn_rangeFunc ?_
  intro fn hfn
  rw [hro]
  obtain ⟨rec, hrec⟩ : ∃ rec : LoopState → Option Code → Loop, rec = fun st pe => { state := st, pending := pe, fn, tmps := a.tmps, params := ps, assign, body, defers := w.heap.size } := ⟨_, rfl⟩
  obtain ⟨W1, hW1⟩ : ∃ W1, (w.alloc (.deferred (some []))).alloc (.loop (rec .ready none)) = W1 := ⟨_, rfl⟩
  have hL1 : W1.heap[w.heap.size + 1]? = some (.loop (rec .ready none)) := by
    rw [← hW1]; have := World.alloc_heap_new (w.alloc (.deferred (some []))) (.loop (rec .ready none)); rwa [World.size_alloc] at this
  have hK1 : W1.heap[w.heap.size]? = some (.deferred (some [])) := by
    rw [← hW1]; exact (Below.heap_alloc _ _ _ (by simp)).trans (World.alloc_heap_new w _)
  have hkp : Looped T w.heap.size w W1 := by rw [← hW1]; exact ((Kept.refl _ w).alloc _).alloc _
  have hI1 : I [] W1 := hI _ _ _ h0 hkp
  have hT1 : W1.heap[T]? = w.heap[T]? := by
    rw [← hW1]; exact (Below.heap_alloc _ _ _ (by simp; omega)).trans (Below.heap_alloc _ _ _ hT)
  refine ⟨w.heap.size + 1, [{ target := .collected w.heap.size, args := #[] }], W1, { target := .fn (.func gf) lb, args := #[.func (.yield (w.heap.size + 1)) #[] #[]] }, W1, gf,
    #[.func (.yield (w.heap.size + 1)) #[] #[]] ++ lb, W1, ?_, ?_, ?_, ?_, fun _ => h1, ?_⟩
  · rw [← hW1, hrec]; exact run_enterLoop_outer _ _ _ _ _
  · simp only [resolve, hg]
    simp [go_sem]
  · intro f' hf'; simp [Target.leads] at hf'; subst hf'; exact hFg
  · simp [invoke, go_sem, eg]
  · have hloop : ∀ {A B : World}, Only T A B → Looped T w.heap.size A B := fun h => h.mono (fun k _ e => .inl e)
    have hob : ∀ {A B : World} {k : Nat} {o : Obj}, Only T A B → k ≠ T → A.heap[k]? = some o → B.heap[k]? = some o := fun h hne hk => (h.block _ (Array.getElem?_eq_some_iff.1 hk).1 hne).trans hk
    refine (hseq (w.heap.size + 1)
      (fun pre W => I pre W ∧ W.heap[w.heap.size + 1]? = some (.loop (rec .ready none)) ∧ W.heap[w.heap.size]? = some (.deferred (some [])))
      (fun pre W => ∃ c, Ix c pre W ∧ W.heap[w.heap.size + 1]? = some (.loop (rec .done (some c))) ∧ W.heap[w.heap.size]? = some (.deferred (some [])))
      W1 (hTP W1 hT1) (fun s A hs => hQ s A hs.1)
      (fun s A B hs ho => ⟨hI s A B hs.1 (hloop ho), hob ho (by omega) hs.2.1, hob ho (by omega) hs.2.2⟩)
      (fun s A B hs ho => by
        obtain ⟨c, hc, hl, hk⟩ := hs
        exact ⟨c, hIx c s A B hc (hloop ho), hob ho (by omega) hl, hob ho (by omega) hk⟩)
      ?_ ⟨hI1, hL1, hK1⟩).mono ?_
    · -- one round
      rintro pre x W ⟨hi, hl, hk⟩ hTW hsp hlen
      have hlt0 : w.heap.size + 1 < W.heap.size := (Array.getElem?_eq_some_iff.1 hl).1
      have hy := run_yield (P := P) (args := encs x) hl (by rw [hrec]; exact hps x)
      rw [hrec] at hy
      refine ⟨fn, _, assign, body, hy, roundIn_of_wpIn hfn (hassign _ x W _ ?_)⟩
      obtain ⟨V, hV⟩ : ∃ V, V = W := ⟨_, rfl⟩
      have hkV : Kept (fun _ => False) V (wa x W) := by rw [hV]; exact hwa x W
      have hbod := hbody (w.heap.size + 1) pre x W
      have hi : I pre (wa x W) := hI _ _ _ hi ((hwa x W).mono (fun _ _ f => f.elim))
      have hl : (wa x W).heap[w.heap.size + 1]? = some (.loop (rec .ready none)) := ((hwa x W).block _ hlt0 (fun f => f)).trans hl
      have hk : (wa x W).heap[w.heap.size]? = some (.deferred (some [])) := ((hwa x W).block _ (by omega) (fun f => f)).trans hk
      generalize hA : a₁ x W = A at *
      generalize wa x W = W at *
      have hlt : w.heap.size + 1 < W.heap.size := (Array.getElem?_eq_some_iff.1 hl).1
      refine ⟨_, run_beginRound hl (by rw [hrec]), ?_⟩
      have hl2 : (W.putObj (w.heap.size + 1) (.loop { rec .ready none with state := .busy })).heap[w.heap.size + 1]? = some (.loop { rec .ready none with state := .busy }) := World.putObj_heap_same hlt
      have hk2 : (W.putObj (w.heap.size + 1) (.loop { rec .ready none with state := .busy })).heap[w.heap.size]? = some (.deferred (some [])) := (World.putObj_heap_other (by omega)).trans hk
      have hi2 := hI _ _ _ hi (Kept.putObj (Kept.refl _ W) (l := w.heap.size + 1) (.loop { rec .ready none with state := .busy }) (.inr (.inr rfl)))
      refine wpIn_mono (hbod _ hlt0 (Kept.putObj (Kept.refl _ W) _ rfl) hi2 hsp hlen) ?_
      have fin : ∀ (jump : Option Code) (W3 : World), Bodied T w.heap.size (W.putObj (w.heap.size + 1) (.loop { rec .ready none with state := .busy })) W3 →
          (Instr.endRound (w.heap.size + 1) jump).run P W3 = .ok (.bool jump.isNone) (W3.putObj (w.heap.size + 1) (.loop (rec (if jump.isNone then .ready else .done) jump))) ∧
          (W3.putObj (w.heap.size + 1) (.loop (rec (if jump.isNone then .ready else .done) jump))).heap[w.heap.size + 1]? = some (.loop (rec (if jump.isNone then .ready else .done) jump)) ∧
          (W3.putObj (w.heap.size + 1) (.loop (rec (if jump.isNone then .ready else .done) jump))).heap[w.heap.size]? = some (.deferred (some [])) ∧
          Looped T w.heap.size W3 (W3.putObj (w.heap.size + 1) (.loop (rec (if jump.isNone then .ready else .done) jump))) ∧
          Kept (· ≠ T) V (W3.putObj (w.heap.size + 1) (.loop (rec (if jump.isNone then .ready else .done) jump))) := fun jump W3 hk3 => by
        have hl3 : W3.heap[w.heap.size + 1]? = some (.loop { rec .ready none with state := .busy }) := (hk3.block _ (by rw [World.putObj_size]; omega) (by omega)).trans hl2
        have hd3 : W3.heap[w.heap.size]? = some (.deferred (some [])) := (hk3.block _ (by rw [World.putObj_size]; omega) (by omega)).trans hk2
        have := run_endRound (P := P) jump hl3
        rw [hrec] at this ⊢
        exact ⟨this, World.putObj_heap_same (Array.getElem?_eq_some_iff.1 hl3).1, (World.putObj_heap_other (by omega)).trans hd3, Kept.putObj (Kept.refl _ W3) _ (.inr (.inr rfl)),
          Kept.putObj (S := fun k => k ≠ T) (l := w.heap.size + 1) (Kept.step (S := fun k => k ≠ T) (Kept.step (S := fun k => k ≠ T) (hkV.mono (fun _ _ f => f.elim)) (Kept.putObj (S := fun k => k ≠ T) (l := w.heap.size + 1) (Kept.refl _ W) (.loop { rec .ready none with state := .busy }) (by omega)) (fun i _ h => h)) hk3 (fun i _ h => h.1)) _ (by omega)⟩
      rintro e a3 W3 hp
      cases e with
      | normal =>
        obtain ⟨hk3, hi3⟩ := hp
        obtain ⟨hr, hl4, hk4, hlo, hkt⟩ := fin none W3 hk3
        exact ⟨_, _, hr, .inl ⟨rfl, ⟨hI _ _ _ hi3 hlo, hl4, hk4⟩, hV ▸ hkt⟩⟩
      | ret =>
        obtain ⟨hk3, hi3⟩ := hp
        obtain ⟨hr, hl4, hk4, hlo, hkt⟩ := fin (some .ret) W3 hk3
        exact ⟨_, _, hr, .inr ⟨rfl, .ret, hIx _ _ _ _ hi3 hlo, hl4, hk4⟩⟩
      | exit id =>
        obtain ⟨hk3, hi3⟩ := hp
        obtain ⟨hr, hl4, hk4, hlo, hkt⟩ := fin (some (.exit id)) W3 hk3
        exact ⟨_, _, hr, .inr ⟨rfl, .exit id, hIx _ _ _ _ hi3 hlo, hl4, hk4⟩⟩
      | goto t =>
        obtain ⟨hk3, hi3⟩ := hp
        obtain ⟨hr, hl4, hk4, hlo, hkt⟩ := fin (some (.goto t)) W3 hk3
        exact ⟨_, _, hr, .inr ⟨rfl, .goto t, hIx _ _ _ _ hi3 hlo, hl4, hk4⟩⟩
      | panic ch => exact hp.elim
      | outgrown => exact hp.elim
    · -- behind the iterator
      rintro e W2 ⟨⟨v, rfl⟩, (⟨xs, hS, hi, hl, hk⟩ | ⟨pre, hSp, c, hi, hl, hk⟩)⟩
      · exact ⟨none, _, by have := run_endLoop (P := P) hl (by rw [hrec]; simp); rw [hrec] at this; exact this, hdone xs _ hS (hI _ _ _ hi (Kept.putObj (Kept.refl _ W2) _ (.inr (.inr rfl)))) ((World.putObj_heap_other (by omega)).trans hk)⟩
      · exact ⟨some c, _, by have := run_endLoop (P := P) hl (by rw [hrec]; simp); rw [hrec] at this; exact this, hstop c pre _ hSp (hIx _ _ _ _ hi (Kept.putObj (Kept.refl _ W2) _ (.inr (.inr rfl)))) ((World.putObj_heap_other (by omega)).trans hk)⟩
end Go.Proofs.Ytbikganlloopbaa
