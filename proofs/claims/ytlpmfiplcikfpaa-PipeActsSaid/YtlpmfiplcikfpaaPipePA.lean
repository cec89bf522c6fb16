/-
  What stands here: a pipe and the document's pipe in new memory, side by side. Under no condition.
-/
import Derived.Test.YtlpmfiplcikfpaaPipeLaw2
import Derived.Test.YtlpmfiplcikfpaaPipeRef
namespace Go.Proofs.Ytlpmfiplcikfpaa
set_option linter.unusedVariables false
set_option linter.unusedSimpArgs false
open Go.RowKit Go.Proofs

/-- the block is none of the pipe's -/
def Apart (s : LS) (p c b : Nat) : Prop := s.kd b = 0 ∧ b ≠ p ∧ b ≠ c
theorem Apart.not {s : LS} {p c b : Nat} (h : Apart s p c b) : ¬ (s.kd b ≠ 0 ∨ b = p ∨ b = c) := by
  rintro (h1 | h1 | h1)
  · exact h1 h.1
  · exact h.2.1 h1
  · exact h.2.2 h1
/-- the two pipes -/
structure PA (base p c l N R : Nat) (xs : List Int) (mx : Nat) (sh : Bool) (ys : List Int) (my : Nat) (sr : Bool) (w W : World) : Prop where
  bel : Below base w W
  hb : base ≤ w.heap.size
  hp : base ≤ p
  hc : base ≤ c
  hR : base ≤ R
  st : ∃ s lv, (∀ y, y < base → s.kd y = 0) ∧ PW_i s W p c l N xs mx sh ∧ RP R N ys my sr lv W ∧ Apart s p c R ∧ ∀ b, lv.ownBlock = some b → base ≤ b ∧ Apart s p c b
section
variable {base p c l N R : Nat} {xs ys : List Int} {mx my : Nat} {sh sr : Bool} {w W : World}
theorem PA.size (h : PA base p c l N R xs mx sh ys my sr w W) : base ≤ W.heap.size := Nat.le_trans h.hb h.bel.size
theorem PA.still (h : PA base p c l N R xs mx sh ys my sr w W) {W' : World} (k : Still W W') : PA base p c l N R xs mx sh ys my sr w W' := by
  obtain ⟨s, lv, h1, h2, h3, h4, h5⟩ := h.st
  exact ⟨below_still h.bel k h.hb, h.hb, h.hp, h.hc, h.hR, s, lv, h1, h2.still k, h3.still k, h4, h5⟩
theorem PA.rc (h : PA base p c l N R xs mx sh ys my sr w W) : R ≠ c := by
  obtain ⟨s, lv, h1, h2, h3, h4, h5⟩ := h.st
  exact h4.2.2
theorem PA.blk (h : PA base p c l N R xs mx sh ys my sr w W) : ∃ a k, Blk W R #[.int .i64 N, .slice a ys.length k, .bool sr, .int .i64 my] 40 := by
  obtain ⟨s, lv, h1, h2, h3, h4, h5⟩ := h.st
  obtain ⟨a, k, rfl⟩ := owns_slice h3.own
  exact ⟨a, k, h3.blk⟩
theorem PA.row (h : PA base p c l N R xs mx sh ys my sr w W) {v : Value} (hv : W.cell? ⟨R, 1, none⟩ = some v) : ∃ Q, IRow Q W v ys := by
  obtain ⟨s, lv, h1, h2, h3, h4, h5⟩ := h.st
  have h6 : W.cell? ⟨R, 1, none⟩ = some lv := h3.blk.cell 1
  obtain rfl : v = lv := by rw [h6] at hv; exact (Option.some.inj hv).symm
  exact ⟨_, VRow.of_owns h3.own⟩
/-- the pipe changes, the document's does not -/
theorem PA.pipe (h : PA base p c l N R xs mx sh ys my sr w W) {s : LS} {lv : Value} (h1 : ∀ y, y < base → s.kd y = 0) (h2 : PW_i s W p c l N xs mx sh) (h3 : RP R N ys my sr lv W) (h4 : Apart s p c R) (h5 : ∀ b, lv.ownBlock = some b → base ≤ b ∧ Apart s p c b)
    {W' : World} {s' : LS} {xs' : List Int} {mx' : Nat} {sh' : Bool} (k : Kept (fun y => s.kd y ≠ 0 ∨ y = p ∨ y = c) W W') (g : PW_i s' W' p c l N xs' mx' sh') (n : ∀ y, y < W.heap.size → s'.kd y = s.kd y) : PA base p c l N R xs' mx' sh' ys my sr w W' := by
  have hz := h.size
  have hRW := h3.blk.lt
  exact ⟨below_pipe h.bel k h1 h.hp h.hc h.hb, h.hb, h.hp, h.hc, h.hR, s', lv, fun y hy => (n y (by omega)).trans (h1 y hy), g, h3.kept k h4.not (fun b hb => (h5 b hb).2.not), ⟨(n R hRW).trans h4.1, h4.2⟩,
    fun b hb => ⟨(h5 b hb).1, (n b (owns_lt h3.own b hb)).trans (h5 b hb).2.1, (h5 b hb).2.2⟩⟩
/-- the document's pipe changes, the pipe does not -/
theorem PA.ref (h : PA base p c l N R xs mx sh ys my sr w W) {s : LS} {lv : Value} (h1 : ∀ y, y < base → s.kd y = 0) (h2 : PW_i s W p c l N xs mx sh) (h3 : RP R N ys my sr lv W) (h4 : Apart s p c R) (h5 : ∀ b, lv.ownBlock = some b → base ≤ b ∧ Apart s p c b)
    {W' : World} {lv' : Value} {ys' : List Int} {my' : Nat} {sr' : Bool} (k : Kept (fun y => y = R ∨ lv.ownBlock = some y) W W') (g : RP R N ys' my' sr' lv' W') (n : ∀ b, lv'.ownBlock = some b → lv.ownBlock = some b ∨ W.heap.size ≤ b) : PA base p c l N R xs mx sh ys' my' sr' w W' := by
  have hz := h.size
  have hpW := h2.blk.lt
  have hcW := h2.ch.lt
  have hR := h.hR
  refine ⟨below_step h.bel k h.hb ?_, h.hb, h.hp, h.hc, h.hR, s, lv', h1, h2.kept k ?_, g, h4, ?_⟩
  · rintro i hi (e | e)
    · omega
    · have := (h5 i e).1; omega
  · rintro y hy (e | e)
    · rw [e] at hy; exact h4.not hy
    · exact (h5 y e).2.not hy
  · intro b hb
    rcases n b hb with e | e
    · exact h5 b e
    · exact ⟨by omega, h2.lw.fresh b e, by omega, by omega⟩
theorem PA.put (h : PA base p c l N R xs mx false ys my sr w W) (v : Int) (hx : xs.length < 100000) (hm : mx < 100000) : Calls Try.prog 9 #[.pointer (some ⟨p, 0, none⟩), .int .i64 v] W fun e w' => e = .returned (.tuple #[.bool (decide (N ≤ xs.length)), .int .i64 0]) ∧ PA base p c l N R (xs ++ [v]) (max mx (xs.length + 1 - N)) false ys my sr w w' := by
  obtain ⟨s, lv, h1, h2, h3, h4, h5⟩ := h.st
  refine (pput_i W h2 v hx hm).mono ?_
  rintro e w1 ⟨rfl, k1, s1, g, n1, q1⟩
  exact ⟨rfl, h.pipe h1 h2 h3 h4 h5 k1 g n1⟩
theorem PA.put_shut (h : PA base p c l N R xs mx true ys my sr w W) (v : Int) : Calls Try.prog 9 #[.pointer (some ⟨p, 0, none⟩), .int .i64 v] W fun e w' => e = .returned (.tuple #[.bool false, .int .i64 3]) ∧ W = w' := by
  obtain ⟨s, lv, h1, h2, h3, h4, h5⟩ := h.st
  exact pput_shut_i W h2 v
theorem PA.take_none (h : PA base p c l N R [] mx sh ys my sr w W) : Calls Try.prog 10 #[.pointer (some ⟨p, 0, none⟩)] W fun e w' => e = .returned (.tuple #[.int .i64 0, .int .i64 6]) ∧ W = w' := by
  obtain ⟨s, lv, h1, h2, h3, h4, h5⟩ := h.st
  exact ptake_none_i W h2
theorem PA.take {x : Int} {rest : List Int} (h : PA base p c l N R (x :: rest) mx sh ys my sr w W) (hx : rest.length < 100000) : Calls Try.prog 10 #[.pointer (some ⟨p, 0, none⟩)] W fun e w' => e = .returned (.tuple #[.int .i64 x, .int .i64 0]) ∧ PA base p c l N R rest mx sh ys my sr w w' := by
  obtain ⟨s, lv, h1, h2, h3, h4, h5⟩ := h.st
  refine (ptake_i W h2 hx).mono ?_
  rintro e w1 ⟨rfl, k1, s1, g, n1, q1⟩
  exact ⟨rfl, h.pipe h1 h2 h3 h4 h5 k1 g (fun y _ => by rw [n1])⟩
theorem PA.spilled (h : PA base p c l N R xs mx sh ys my sr w W) : Calls Try.prog 12 #[.pointer (some ⟨p, 0, none⟩)] W fun e w' => e = .returned (.int .i64 (xs.length - N : Nat)) ∧ W = w' := by
  obtain ⟨s, lv, h1, h2, h3, h4, h5⟩ := h.st
  exact pspilled_i W h2
theorem PA.most (h : PA base p c l N R xs mx sh ys my sr w W) : Calls Try.prog 15 #[.pointer (some ⟨p, 0, none⟩)] W fun e w' => e = .returned (.int .i64 mx) ∧ W = w' := by
  obtain ⟨s, lv, h1, h2, h3, h4, h5⟩ := h.st
  exact pmost_i W h2
theorem PA.closed (h : PA base p c l N R xs mx sh ys my sr w W) : Calls Try.prog 14 #[.pointer (some ⟨p, 0, none⟩)] W fun e w' => e = .returned (.bool (sh && decide (xs.length = 0))) ∧ W = w' := by
  obtain ⟨s, lv, h1, h2, h3, h4, h5⟩ := h.st
  exact pclosed_i W h2
theorem PA.len (h : PA base p c l N R xs mx sh ys my sr w W) (hx : xs.length < 100000) : Calls Try.prog 11 #[.pointer (some ⟨p, 0, none⟩)] W fun e w' => e = .returned (.int .i64 xs.length) ∧ Still W w' := by
  obtain ⟨s, lv, h1, h2, h3, h4, h5⟩ := h.st
  exact plen_i W h2 hx
theorem PA.toShut (h : PA base p c l N R xs mx sh ys my sr w W) : Calls Try.prog 13 #[.pointer (some ⟨p, 0, none⟩)] W fun e w' => e = .returned (.int .i64 (if sh then 3 else 0)) ∧ PA base p c l N R xs mx true ys my sr w w' := by
  obtain ⟨s, lv, h1, h2, h3, h4, h5⟩ := h.st
  refine (pshut_i W h2).mono ?_
  rintro e w1 ⟨rfl, g, k1⟩
  exact ⟨rfl, h.pipe h1 h2 h3 h4 h5 (k1.mono fun _ _ e => .inr (.inl e)) g (fun _ _ => rfl)⟩
theorem PA.all (h : PA base p c l N R xs mx sh ys my sr w W) (hx : xs.length < 100000) : Calls Try.prog 16 #[.pointer (some ⟨p, 0, none⟩)] W fun e w' => (∃ v, e = .returned v ∧ w'.ownsRow W.heap.size 3 1 v xs.length (irow xs)) ∧ PA base p c l N R xs mx sh ys my sr w w' ∧ Kept (fun y => y = c) W w' := by
  obtain ⟨s, lv, h1, h2, h3, h4, h5⟩ := h.st
  refine (pall_i W h2 hx).mono ?_
  rintro e w1 ⟨h6, g, k1⟩
  exact ⟨h6, h.pipe h1 h2 h3 h4 h5 (k1.mono fun _ _ e => .inr (.inr e)) g (fun _ _ => rfl), k1⟩
theorem PA.rspilled (h : PA base p c l N R xs mx sh ys my sr w W) (hx : ys.length < 100000) (hN : N < 100000) : Calls Try.prog 19 #[.pointer (some ⟨R, 0, none⟩)] W fun e w' => e = .returned (.int .i64 (ys.length - N : Nat)) ∧ Still W w' := by
  obtain ⟨s, lv, h1, h2, h3, h4, h5⟩ := h.st
  exact Ytlpmfiplcikfpaa.rspilled h3 hx hN
theorem PA.rput_shut (h : PA base p c l N R xs mx sh ys my true w W) (v : Int) : Calls Try.prog 17 #[.pointer (some ⟨R, 0, none⟩), .int .i64 v] W fun e w' => e = .returned (.tuple #[.bool false, .bool true]) ∧ W = w' := by
  obtain ⟨s, lv, h1, h2, h3, h4, h5⟩ := h.st
  exact Ytlpmfiplcikfpaa.rput_shut h3 v
theorem PA.rput (h : PA base p c l N R xs mx sh ys my false w W) (v : Int) (hx : ys.length < 10000) (hN : N < 100000) (hm : my < 100000) : Calls Try.prog 17 #[.pointer (some ⟨R, 0, none⟩), .int .i64 v] W fun e w' => e = .returned (.tuple #[.bool (decide (N ≤ ys.length)), .bool false]) ∧ PA base p c l N R xs mx sh (ys ++ [v]) (max my (ys.length + 1 - N)) false w w' := by
  obtain ⟨s, lv, h1, h2, h3, h4, h5⟩ := h.st
  refine (Ytlpmfiplcikfpaa.rput h3 v hx hN hm).mono ?_
  rintro e w1 ⟨rfl, k, lv', g, n⟩
  exact ⟨rfl, h.ref h1 h2 h3 h4 h5 k g n⟩
theorem PA.rtake_none (h : PA base p c l N R xs mx sh [] my sr w W) : Calls Try.prog 18 #[.pointer (some ⟨R, 0, none⟩)] W fun e w' => e = .returned (.tuple #[.int .i64 0, .bool false]) ∧ W = w' := by
  obtain ⟨s, lv, h1, h2, h3, h4, h5⟩ := h.st
  exact Ytlpmfiplcikfpaa.rtake_none h3
theorem PA.rtake {y : Int} {rest : List Int} (h : PA base p c l N R xs mx sh (y :: rest) my sr w W) (hx : rest.length < 10000) : Calls Try.prog 18 #[.pointer (some ⟨R, 0, none⟩)] W fun e w' => e = .returned (.tuple #[.int .i64 y, .bool true]) ∧ PA base p c l N R xs mx sh rest my sr w w' := by
  obtain ⟨s, lv, h1, h2, h3, h4, h5⟩ := h.st
  refine (Ytlpmfiplcikfpaa.rtake h3 hx).mono ?_
  rintro e w1 ⟨rfl, k, lv', g, n⟩
  exact ⟨rfl, h.ref h1 h2 h3 h4 h5 (k.mono fun _ _ e => .inl e) g (fun b hb => .inr (n b hb))⟩
theorem PA.rshut (h : PA base p c l N R xs mx sh ys my sr w W) : PA base p c l N R xs mx sh ys my true w (W.setCell ⟨R, 2, none⟩ (.bool true)) := by
  obtain ⟨s, lv, h1, h2, h3, h4, h5⟩ := h.st
  have k : Kept (fun y => y = R) W (W.setCell ⟨R, 2, none⟩ (.bool true)) := Kept.setCell (S := fun y => y = R) (Kept.refl _ _) (fun _ => rfl) _
  exact h.ref h1 h2 h3 h4 h5 (k.mono fun _ _ e => .inl e) ⟨h3.blk.set' rfl, own_kept h3.own k (fun b hb e => h3.ne (by rw [hb]; exact congrArg some e)), h3.ne⟩ (fun b hb => .inl hb)
end
theorem pa_new {w W : World} (h : Below w.heap.size w W) (n : Nat) (hn1 : 1 ≤ n) (hn2 : n ≤ 16) : Calls Try.prog 8 #[.int .i64 n] W fun e w' => ∃ p c l, e = .returned (.tuple #[.pointer (some ⟨p, 0, none⟩), .int .i64 0]) ∧ ∀ w2 lv, Still w' w2 → RP w'.heap.size n [] 0 false lv w2 → lv.ownBlock = none → PA w.heap.size p c l n w'.heap.size [] 0 false [] 0 false w w2 := by
  refine (pnew_i LS.zero W (LW_i.zero W) n hn1 hn2).mono ?_
  rintro e w1 ⟨p, c, l, s1, rfl, h1, k1, n1, hp, hc, hl, q1⟩
  refine ⟨p, c, l, rfl, fun w2 lv k2 h2 h3 => ?_⟩
  have hz := h.size
  have hz1 := k1.size
  have hpW := h1.blk.lt
  have hcW := h1.ch.lt
  exact ⟨below_still (below_still h k1 (Nat.le_refl _)) k2 (Nat.le_refl _), Nat.le_refl _, by omega, by omega, by omega, s1, lv, fun y hy => by rw [n1 y (by omega)]; rfl, h1.still k2, h2, ⟨h1.lw.fresh _ (Nat.le_refl _), by omega, by omega⟩, fun b hb => by rw [h3] at hb; cases hb⟩
end Go.Proofs.Ytlpmfiplcikfpaa
