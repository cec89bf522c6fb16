/-
  What stands here: what a wheel tells of itself. Under no condition but that the world holds it.
-/
import Derived.Test.YthamdbfilpegjaaWheelTake
namespace Go.Proofs.Ythamdbfilpegjaa
set_option linter.unusedVariables false
set_option linter.unusedSimpArgs false
open Go.RowKit Go.Proofs
theorem owns_lower {w : World} {base base' : Nat} {e : TypeId} {sz : Nat} {v : Value} {n : Nat} {xs : List Value} (h : w.ownsRow base e sz v n xs) (hb : base' ≤ base) : w.ownsRow base' e sz v n xs := by
  obtain ⟨h1, h2 | ⟨g, cap, cur, h2, h3, h4⟩⟩ := h
  · exact ⟨h1, .inl h2⟩
  · exact ⟨h1, .inr ⟨g, cap, cur, h2, Nat.le_trans hb h3, h4⟩⟩
theorem wrow_t {s : LS} {v : Nat} {lv : Nat → Nat} {sl : Nat → Nat → Nat} {bd : Nat} {S : WSt} {L : List Nat} {n : Nat} {w : World} (h : WB_t s v lv sl bd S L n w) {q : Nat} (hq : q < 257) : valsOf_t s (s.sq (lq sl bd q)) = ptrs (S.pl q) ∧ ∀ x, x ∈ s.sq (lq sl bd q) → ∃ v, (s.nd x).val = .pointer v := by
  rw [h.sq q hq]
  constructor
  · unfold valsOf_t ptrs
    rw [List.map_map]
    exact List.map_congr_left fun e he => (h.ent q e hq he).2.2.2.1
  · intro x hx
    obtain ⟨e, he, rfl⟩ := List.mem_map.1 hx
    exact ⟨_, (h.ent q e hq he).2.2.2.1⟩
theorem wval_t {s : LS} {v : Nat} {lv : Nat → Nat} {sl : Nat → Nat → Nat} {bd : Nat} {S : WSt} {L : List Nat} {n : Nat} {w : World} (h : WB_t s v lv sl bd S L n w) {e : Nat} (he : s.kd e = 6) : e < w.heap.size ∧ w.cell? ⟨e, 0, none⟩ = some (S.dl e) ∧ w.cell? ⟨e, 1, none⟩ = some (S.val e 0) := by
  rcases h.out e he with ⟨q, hq, h1⟩ | h1 | h1
  · have b := (h.ent q e hq h1).2.1
    exact ⟨Blk.lt b, Blk.cell b 0, Blk.cell b 1⟩
  · have b := (h.hang e h1).2.1
    exact ⟨Blk.lt b, Blk.cell b 0, Blk.cell b 1⟩
  · exact ⟨Blk.lt h1, Blk.cell h1 0, Blk.cell h1 1⟩
theorem wlen_nil_t (w : World) : Calls Try.prog 31 #[.pointer none] w fun r w' => r = .returned (.int .i64 0) ∧ w = w' := by
  go_enter Try.func31, Try.ntmps31
  go_wp2
  go_ret
  exact ⟨rfl, rfl⟩
theorem wlen_t {s : LS} {v : Nat} {lv : Nat → Nat} {sl : Nat → Nat → Nat} {bd : Nat} {S : WSt} {L : List Nat} {n : Nat} (w : World) (h : WB_t s v lv sl bd S L n w) : Calls Try.prog 31 #[.pointer (some ⟨v, 0, none⟩)] w fun r w' => r = .returned (.int .i64 n) ∧ w = w' := by
  have c0 : w.cell? ⟨v, 6, none⟩ = some (.int .i64 n) := h.blk.cell 6
  clear h
  go_enter Try.func31, Try.ntmps31
  go_wp2
  go_ret
  exact ⟨rfl, rfl⟩
theorem wnow_nil_t (w : World) : Calls Try.prog 26 #[.pointer none] w fun r w' => r = .returned (.int .u64 0) ∧ w = w' := by
  go_enter Try.func26, Try.ntmps26
  go_wp2
  go_ret
  exact ⟨rfl, rfl⟩
theorem wnow_t {s : LS} {v : Nat} {lv : Nat → Nat} {sl : Nat → Nat → Nat} {bd : Nat} {S : WSt} {L : List Nat} {n : Nat} (w : World) (h : WB_t s v lv sl bd S L n w) : Calls Try.prog 26 #[.pointer (some ⟨v, 0, none⟩)] w fun r w' => r = .returned (.int .u64 S.now) ∧ w = w' := by
  have c0 : w.cell? ⟨v, 0, none⟩ = some (.int .u64 S.now) := h.blk.cell 0
  clear h
  go_enter Try.func26, Try.ntmps26
  go_wp2
  go_ret
  exact ⟨rfl, rfl⟩

end Go.Proofs.Ythamdbfilpegjaa
