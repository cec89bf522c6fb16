/-
  What stands here: a floor in a law, its workers, and how that goes on. Plain laws. Under no condition.
-/
import Derived.Test.YtbikganlloopbaaFRow
import Derived.Test.YtbikganlloopbaaCrewStep
namespace Go.Proofs.Ytbikganlloopbaa
set_option linter.unusedVariables false
set_option linter.unusedSimpArgs false
open Go.RowKit Go.Proofs
/-- a floor with its pipe and its log; M is no less than how often it was put into the pipe -/
def CF (col : Nat → Nat) (f p g N M : Nat) (cf : Nat → Int) (bz : Int) (xs logs : List FiringV) (W : World) : Prop :=
  ∃ s sb sh c l mx, FlB f cf sb sh p g bz W ∧ col f = 1 ∧ PW_f s W p c l N xs mx false ∧ col p = 2 ∧ col c = 2 ∧ (∀ y, s.kd y ≠ 0 → col y = 2) ∧ LG col g logs W ∧ xs.length ≤ M ∧ mx ≤ M
theorem PW_f.in2 {s : LS} {W : World} {p c l N : Nat} {xs : List FiringV} {mx : Nat} {sh : Bool} (h : PW_f s W p c l N xs mx sh) {y : Nat} (hy : s.kd y ≠ 0) : y < W.heap.size := by
  rcases Nat.lt_or_ge y W.heap.size with h1 | h1
  · exact h1
  · exact absurd (h.lw.fresh y h1) hy
section
variable {col col' : Nat → Nat} {f p g N M : Nat} {cf : Nat → Int} {bz : Int} {xs logs : List FiringV} {W W' : World}
theorem CF.move (h : CF col f p g N M cf bz xs logs W) {S : Nat → Prop} (m : Move S col col' W W') (h1 : ¬ S 1) (h2 : ¬ S 2) (h3 : ¬ S 3) (h6 : ¬ S 6) : CF col' f p g N M cf bz xs logs W' := by
  obtain ⟨s, sb, sh, c, l, mx, hf, cf1, hp, cp, cc, cy, hl, a, b⟩ := h
  refine ⟨s, sb, sh, c, l, mx, hf.kept m.k (fun e => h1 (by rw [cf1] at e; exact e)), (m.re f hf.lt).trans cf1, hp.kept m.k ?_, (m.re p hp.blk.lt).trans cp, (m.re c hp.ch.lt).trans cc, fun y hy => (m.re y (hp.in2 hy)).trans (cy y hy), hl.move m h3 h6, a, b⟩
  rintro y (h9 | rfl | rfl) e
  · rw [cy y h9] at e; exact h2 e
  · rw [cp] at e; exact h2 e
  · rw [cc] at e; exact h2 e
theorem CF.still (h : CF col f p g N M cf bz xs logs W) (k : Still W W') : CF col f p g N M cf bz xs logs W' := h.move (S := fun _ => False) (.still k) id id id id
end
/-- a worker that holds nothing -/
def WkA (col : Nat → Nat) (i f k : Nat) (n : Int) (W : World) : Prop :=
  ∃ q bx m, BlkC col (10 + i) W k #[.pointer (some ⟨f, 0, none⟩), .pointer (some ⟨q, 0, none⟩), .slice none 0 0, .int .i64 n] 96 ∧ BlkC col (10 + i) W q #[takeM bx, takeD bx, .int .i64 m] 156 ∧ BlkC col (10 + i) W bx #[.pointer (some ⟨k, 0, none⟩)] 31
/-- the blocks behind the second step -/
def PutB (col : Nat → Nat) (cc k b1 b2 : Nat) (W : World) : Prop :=
  ∃ b3 b4 b5 a, BlkC col cc W b1 #[.nilFunc, rowV b4 b5 b3] 100 ∧ BlkC col cc W b2 #[takesV k] 98 ∧ BlkC col cc W b4 #[putsV k] 1 ∧ BlkC col cc W b5 #[.slice (some ⟨a, 0, none⟩) 1 1] 197 ∧ BlkC col cc W b3 #[.int .i64 0] 3
/-- a worker that holds a firing -/
def WkB (col : Nat → Nat) (i f k : Nat) (n : Int) (x : FiringV) (W : World) : Prop :=
  ∃ q m b1 b2 hb cap, BlkC col (10 + i) W k #[.pointer (some ⟨f, 0, none⟩), .pointer (some ⟨q, 0, none⟩), .slice (some ⟨hb, 0, none⟩) 1 cap, .int .i64 n] 96 ∧ BlkC col (10 + i) W q #[.nilFunc, thenV b1 b2, .int .i64 m] 156 ∧
    Owns col (10 + i) W 40 4 (.slice (some ⟨hb, 0, none⟩) 1 cap) 1 x.cl ∧ PutB col (10 + i) k b1 b2 W
def Wk (col : Nat → Nat) (i f k : Nat) (n : Int) (h : Option FiringV) (W : World) : Prop := match h with
  | none => WkA col i f k n W
  | some x => WkB col i f k n x W
theorem PutB.move {col col' : Nat → Nat} {cc k b1 b2 : Nat} {W W' : World} (h : PutB col cc k b1 b2 W) {S : Nat → Prop} (m : Move S col col' W W') (hn : ¬ S cc) : PutB col' cc k b1 b2 W' := by
  obtain ⟨b3, b4, b5, a, h1, h2, h3, h4, h5⟩ := h
  exact ⟨b3, b4, b5, a, h1.move m hn, h2.move m hn, h3.move m hn, h4.move m hn, h5.move m hn⟩
theorem Wk.move {col col' : Nat → Nat} {i f k : Nat} {n : Int} {h : Option FiringV} {W W' : World} (H : Wk col i f k n h W) {S : Nat → Prop} (m : Move S col col' W W') (hn : ¬ S (10 + i)) : Wk col' i f k n h W' := by
  match h, H with
  | none, ⟨q, bx, m', h1, h2, h3⟩ => exact ⟨q, bx, m', h1.move m hn, h2.move m hn, h3.move m hn⟩
  | some x, ⟨q, m', b1, b2, hb, cap, h1, h2, h3, h4⟩ => exact ⟨q, m', b1, b2, hb, cap, h1.move m hn, h2.move m hn, h3.move m hn, h4.move m hn⟩
theorem owns_firing {col : Nat → Nat} {cc hb cap : Nat} {x : FiringV} {W : World} (h : Owns col cc W 40 4 (.slice (some ⟨hb, 0, none⟩) 1 cap) 1 x.cl) :
    (1 ≤ cap ∧ cap ≤ maxLen) ∧ W.cell? ⟨hb, 0, none⟩ = some (.int .u64 x.id) ∧ W.cell? ⟨hb, 1, none⟩ = some (.int .u64 x.gen) ∧ W.cell? ⟨hb, 2, none⟩ = some (.int .u64 x.dl) ∧ W.cell? ⟨hb, 3, none⟩ = some (.int .u64 x.tick) := by
  obtain ⟨g, cap', hv, -, -, hn, hm, -, hc⟩ := h.row_at (by omega)
  simp only [Value.slice.injEq, Option.some.injEq, Addr.mk.injEq, and_true, true_and] at hv
  obtain ⟨rfl, rfl⟩ := hv
  exact ⟨⟨hn, hm⟩, hc 0 (by omega), hc 1 (by omega), hc 2 (by omega), hc 3 (by omega)⟩
end Go.Proofs.Ytbikganlloopbaa
