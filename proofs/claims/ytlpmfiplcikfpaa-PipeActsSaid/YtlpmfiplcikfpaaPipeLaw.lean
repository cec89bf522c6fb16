/-
  What stands here: a pipe in new memory, whatever is done with it. Under no condition.
-/
import Derived.Test.YtlpmfiplcikfpaaPipeAlive
namespace Go.Proofs.Ytlpmfiplcikfpaa
set_option linter.unusedVariables false
set_option linter.unusedSimpArgs false
open Go.RowKit Go.Proofs

/-- a pipe that lies in new memory -/
structure PB (base p c l N : Nat) (xs : List Int) (most : Nat) (shut : Bool) (w W : World) : Prop where
  bel : Below base w W
  hb : base ≤ w.heap.size
  hp : base ≤ p
  hc : base ≤ c
  st : ∃ s, (∀ y, y < base → s.kd y = 0) ∧ PW_i s W p c l N xs most shut
section
variable {base p c l N : Nat} {xs : List Int} {mx : Nat} {shut : Bool} {w W : World}
theorem PB.size (h : PB base p c l N xs mx shut w W) : base ≤ W.heap.size := Nat.le_trans h.hb h.bel.size
theorem PB.n1 (h : PB base p c l N xs mx shut w W) : 1 ≤ N := by obtain ⟨s, _, h⟩ := h.st; exact h.n1
theorem PB.still (h : PB base p c l N xs mx shut w W) {W' : World} (k : Still W W') : PB base p c l N xs mx shut w W' := by
  obtain ⟨s, h1, h2⟩ := h.st
  exact ⟨below_still h.bel k h.hb, h.hb, h.hp, h.hc, s, h1, h2.still k⟩
theorem PB.other (h : PB base p c l N xs mx shut w W) {W' : World} (k : Below W.heap.size W W') : PB base p c l N xs mx shut w W' := h.still ((kept_of_below k).mono fun y h1 h2 => absurd h2 (by omega))
theorem pb_new {w W : World} (h : Below w.heap.size w W) (n : Nat) (hn1 : 1 ≤ n) (hn2 : n ≤ 16) : Calls Try.prog 8 #[.int .i64 n] W fun e w' => ∃ p c l, e = .returned (.tuple #[.pointer (some ⟨p, 0, none⟩), .int .i64 0]) ∧ PB w.heap.size p c l n [] 0 false w w' := by
  refine (pnew_i LS.zero W (LW_i.zero W) n hn1 hn2).mono ?_
  rintro e w1 ⟨p, c, l, s1, rfl, h1, k1, n1, hp, hc, hl, q1⟩
  have hz := h.size
  exact ⟨p, c, l, rfl, below_still h k1 (Nat.le_refl _), Nat.le_refl _, by omega, by omega, s1, fun y hy => by rw [n1 y (by omega)]; rfl, h1⟩
theorem PB.put (h : PB base p c l N xs mx false w W) (v : Int) (hx : xs.length < 100000) (hm : mx < 100000) : Calls Try.prog 9 #[.pointer (some ⟨p, 0, none⟩), .int .i64 v] W fun e w' => e = .returned (.tuple #[.bool (decide (N ≤ xs.length)), .int .i64 0]) ∧ PB base p c l N (xs ++ [v]) (max mx (xs.length + 1 - N)) false w w' := by
  obtain ⟨s, h1, h2⟩ := h.st
  refine (pput_i W h2 v hx hm).mono ?_
  rintro e w1 ⟨rfl, k1, s1, h3, n1, q1⟩
  exact ⟨rfl, below_pipe h.bel k1 h1 h.hp h.hc h.hb, h.hb, h.hp, h.hc, s1, fun y hy => (n1 y (Nat.lt_of_lt_of_le hy h.size)).trans (h1 y hy), h3⟩
theorem PB.put_shut (h : PB base p c l N xs mx true w W) (v : Int) : Calls Try.prog 9 #[.pointer (some ⟨p, 0, none⟩), .int .i64 v] W fun e w' => e = .returned (.tuple #[.bool false, .int .i64 3]) ∧ W = w' := by
  obtain ⟨s, h1, h2⟩ := h.st
  exact pput_shut_i W h2 v
theorem PB.take_none (h : PB base p c l N [] mx shut w W) : Calls Try.prog 10 #[.pointer (some ⟨p, 0, none⟩)] W fun e w' => e = .returned (.tuple #[.int .i64 0, .int .i64 6]) ∧ W = w' := by
  obtain ⟨s, h1, h2⟩ := h.st
  exact ptake_none_i W h2
theorem PB.take {x : Int} {rest : List Int} (h : PB base p c l N (x :: rest) mx shut w W) (hx : rest.length < 100000) : Calls Try.prog 10 #[.pointer (some ⟨p, 0, none⟩)] W fun e w' => e = .returned (.tuple #[.int .i64 x, .int .i64 0]) ∧ PB base p c l N rest mx shut w w' := by
  obtain ⟨s, h1, h2⟩ := h.st
  refine (ptake_i W h2 hx).mono ?_
  rintro e w1 ⟨rfl, k1, s1, h3, n1, q1⟩
  exact ⟨rfl, below_pipe h.bel k1 h1 h.hp h.hc h.hb, h.hb, h.hp, h.hc, s1, fun y hy => by rw [n1]; exact h1 y hy, h3⟩
theorem PB.spilled (h : PB base p c l N xs mx shut w W) : Calls Try.prog 12 #[.pointer (some ⟨p, 0, none⟩)] W fun e w' => e = .returned (.int .i64 (xs.length - N : Nat)) ∧ W = w' := by
  obtain ⟨s, h1, h2⟩ := h.st
  exact pspilled_i W h2
theorem PB.most (h : PB base p c l N xs mx shut w W) : Calls Try.prog 15 #[.pointer (some ⟨p, 0, none⟩)] W fun e w' => e = .returned (.int .i64 mx) ∧ W = w' := by
  obtain ⟨s, h1, h2⟩ := h.st
  exact pmost_i W h2
theorem PB.closed (h : PB base p c l N xs mx shut w W) : Calls Try.prog 14 #[.pointer (some ⟨p, 0, none⟩)] W fun e w' => e = .returned (.bool (shut && decide (xs.length = 0))) ∧ W = w' := by
  obtain ⟨s, h1, h2⟩ := h.st
  exact pclosed_i W h2
theorem PB.len (h : PB base p c l N xs mx shut w W) (hx : xs.length < 100000) : Calls Try.prog 11 #[.pointer (some ⟨p, 0, none⟩)] W fun e w' => e = .returned (.int .i64 xs.length) ∧ PB base p c l N xs mx shut w w' := by
  obtain ⟨s, h1, h2⟩ := h.st
  exact (plen_i W h2 hx).mono fun e w' h9 => ⟨h9.1, h.still h9.2⟩
theorem PB.toShut (h : PB base p c l N xs mx shut w W) : Calls Try.prog 13 #[.pointer (some ⟨p, 0, none⟩)] W fun e w' => e = .returned (.int .i64 (if shut then 3 else 0)) ∧ PB base p c l N xs mx true w w' := by
  obtain ⟨s, h1, h2⟩ := h.st
  refine (pshut_i W h2).mono ?_
  rintro e w1 ⟨rfl, h3, k1⟩
  exact ⟨rfl, below_pipe h.bel (k1.mono fun _ _ e => .inr (.inl e)) h1 h.hp h.hc h.hb, h.hb, h.hp, h.hc, s, h1, h3⟩
end
/-- numbers that follow each other -/
def zr (g : Int) (n : Nat) : List Int := (List.range n).map fun (i : Nat) => g + (i : Int)
theorem zr_len (g : Int) (n : Nat) : (zr g n).length = n := by simp [zr]
theorem zr_push (g : Int) (n : Nat) : zr g n ++ [g + n] = zr g (n + 1) := by simp [zr, List.range_succ]
theorem zr_cons (g : Int) (n : Nat) : zr g (n + 1) = g :: zr (g + 1) n := by
  simp only [zr, List.range_succ_eq_map, List.map_cons, List.map_map]
  congr 1
  · simp
  · exact List.map_congr_left fun i _ => by simp; omega
theorem zr_zero (g : Int) : zr g 0 = [] := rfl
end Go.Proofs.Ytlpmfiplcikfpaa
