/-
  What stands here: what a crew has, as plain lists, and a step of a worker on it. Under no condition.
-/
import Derived.Test.YtbikganlloopbaaCrewLaw
namespace Go.Proofs.Ytbikganlloopbaa
set_option linter.unusedVariables false
set_option linter.unusedSimpArgs false
open Go.RowKit Go.Proofs
/-- what a floor and its crew have -/
structure CSt where
  xs : List FiringV
  logs : List FiringV
  hs : Nat → Option FiringV
  ns : Nat → Int
  bz : Int
def CSt.step (s : CSt) (i : Nat) : CSt := match s.hs i with
  | some x => ⟨s.xs, s.logs ++ [x], upd s.hs i none, upd s.ns i (s.ns i + 1), s.bz - 1⟩
  | none => match s.xs with
    | x :: rest => ⟨rest, s.logs, upd s.hs i (some x), s.ns, s.bz + 1⟩
    | [] => s
def CSt.may (s : CSt) (i : Nat) : Bool := (s.hs i).isSome || decide (0 < s.xs.length)
def CSt.put (s : CSt) (x : FiringV) : CSt := ⟨s.xs ++ [x], s.logs, s.hs, s.ns, s.bz⟩
/-- what workers hold, one behind the other -/
def held (n : Nat) (hs : Nat → Option FiringV) : List FiringV := (List.range n).filterMap hs
theorem held_succ (n : Nat) (hs : Nat → Option FiringV) : held (n + 1) hs = held n hs ++ (hs n).toList := by
  unfold held
  rw [List.range_succ, List.filterMap_append]
  congr 1
theorem held_same (n : Nat) (hs gs : Nat → Option FiringV) (h : ∀ i, i < n → hs i = gs i) : held n hs = held n gs := by
  induction n with
  | zero => rfl
  | succ n ih => rw [held_succ, held_succ, ih (fun i hi => h i (by omega)), h n (by omega)]
theorem held_some {n i : Nat} {hs : Nat → Option FiringV} (x : FiringV) (hi : i < n) (h : hs i = none) : (held n (upd hs i (some x))).Perm (x :: held n hs) := by
  induction n with
  | zero => omega
  | succ n ih =>
    rw [held_succ, held_succ]
    by_cases he : i = n
    · subst he
      rw [upd_same, h, held_same i (upd hs i (some x)) hs (fun j hj => upd_ne _ _ (by omega))]
      simp only [Option.toList_some, Option.toList_none, List.append_nil]
      exact List.perm_append_comm
    · rw [upd_ne _ _ (by omega : n ≠ i)]
      exact (ih (by omega)).append_right _
theorem held_none {n i : Nat} {hs : Nat → Option FiringV} {x : FiringV} (hi : i < n) (h : hs i = some x) : (held n hs).Perm (x :: held n (upd hs i none)) := by
  have h9 := held_some (hs := upd hs i none) x hi (upd_same _ _ _)
  have e : upd (upd hs i none) i (some x) = hs := by
    funext j
    by_cases hj : j = i
    · subst hj; rw [upd_same, h]
    · rw [upd_ne _ _ hj, upd_ne _ _ hj]
  rwa [e] at h9
/-- what goes with it: as many are busy as hold something, and the counts are small -/
structure Fits (n B : Nat) (s : CSt) : Prop where
  bz : s.bz = (held n s.hs).length
  cnt : s.xs.length + s.logs.length + (held n s.hs).length ≤ B
  ns : ∀ i, 0 ≤ s.ns i ∧ s.ns i ≤ s.logs.length
theorem Fits.step {n B : Nat} {s : CSt} (h : Fits n B s) {i : Nat} (hi : i < n) : Fits n B (s.step i) := by
  unfold CSt.step
  cases hh : s.hs i with
  | some x =>
    have hp := (held_none hi hh).length_eq
    simp only [List.length_cons] at hp
    refine ⟨?_, ?_, fun j => ?_⟩
    · show s.bz - 1 = ((held n (upd s.hs i none)).length : Int)
      have := h.bz; omega
    · show s.xs.length + (s.logs ++ [x]).length + (held n (upd s.hs i none)).length ≤ B
      have := h.cnt
      rw [List.length_append, List.length_singleton]; omega
    · show 0 ≤ upd s.ns i (s.ns i + 1) j ∧ upd s.ns i (s.ns i + 1) j ≤ ((s.logs ++ [x]).length : Int)
      rw [List.length_append, List.length_singleton]
      by_cases hj : j = i
      · subst hj; rw [upd_same]; have := h.ns j; omega
      · rw [upd_ne _ _ hj]; have := h.ns j; omega
  | none =>
    cases hx : s.xs with
    | nil => simpa only [hx] using h
    | cons x rest =>
      simp only
      have hp := (held_some x hi hh).length_eq
      simp only [List.length_cons] at hp
      have hc := h.cnt
      rw [hx, List.length_cons] at hc
      refine ⟨?_, ?_, h.ns⟩
      · show s.bz + 1 = ((held n (upd s.hs i (some x))).length : Int)
        have := h.bz; omega
      · show rest.length + s.logs.length + (held n (upd s.hs i (some x))).length ≤ B
        omega
theorem Fits.put {n B : Nat} {s : CSt} (h : Fits n B s) (x : FiringV) : Fits n (B + 1) (s.put x) := ⟨h.bz, by
  have := h.cnt
  show (s.xs ++ [x]).length + s.logs.length + (held n s.hs).length ≤ B + 1
  rw [List.length_append, List.length_singleton]; omega, h.ns⟩
theorem held_pos {n i : Nat} {hs : Nat → Option FiringV} {x : FiringV} (hi : i < n) (h : hs i = some x) : 1 ≤ (held n hs).length := by
  have := (held_none hi h).length_eq
  simp only [List.length_cons] at this
  omega
/-- a step of whichever worker -/
theorem css_step {base : Nat} {col : Nat → Nat} {f p g N M B : Nat} {cf : Nat → Int} {s : CSt} {ks : List Nat} {lv : Value} {w W : World} (h : CS base col f p g N M cf s.bz s.xs s.logs ks s.ns s.hs lv w W) (hM : M < 90000) (hB : B < 90000) (hf : Fits ks.length B s) {i k : Nat} (hk : ks[i]? = some k) :
    Calls Try.prog 14 #[.pointer (some ⟨k, 0, none⟩)] W fun e w' => e = .returned (.bool (s.may i)) ∧ ∃ col', Move MS col col' W w' ∧ CS base col' f p g N M cf (s.step i).bz (s.step i).xs (s.step i).logs ks (s.step i).ns (s.step i).hs lv w w' := by
  have hi : i < ks.length := (List.getElem?_eq_some_iff.1 hk).1
  have hb := hf.bz
  have hc := hf.cnt
  have hn := hf.ns i
  unfold CSt.step CSt.may
  cases hh : s.hs i with
  | some x =>
    have hp := held_pos hi hh
    refine (cs_log h (by omega) (by omega) (by omega) hk hh).mono ?_
    rintro e w1 ⟨rfl, col', m, h'⟩
    exact ⟨rfl, col', m, h'⟩
  | none =>
    cases hx : s.xs with
    | nil =>
      have hw := h.wk i k hk
      have hst := h.st
      rw [hh] at hw
      rw [hx] at hst
      refine (cw_no hst (by omega) hw).mono ?_
      rintro e w1 ⟨rfl, k1⟩
      exact ⟨rfl, col, .still k1, h.still k1⟩
    | cons x rest =>
      refine (cs_take h (by omega) (by omega) hk hh hx).mono ?_
      rintro e w1 ⟨rfl, col', m, h'⟩
      exact ⟨by simp, col', m, h'⟩
end Go.Proofs.Ytbikganlloopbaa
