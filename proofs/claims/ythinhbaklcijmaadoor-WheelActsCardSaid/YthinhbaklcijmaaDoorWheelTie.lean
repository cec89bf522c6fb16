/-
  What stands here: a wheel and the document's, side by side. Under no condition but that the world holds them.
-/
import Derived.Test.YthinhbaklcijmaaDoorRefSee
import Derived.Test.YthinhbaklcijmaaDoorWheelTied
import Derived.Test.YthinhbaklcijmaaDoorWheelMin
namespace Go.Proofs.YthinhbaklcijmaaDoor
set_option linter.unusedVariables false
set_option linter.unusedSimpArgs false
open Go.RowKit Go.Proofs
theorem still_cl {w w' : World} (k : Still w w') {p : Addr} {v : Value} (h : w.cell? p = some v) : w'.cell? p = some v :=
  (World.cell?_of_block (a := p) (k.block p.block (lt_of_cell h) (fun f => f))).trans h
theorem bel_cl {w w' : World} (k : Below w.heap.size w w') {p : Addr} {v : Value} (h : w.cell? p = some v) : w'.cell? p = some v := (k.cell (p := p) (lt_of_cell h)).trans h
theorem nums_mem {l : List RE} {q i : Nat} (h : i ∈ nums l q) : ∃ x, x ∈ l ∧ x.q = q ∧ x.n = i := by
  obtain ⟨x, hx, rfl⟩ := List.mem_map.1 h
  obtain ⟨h1, h2⟩ := List.mem_filter.1 hx
  exact ⟨x, h1, by simpa using h2, rfl⟩
theorem mem_nums {l : List RE} {x : RE} (h : x ∈ l) : x.n ∈ nums l x.q := List.mem_map_of_mem (List.mem_filter.2 ⟨h, by simp⟩)
theorem nums_snoc (l : List RE) (x : RE) : nums (l ++ [x]) = putAt (nums l) x.q x.n := by
  funext q
  unfold nums putAt
  rw [List.filter_append, List.map_append]
  by_cases h : q = x.q
  · subst h
    rw [upd_same, List.filter_cons_of_pos (by simp)]; rfl
  · rw [upd_ne _ _ h, List.filter_cons_of_neg (by simp; exact fun h9 => h h9.symm)]; simp
theorem nAll_nums : ∀ (k : Nat) (l : List RE), l.length = k → (∀ x, x ∈ l → x.q < 257) → nAll (nums l) = l.length
  | 0, l, h, _ => by
    obtain rfl := List.eq_nil_of_length_eq_zero h
    exact nAll_none (fun _ => rfl)
  | k + 1, l, h, hq => by
    obtain ⟨E, d, rfl⟩ : ∃ E d, l = E ++ [d] := ⟨l.dropLast, l.getLast (by intro e; rw [e] at h; cases h), (List.dropLast_concat_getLast _).symm⟩
    rw [nums_snoc, nAll_put _ (hq d (by simp)), nAll_nums k E (by simp at h; exact h) (fun x hx => hq x (by simp [hx])), List.length_append, List.length_singleton]
theorem ragn_q {now q0 : Nat} {l : List RE} (h : ∀ x, x ∈ l → x.q < 257) : ∀ x, x ∈ ragn now q0 l → x.q < 257 := fun x hx => by
  unfold ragn at hx
  rcases List.mem_append.1 hx with h1 | h1
  · exact h x (List.mem_filter.1 h1).1
  · obtain ⟨y, hy, rfl⟩ := List.mem_map.1 h1
    exact plc_lt _ _
theorem rstg_q {now : Nat} {l : List RE} (h : ∀ x, x ∈ l → x.q < 257) : ∀ j x, x ∈ rstg now l j → x.q < 257
  | 0, x, hx => h x hx
  | j + 1, x, hx => by
    have hx' : x ∈ (if tkd now (4 - j) then ragn now (tkp now (4 - j)) (rstg now l j) else rstg now l j) := hx
    split at hx'
    · exact ragn_q (rstg_q h j) x hx'
    · exact rstg_q h j x hx'
/-- a wheel and the document's in a world -/
structure WI (col : Nat → Nat) (ls : LS) (v : Nat) (lv : Nat → Nat) (sl : Nat → Nat → Nat) (bd : Nat) (S : WSt) (ev : Nat → Nat) (n : Nat) (D : Nat → Nat) (b : Nat) (lr : List RE) (w W : World) : Prop where
  fr : Fr w.heap.size col w W
  x : WX_e ls v lv sl bd S w W
  xc : ∀ y, ls.kd y ≠ 0 → col y = 1
  rs : RWh col b 42 S.now lr [] W
  t : Tied ls S ev n D 0 (nums lr)
  lt' : ∀ x, x ∈ lr → x.n < n
  dd : ∀ x, x ∈ lr → x.d = D x.n
  d64 : ∀ x, x ∈ lr → x.d < 18446744073709551616
  ql : ∀ x, x ∈ lr → x.q < 257
section
variable {col col' : Nat → Nat} {ls ls' : LS} {v : Nat} {lv : Nat → Nat} {sl : Nat → Nat → Nat} {bd : Nat} {S S' : WSt} {ev : Nat → Nat} {n : Nat} {D : Nat → Nat} {b : Nat} {lr lr' : List RE} {w W W' : World}
theorem WI.cnt (h : WI col ls v lv sl bd S ev n D b lr w W) : nAll S.pl = lr.length := by
  rw [← nAll_nums lr.length lr rfl h.ql]
  exact nAll_map h.t.pl (fun q _ => (List.map_id' (nums lr q)).symm)
theorem WI.still (h : WI col ls v lv sl bd S ev n D b lr w W) (k : Still W W') : WI col ls v lv sl bd S ev n D b lr w W' :=
  ⟨h.fr.still k, h.x.still k, h.xc, h.rs.move (Move.still (S := fun _ => False) k) (fun f => f) (fun f => f) (fun f => f), h.t, h.lt', h.dd, h.d64, h.ql⟩
theorem WI.below (h : WI col ls v lv sl bd S ev n D b lr w W) (k : Below W.heap.size W W') : WI col ls v lv sl bd S ev n D b lr w W' :=
  h.still ⟨k.os, k.tape, k.output, k.size, fun i hi _ => k.block i hi⟩
theorem WI.new (h : WI col ls v lv sl bd S ev n D b lr w W) (m : Move (fun _ => False) col col' W W') : WI col' ls v lv sl bd S ev n D b lr w W' :=
  ⟨h.fr.move m (fun f => f), h.x.still (m.k.mono (fun _ _ f => f)), fun y hy => (m.re y (by
      rcases Nat.lt_or_ge y W.heap.size with h9 | h9
      · exact h9
      · exact absurd (h.x.fr h9) hy)).trans (h.xc y hy), h.rs.move m (fun f => f) (fun f => f) (fun f => f), h.t, h.lt', h.dd, h.d64, h.ql⟩
theorem WI.stands (h : WI col ls v lv sl bd S ev n D b lr w W) {e : Nat} : Stands S.pl e ↔ ∃ x, x ∈ lr ∧ ev x.n = e := by
  constructor
  · rintro ⟨q, hq, hm⟩
    rw [h.t.pl q hq] at hm
    obtain ⟨i, hi, rfl⟩ := List.mem_map.1 hm
    obtain ⟨x, hx, _, rfl⟩ := nums_mem hi
    exact ⟨x, hx, rfl⟩
  · rintro ⟨x, hx, rfl⟩
    exact ⟨x.q, h.ql x hx, by rw [h.t.pl _ (h.ql x hx)]; exact List.mem_map_of_mem (mem_nums hx)⟩
theorem WI.due (h : WI col ls v lv sl bd S ev n D b lr w W) {x : RE} (hx : x ∈ lr) : S.due (ev x.n) = x.d := by rw [h.t.due _ (h.lt' x hx), h.dd x hx, Nat.add_zero]
/-- the values at a place -/
theorem WI.vals (h : WI col ls v lv sl bd S ev n D b lr w W) {q : Nat} (hq : q < 257) : ((S.pl q).map fun e => Value.int .i64 (intOf (S.val e 0))) = numRow (nums lr q) ∧ (S.pl q).length = (nums lr q).length ∧ ∀ e, e ∈ S.pl q → S.val e 0 = .int .i64 (intOf (S.val e 0)) := by
  rw [h.t.pl q hq]
  have hl : ∀ i, i ∈ nums lr q → i < n := fun i hi => h.t.lt q i hq hi
  exact ⟨h.t.vals hl, List.length_map .., h.t.val1 hl⟩
/-- the document's has gone on -/
theorem wi_ref (fr : Fr w.heap.size col w W) (x : WX_e ls v lv sl bd S w W) (xc : ∀ y, ls.kd y ≠ 0 → col y = 1) {T : Nat → Prop} (m : Move T col col' W W') (h0 : ¬ T 0) (h1 : ¬ T 1) : Fr w.heap.size col' w W' ∧ WX_e ls v lv sl bd S w W' ∧ (∀ y, ls.kd y ≠ 0 → col' y = 1) := by
  have hlt : ∀ y, ls.kd y ≠ 0 → y < W.heap.size := fun y hy => by
    rcases Nat.lt_or_ge y W.heap.size with h9 | h9
    · exact h9
    · exact absurd (x.fr h9) hy
  refine ⟨fr.move m h0, x.keep m.k (fun y hy => ⟨?_, ?_⟩), fun y hy => (m.re y (hlt y hy)).trans (xc y hy)⟩
  · rcases Nat.eq_zero_or_pos (ls.kd y) with h9 | h9
    · exact h9
    · rw [xc y (by omega)] at hy; exact absurd hy h1
  · rcases Nat.lt_or_ge y w.heap.size with h9 | h9
    · rw [fr.low y h9] at hy; exact absurd hy h0
    · exact h9
/-- the program's has gone on -/
theorem wi_prog (h : WI col ls v lv sl bd S ev n D b lr w W) (kd : ∀ y, y < W.heap.size → ls'.kd y = ls.kd y) (k : Kept (fun y => ls.kd y ≠ 0) W W') : Move (fun c => c = 1) col (ext col W.heap.size 1) W W' ∧ Fr w.heap.size (ext col W.heap.size 1) w W' ∧ (∀ y, ls'.kd y ≠ 0 → ext col W.heap.size 1 y = 1) ∧ RWh (ext col W.heap.size 1) b 42 S.now lr [] W' := by
  have m : Move (fun c => c = 1) col (ext col W.heap.size 1) W W' := Move.ext (k.mono fun y _ hy => h.xc y hy) 1
  refine ⟨m, h.fr.move m (by decide), fun y hy => ?_, h.rs.move m (by decide) (by decide) (by decide)⟩
  rcases Nat.lt_or_ge y W.heap.size with h9 | h9
  · exact (m.re y h9).trans (h.xc y (by rw [← kd y h9]; exact hy))
  · exact ext_new col h9
end
end Go.Proofs.YthinhbaklcijmaaDoor
