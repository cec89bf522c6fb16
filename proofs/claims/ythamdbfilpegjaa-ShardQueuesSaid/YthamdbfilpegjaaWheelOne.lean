/-
  What stands here: what is done with a wheel in a law. Under no condition but that the world holds it.
-/
import Derived.Test.YthamdbfilpegjaaWheelAdv
import Derived.Test.YthamdbfilpegjaaWheelIns
import Derived.Test.YthamdbfilpegjaaWheelRem
import Derived.Test.YthamdbfilpegjaaWheelNew
import Derived.Test.YthamdbfilpegjaaWheelSee
namespace Go.Proofs.Ythamdbfilpegjaa
set_option linter.unusedVariables false
set_option linter.unusedSimpArgs false
open Go.RowKit Go.Proofs
/-- each entry stands just once -/
def Uniq (pl : Nat → List Nat) : Prop := (∀ q, q < 257 → (pl q).Nodup) ∧ ∀ q r e, q < 257 → r < 257 → e ∈ pl q → e ∈ pl r → q = r
theorem Uniq.agn {pl : Nat → List Nat} (h : Uniq pl) (due : Nat → Nat) (now q0 : Nat) (hq0 : q0 < 257) : Uniq (agn due now q0 pl) := by
  constructor
  · intro q hq
    rw [agn_at, List.nodup_append]
    refine ⟨?_, (h.1 q0 hq0).filter _, fun a ha b hb e => ?_⟩
    · split
      · exact List.nodup_nil
      · exact h.1 q hq
    · subst e
      by_cases hqq : q = q0
      · rw [if_pos hqq] at ha; cases ha
      · rw [if_neg hqq] at ha
        exact hqq (h.2 q q0 a hq hq0 ha (List.mem_filter.1 hb).1)
  · intro q r e hq hr h1 h2
    rw [agn_at, List.mem_append] at h1 h2
    have g : ∀ q, q < 257 → (e ∈ (if q = q0 then [] else pl q)) → q ≠ q0 ∧ e ∈ pl q := fun q hq h => by
      by_cases hqq : q = q0
      · rw [if_pos hqq] at h; cases h
      · rw [if_neg hqq] at h; exact ⟨hqq, h⟩
    have f : ∀ q, e ∈ (pl q0).filter (fun e => plc (due e) now == q) → e ∈ pl q0 ∧ plc (due e) now = q := fun q h => by
      obtain ⟨a, b⟩ := List.mem_filter.1 h
      exact ⟨a, by simpa using b⟩
    rcases h1 with h1 | h1
    · obtain ⟨a1, a2⟩ := g q hq h1
      rcases h2 with h2 | h2
      · exact h.2 q r e hq hr a2 (g r hr h2).2
      · exact absurd (h.2 q q0 e hq hq0 a2 (f r h2).1) a1
    · rcases h2 with h2 | h2
      · obtain ⟨a1, a2⟩ := g r hr h2
        exact absurd (h.2 r q0 e hr hq0 a2 (f q h1).1) a1
      · rw [← (f q h1).2, ← (f r h2).2]
theorem Uniq.stg {pl : Nat → List Nat} (h : Uniq pl) (due : Nat → Nat) (now : Nat) : ∀ j, Uniq (stg due now pl j)
  | 0 => h
  | j + 1 => by
    show Uniq (if tkd now (4 - j) then _ else _)
    split
    · exact (Uniq.stg h due now j).agn _ _ _ (tkp_lt _ _)
    · exact Uniq.stg h due now j
theorem nAll_none {f : Nat → List Nat} (h : ∀ q, f q = []) : nAll f = 0 := by
  rw [nAll_eq]
  have h9 : ∀ l : List Nat, (l.map fun q => (f q).length).sum = 0 := fun l => by
    induction l with
    | nil => rfl
    | cons x l ih => rw [List.map_cons, List.sum_cons, ih, h x]; rfl
  exact h9 _
/-- a list without repeats, of just one -/
theorem only_one {l : List Nat} {b : Nat} (hn : l.Nodup) (h : ∀ e, e ∈ l ↔ e = b) : l = [b] := by
  cases l with
  | nil => exact absurd ((h b).2 rfl) (by simp)
  | cons x l =>
    have hx := (h x).1 (by simp)
    subst hx
    cases l with
    | nil => rfl
    | cons y l =>
      have hy := (h y).1 (by simp)
      subst hy
      exact absurd (List.nodup_cons.1 hn).1 (by simp)
theorem only_none {l : List Nat} (h : ∀ e, e ∉ l) : l = [] := List.eq_nil_iff_forall_not_mem.2 h
/-- what an insert does, in a law -/
structure XIns (s s' : LS) (S S' : WSt) (e d : Nat) (xs : Nat → Value) (W W' : World) : Prop where
  now : S'.now = S.now
  pl : S'.pl = putAt S.pl (plc d S.now) e
  due : S'.due = upd S.due e d
  dl : S'.dl = upd S.dl e (.int .u64 d)
  val : S'.val = upd S.val e xs
  kd : ∀ y, y < W.heap.size → s'.kd y = s.kd y
  ke : s'.kd e = 6
  new : s.kd e = 0
  cnt : nAll S'.pl = nAll S.pl + 1
  st : ∀ y, Stands S'.pl y ↔ Stands S.pl y ∨ y = e
  no : ¬ Stands S.pl e
  kept : Kept (fun y => s.kd y ≠ 0) W W'
/-- what an advance does, in a law -/
structure XAdv (s s' : LS) (S S' : WSt) (es : List Nat) (R : Value) (W W' : World) : Prop where
  now : S'.now = S.now + 1
  eq : es = outOf S.due (S.now + 1) S.pl
  pl : S'.pl = restOf S.due (S.now + 1) S.pl
  due : S'.due = S.due
  dl : S'.dl = S.dl
  val : S'.val = S.val
  kd : ∀ y, y < W.heap.size → s'.kd y = s.kd y
  six : ∀ e, e ∈ es → s'.kd e = 6
  nodup : es.Nodup
  mem : ∀ e, e ∈ es ↔ Stands S.pl e ∧ S.due e = S.now + 1
  st : ∀ e, Stands S'.pl e ↔ Stands S.pl e ∧ S.due e ≠ S.now + 1
  cnt : nAll S'.pl + es.length = nAll S.pl
  row : VRow (fun b => W.heap.size ≤ b ∧ s'.kd b = 0) W' R (ptrs es)
  kept : Kept (fun y => s.kd y ≠ 0) W W'
/-- what a remove does, in a law -/
structure XRem (s s' : LS) (S S' : WSt) (e : Nat) (W W' : World) : Prop where
  now : S'.now = S.now
  pl : ∀ q, q < 257 → S'.pl q = (S.pl q).erase e
  due : S'.due = S.due
  dl : S'.dl = S.dl
  val : S'.val = S.val
  kd : s'.kd = s.kd
  st : ∀ y, Stands S'.pl y ↔ Stands S.pl y ∧ y ≠ e
  cnt : nAll S'.pl + 1 = nAll S.pl
  kept : Kept (fun y => s.kd y ≠ 0) W W'
/-- a wheel in a law: the world w at its begin -/
structure WX_t (s : LS) (v : Nat) (lv : Nat → Nat) (sl : Nat → Nat → Nat) (bd : Nat) (S : WSt) (w W : World) : Prop where
  wb : WB_t s v lv sl bd S [] (nAll S.pl) W
  right : Right S.due S.now S.pl
  bel : Below w.heap.size w W
  low : ∀ y, y < w.heap.size → s.kd y = 0
section
variable {s : LS} {v : Nat} {lv : Nat → Nat} {sl : Nat → Nat → Nat} {bd : Nat} {S : WSt} {w W W' : World}
theorem WX_t.uniq (h : WX_t s v lv sl bd S w W) : Uniq S.pl := ⟨h.wb.nodup, h.wb.one⟩
theorem WX_t.keep (h : WX_t s v lv sl bd S w W) {T : Nat → Prop} (k : Kept T W W') (hT : ∀ y, T y → s.kd y = 0 ∧ w.heap.size ≤ y) : WX_t s v lv sl bd S w W' :=
  ⟨h.wb.kept k (fun y hy hTy => hy (hT y hTy).1), h.right, below_step h.bel k (Nat.le_refl _) (fun i hi hTi => by have := (hT i hTi).2; omega), h.low⟩
theorem WX_t.still (h : WX_t s v lv sl bd S w W) (k : Still W W') : WX_t s v lv sl bd S w W' := h.keep k (fun _ f => f.elim)
theorem WX_t.fr (h : WX_t s v lv sl bd S w W) {y : Nat} (hy : W.heap.size ≤ y) : s.kd y = 0 := h.wb.lw.fresh y hy
theorem WX_t.below (h : WX_t s v lv sl bd S w W) (k : Below W.heap.size W W') : WX_t s v lv sl bd S w W' :=
  h.keep (kept_of_below k) (fun y hy => ⟨h.fr hy, Nat.le_trans h.bel.size hy⟩)
theorem WX_t.lows (h : WX_t s v lv sl bd S w W) {y : Nat} (hy : s.kd y ≠ 0) : w.heap.size ≤ y := by
  rcases Nat.lt_or_ge y w.heap.size with h1 | h1
  · exact absurd (h.low y h1) hy
  · exact h1
end
theorem xnew_t (now : Nat) (hn : now < 18446744073709551616) (w W : World) (hb : Below w.heap.size w W) :
    Calls Try.prog 23 #[.int .u64 (now : Int)] W fun e w' => ∃ v s lv sl bd S, e = .returned (.pointer (some ⟨v, 0, none⟩)) ∧ WX_t s v lv sl bd S w w' ∧ S.now = now ∧ (∀ q, S.pl q = []) ∧ Still W w' ∧ (∀ y, y < W.heap.size → s.kd y = 0) ∧ (∀ y, s.kd y ≠ 6) := by
  refine (wnew_t now hn W).mono ?_
  rintro e w1 ⟨v, s, lv, sl, bd, S, rfl, h1, h2, h3, h4, h5, h6⟩
  have hz : nAll S.pl = 0 := nAll_none h3
  exact ⟨v, s, lv, sl, bd, S, rfl, ⟨by rw [hz]; exact h1, fun q e _ he => by (rw [h3 q] at he; cases he), below_still hb h4 (Nat.le_refl _), fun y hy => h5 y (Nat.lt_of_lt_of_le hy hb.size)⟩, h2, h3, h4, h5, h6⟩
theorem xadv_t {s : LS} {v : Nat} {lv : Nat → Nat} {sl : Nat → Nat → Nat} {bd : Nat} {S : WSt} {w W : World} (h : WX_t s v lv sl bd S w W) (hbig : nAll S.pl < 80000) (ho : S.now < 18446744073709551615) :
    Calls Try.prog 28 #[.pointer (some ⟨v, 0, none⟩)] W fun r w' => ∃ s' S' es R, r = .returned (.tuple #[R, .int .i64 0]) ∧ WX_t s' v lv sl bd S' w w' ∧ XAdv s s' S S' es R W w' := by
  refine (wadv_t W h.wb hbig ho).mono ?_
  rintro r w1 ⟨s1, S1, R, rfl, g1, p1, r1, k1⟩
  have hn : S1.now = S.now + 1 := g1.same.now
  have hd : S1.due = S.due := g1.same.due
  have hu := h.uniq.stg S.due (S.now + 1) 4
  refine ⟨s1, S1, _, R, rfl, ⟨by rw [p1]; exact g1.wb, by rw [hd, hn, p1]; exact h.right.rest, below_step h.bel g1.kept (Nat.le_refl _) (fun i hi h9 => h9 (h.low i hi)), fun y hy => by have := h.bel.size; rw [g1.kd y (by omega)]; exact h.low y hy⟩, ⟨hn, rfl, p1, hd, g1.same.dl, g1.same.val, g1.kd, k1, hu.1 _ (by omega), h.right.out_iff, fun e => by rw [p1]; exact h.right.rest_iff e, ?_, r1, g1.kept⟩⟩
  rw [p1]
  unfold restOf outOf
  have := nAll_upd (stg S.due (S.now + 1) S.pl 4) (q := (S.now + 1) % 64) (by omega) []
  rw [List.length_nil, Nat.add_zero, nAll_stg] at this
  exact this

theorem xins_t {s : LS} {v : Nat} {lv : Nat → Nat} {sl : Nat → Nat → Nat} {bd : Nat} {S : WSt} {w W : World} (h : WX_t s v lv sl bd S w W) (hbig : nAll S.pl < 80000) (d : Nat) (hlt : S.now < d) (hd : d < 18446744073709551616) (z : TaskV) :
    Calls Try.prog 27 #[.pointer (some ⟨v, 0, none⟩), .int .u64 (d : Int), z.v] W fun r w' => r = .returned (.tuple #[.pointer (some ⟨W.heap.size + 1, 0, none⟩), .int .i64 0]) ∧ ∃ s' S', WX_t s' v lv sl bd S' w w' ∧ XIns s s' S S' (W.heap.size + 1) d (vcell_t z) W w' := by
  refine (wins_t W h.wb hbig hbig d hlt hd z).mono ?_
  rintro r w1 ⟨rfl, s1, S1, b1, i1⟩
  have ke : s.kd (W.heap.size + 1) = 0 := h.fr (Nat.le_succ _)
  have hno : ∀ q, q < 257 → W.heap.size + 1 ∉ S.pl q := fun q hq h9 => by have := (h.wb.ent q _ hq h9).1; rw [ke] at this; cases this
  have hc : nAll S1.pl = nAll S.pl + 1 := by rw [i1.pl]; exact nAll_put _ (plc_lt _ _) _
  have mem : ∀ q y, y ∈ S1.pl q ↔ y ∈ S.pl q ∨ (q = plc d S.now ∧ y = W.heap.size + 1) := fun q y => by
    rw [i1.pl]
    unfold putAt
    by_cases hq : q = plc d S.now
    · subst hq; rw [upd_same]; simp
    · rw [upd_ne _ _ hq]; simp [hq]
  have hne : ∀ q y, q < 257 → y ∈ S.pl q → y ≠ W.heap.size + 1 := fun q y hq hy e9 => hno q hq (e9 ▸ hy)
  refine ⟨rfl, s1, S1, ⟨by rw [hc]; exact b1, fun q y hq hy => ?_, below_step h.bel i1.kept (Nat.le_refl _) (fun i hi h9 => h9 (h.low i hi)), fun y hy => ?_⟩, ⟨i1.now, i1.pl, i1.due, i1.dl, i1.val, i1.kd, i1.ke, ke, hc, fun y => ?_, fun ⟨q, hq, h9⟩ => hno q hq h9, i1.kept⟩⟩
  · rcases (mem q y).1 hy with h1 | ⟨h1, h2⟩
    · rw [i1.due, i1.now, upd_ne _ _ (hne q y hq h1)]; exact h.right q y hq h1
    · rw [h2, i1.due, i1.now, upd_same]; exact ⟨hlt, h1.symm⟩
  · have := h.bel.size
    rw [i1.kd y (by omega)]; exact h.low y hy
  · constructor
    · rintro ⟨q, hq, h9⟩
      rcases (mem q y).1 h9 with h1 | ⟨_, h2⟩
      · exact .inl ⟨q, hq, h1⟩
      · exact .inr h2
    · rintro (⟨q, hq, h9⟩ | rfl)
      · exact ⟨q, hq, (mem q y).2 (.inl h9)⟩
      · exact ⟨_, plc_lt d S.now, (mem _ _).2 (.inr ⟨rfl, rfl⟩)⟩

end Go.Proofs.Ythamdbfilpegjaa
