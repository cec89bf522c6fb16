/-
  What stands here: blocks of other kinds beside lists; how many nodes the slots of a level have. Under no condition.
-/
import Derived.Test.YthamdbfilpegjaaListOps
import Derived.Test.YthamdbfilpegjaaBitsFns
import Derived.Test.YthamdbfilpegjaaRow
namespace Go.Proofs.Ythamdbfilpegjaa
set_option linter.unusedVariables false
set_option linter.unusedSimpArgs false
open Go.RowKit Go.Proofs

/-- a block that is no list, no node and no home -/
def LS.mark (s : LS) (v k : Nat) : LS := { s with kd := upd s.kd v k }
theorem LInv.mark {s : LS} (i : LInv s) {v k : Nat} (hv : s.kd v = 0) (hk : 3 < k) : LInv (s.mark v k) := by
  have kd : ∀ y j, j ≠ 0 → j ≤ 3 → ((s.mark v k).kd y = j ↔ s.kd y = j) := fun y j h0 h3 => by
    show upd s.kd v k y = j ↔ _
    by_cases e : y = v
    · rw [e, upd_same, hv]; omega
    · rw [upd_ne _ _ e]
  refine ⟨fun l hl => ?_, fun l l' hl hl' e => i.inj l l' ((kd l 1 (by omega) (by omega)).1 hl) ((kd l' 1 (by omega) (by omega)).1 hl') e, fun h h' h1 h2 => ?_, fun l hl => i.lnk l ((kd l 1 (by omega) (by omega)).1 hl), fun l x hl hx => ?_, fun l hl => i.nodup l ((kd l 1 (by omega) (by omega)).1 hl), fun x hx => ?_⟩
  · obtain ⟨h1, h2⟩ := i.hmk l ((kd l 1 (by omega) (by omega)).1 hl)
    exact ⟨(kd _ 3 (by omega) (by omega)).2 h1, h2⟩
  · exact (kd _ 3 (by omega) (by omega)).2 (i.tok h h' ((kd _ 3 (by omega) (by omega)).1 h1) h2)
  · obtain ⟨h1, h, d, h2, h3, h4⟩ := i.mem l x ((kd l 1 (by omega) (by omega)).1 hl) hx
    exact ⟨(kd _ 2 (by omega) (by omega)).2 h1, h, d, h2, (kd _ 3 (by omega) (by omega)).2 h3, h4⟩
  · rcases i.own x ((kd _ 2 (by omega) (by omega)).1 hx) with h | ⟨l, h1, h2⟩
    · exact .inl h
    · exact .inr ⟨l, (kd _ 1 (by omega) (by omega)).2 h1, h2⟩
theorem LW_t.mark {s : LS} {W : World} (h : LW_t s W) {v k : Nat} (hv : s.kd v = 0) (hk : 3 < k) (hlt : v < W.heap.size) : LW_t (s.mark v k) W := by
  have kd : ∀ y j, j ≠ 0 → j ≤ 3 → ((s.mark v k).kd y = j → s.kd y = j) := fun y j h0 h3 => by
    show upd s.kd v k y = j → _
    by_cases e : y = v
    · rw [e, upd_same]; omega
    · rw [upd_ne _ _ e]; exact id
  refine ⟨h.inv.mark hv hk, fun x hx => h.homes x (kd _ _ (by omega) (by omega) hx), fun x hx => h.nodes x (kd _ _ (by omega) (by omega) hx), fun x hx => h.lists x (kd _ _ (by omega) (by omega) hx), fun x hx => ?_⟩
  show upd s.kd v k x = 0
  rw [upd_ne _ _ (by omega)]; exact h.fresh x hx


theorem lstill_kept {S : Nat → Prop} {W W' : World} (k : Still W W') : Kept S W W' := k.mono (fun _ _ f => f.elim)
def lenOf : Value → Nat
  | .slice _ n _ => n
  | _ => 0
/-- the sum over the slots -/
theorem tot_is (f : Nat → Nat) : ∃ n, n = ((List.range 64).map f).sum := ⟨_, rfl⟩
noncomputable def tot (f : Nat → Nat) : Nat := Classical.choose (tot_is f)
theorem tot_eq (f : Nat → Nat) : tot f = ((List.range 64).map f).sum := Classical.choose_spec (tot_is f)
theorem sum_congr' {f g : Nat → Nat} : ∀ (l : List Nat), (∀ x ∈ l, f x = g x) → (l.map f).sum = (l.map g).sum
  | [], _ => rfl
  | x :: l, h => by simp only [List.map_cons, List.sum_cons]; rw [h x (by simp), sum_congr' l (fun y hy => h y (by simp [hy]))]
theorem tot_congr {f g : Nat → Nat} (h : ∀ k, k < 64 → f k = g k) : tot f = tot g := by rw [tot_eq, tot_eq]; exact sum_congr' _ fun x hx => h x (List.mem_range.1 hx)
theorem sum_one {f g : Nat → Nat} {k : Nat} : ∀ (l : List Nat), l.Nodup → (∀ x ∈ l, x ≠ k → f x = g x) → k ∈ l → (l.map f).sum + g k = (l.map g).sum + f k
  | [], _, _, hk => by cases hk
  | x :: l, hn, h, hk => by
    simp only [List.map_cons, List.sum_cons]
    by_cases e : x = k
    · subst e
      have := sum_congr' (f := f) (g := g) l (fun y hy => h y (by simp [hy]) (fun e => (List.nodup_cons.1 hn).1 (e ▸ hy)))
      omega
    · have hkl : k ∈ l := by rcases List.mem_cons.1 hk with h9 | h9; exact absurd h9.symm e; exact h9
      have := sum_one (f := f) (g := g) l (List.nodup_cons.1 hn).2 (fun y hy => h y (by simp [hy])) hkl
      have := h x (by simp) e
      omega
theorem tot_one {f g : Nat → Nat} {k : Nat} (hk : k < 64) (h : ∀ x, x < 64 → x ≠ k → f x = g x) : tot f + g k = tot g + f k := by
  rw [tot_eq, tot_eq]
  exact sum_one _ List.nodup_range (fun x hx hne => h x (List.mem_range.1 hx) hne) (List.mem_range.2 hk)
theorem tot_zero {f : Nat → Nat} (h : ∀ k, k < 64 → f k = 0) : tot f = 0 := by
  rw [tot_congr (g := fun _ => 0) h, tot_eq]; decide
theorem le_tot {f : Nat → Nat} {k : Nat} (hk : k < 64) : f k ≤ tot f := by
  have h := tot_one (f := fun x => if x = k then 0 else f x) (g := f) hk (fun x _ e => if_neg e)
  simp only [if_pos] at h
  omega
/-- a slot's lists: which bits are set -/
def UsedOk (u : Nat) (g : Nat → List Nat) : Prop := u < 18446744073709551616 ∧ ∀ k, k < 64 → u.testBit k = decide (g k ≠ [])
theorem UsedOk.unique {u u' : Nat} {g g' : Nat → List Nat} (h : UsedOk u g) (h' : UsedOk u' g') (e : ∀ k, k < 64 → (g k ≠ [] ↔ g' k ≠ [])) : u = u' := by
  refine Nat.eq_of_testBit_eq fun i => ?_
  by_cases hi : i < 64
  · rw [h.2 i hi, h'.2 i hi, decide_eq_decide]; exact e i hi
  · have b : ∀ m, m < 18446744073709551616 → Nat.testBit m i = false := fun m hm => Nat.testBit_lt_two_pow (Nat.lt_of_lt_of_le hm (show 2 ^ 64 ≤ 2 ^ i from Nat.pow_le_pow_right (by omega) (by omega)))
    rw [b u h.1, b u' h'.1]
theorem UsedOk.put {u : Nat} {g g' : Nat → List Nat} (h : UsedOk u g) {k : Nat} (hk : k < 64) (h1 : g' k ≠ []) (h2 : ∀ x, x < 64 → x ≠ k → g' x = g x) : UsedOk (withN u k) g' := by
  refine ⟨withN_lt _ h.1, fun i hi => ?_⟩
  rw [withN_test, h.2 i hi]
  by_cases e : i = k
  · subst e
    rw [decide_eq_true (p := 0 ≤ (i : Int) ∧ (i : Int) < 64 ∧ (i : Int) = (i : Int)) ⟨by omega, by omega, rfl⟩, Bool.or_true, decide_eq_true h1]
  · rw [decide_eq_false (p := 0 ≤ (k : Int) ∧ (k : Int) < 64 ∧ (i : Int) = (k : Int)) (by omega), Bool.or_false, h2 i hi e]
theorem UsedOk.out {u : Nat} {g g' : Nat → List Nat} (h : UsedOk u g) {k : Nat} (hk : k < 64) (h1 : g' k = []) (h2 : ∀ x, x < 64 → x ≠ k → g' x = g x) : UsedOk (woN u k) g' := by
  refine ⟨woN_lt _ h.1, fun i hi => ?_⟩
  rw [woN_test _ _ _ hi, h.2 i hi]
  by_cases e : i = k
  · subst e
    rw [decide_eq_true (p := 0 ≤ (i : Int) ∧ (i : Int) < 64 ∧ (i : Int) = (i : Int)) ⟨by omega, by omega, rfl⟩, h1]; simp
  · rw [decide_eq_false (p := 0 ≤ (k : Int) ∧ (k : Int) < 64 ∧ (i : Int) = (k : Int)) (by omega), Bool.not_false, Bool.and_true, h2 i hi e]
theorem UsedOk.same {u : Nat} {g g' : Nat → List Nat} (h : UsedOk u g) (e : ∀ k, k < 64 → (g k ≠ [] ↔ g' k ≠ [])) : UsedOk u g' :=
  ⟨h.1, fun k hk => by rw [h.2 k hk, decide_eq_decide]; exact e k hk⟩
theorem UsedOk.zero {g : Nat → List Nat} (h : ∀ k, k < 64 → g k = []) : UsedOk 0 g := ⟨by omega, fun k hk => by rw [h k hk]; simp⟩
end Go.Proofs.Ythamdbfilpegjaa
