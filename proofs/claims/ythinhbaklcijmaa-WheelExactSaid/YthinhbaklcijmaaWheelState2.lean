/-
  What stands here: a wheel, the row of its entries, and a map beside it; how many entries stand: plain laws. Under no condition.
-/
import Derived.Test.YthinhbaklcijmaaWheelShiftWalk
import Derived.Test.YthinhbaklcijmaaMapI
import Derived.Test.YthinhbaklcijmaaTextLast
namespace Go.Proofs.Ythinhbaklcijmaa
set_option linter.unusedVariables false
set_option linter.unusedSimpArgs false
open Go.RowKit Go.Proofs
/-- a number stands somewhere -/
theorem Tied.st {s : LS} {S : WSt} {ev : Nat → Nat} {n : Nat} {D : Nat → Nat} {b : Nat} {P : Nat → List Nat} (h : Tied s S ev n D b P) {i : Nat} (hi : i < n) : Stands S.pl (ev i) ↔ Stands P i := by
  constructor
  · rintro ⟨q, hq, hm⟩
    rw [h.pl q hq] at hm
    obtain ⟨j, hj, he⟩ := List.mem_map.1 hm
    exact ⟨q, hq, h.inj j i (h.lt q j hq hj) hi he ▸ hj⟩
  · rintro ⟨q, hq, hm⟩
    exact ⟨q, hq, by rw [h.pl q hq]; exact List.mem_map_of_mem hm⟩
theorem Tied.rem {s s' : LS} {S S' : WSt} {ev : Nat → Nat} {n : Nat} {D : Nat → Nat} {b : Nat} {P : Nat → List Nat} {k : Nat} {W W' : World} (h : Tied s S ev n D b P) (hk : k < n) (r : XRem s s' S S' (ev k) W W') : Tied s' S' ev n D b (fun q => (P q).erase k) := by
  refine ⟨fun q hq => ?_, fun q i hq hi => h.lt q i hq (List.mem_of_mem_erase hi), fun i hi => by rw [r.kd]; exact h.six i hi, fun i hi => by rw [r.due]; exact h.due i hi, fun i hi => by rw [r.dl]; exact h.dl i hi, fun i hi => by rw [r.val]; exact h.val i hi, h.inj⟩
  rw [r.pl q hq, h.pl q hq]
  exact (map_erase_on fun x hx e => h.inj x k (h.lt q x hq hx) hk e).symm
theorem sub_len : ∀ {l m : List Nat}, l.Nodup → (∀ x, x ∈ l → x ∈ m) → l.length ≤ m.length
  | [], _, _, _ => Nat.zero_le _
  | x :: l, m, hn, h => by
    have hx := h x (by simp)
    have h1 := List.length_erase_of_mem hx
    have h2 := List.length_pos_of_mem hx
    have h3 := sub_len (l := l) (m := m.erase x) (List.nodup_cons.1 hn).2 (fun y hy => (List.mem_erase_of_ne (fun e : y = x => (List.nodup_cons.1 hn).1 (by rw [← e]; exact hy))).2 (h y (by simp [hy])))
    simp only [List.length_cons]
    omega
theorem flat_nodup {pl : Nat → List Nat} : ∀ (qs : List Nat), qs.Nodup → (∀ q, q ∈ qs → q < 257) → Uniq pl → (qs.flatMap pl).Nodup
  | [], _, _, _ => List.nodup_nil
  | q :: qs, hn, hq, hu => by
    rw [List.flatMap_cons, List.nodup_append]
    refine ⟨hu.1 q (hq q (by simp)), flat_nodup qs (List.nodup_cons.1 hn).2 (fun r hr => hq r (by simp [hr])) hu, fun a ha b hb e => ?_⟩
    obtain ⟨r, hr, hm⟩ := List.mem_flatMap.1 hb
    subst e
    have := hu.2 q r a (hq q (by simp)) (hq r (by simp [hr])) ha hm
    exact (List.nodup_cons.1 hn).1 (by rw [this]; exact hr)
/-- how many stand: as many as there are numbers that stand -/
theorem Tied.count {s : LS} {S : WSt} {ev : Nat → Nat} {n : Nat} {D : Nat → Nat} {b : Nat} {P : Nat → List Nat} (h : Tied s S ev n D b P) (hu : Uniq S.pl) {f : Nat → Bool} (hf : ∀ i, i < n → (f i = true ↔ Stands P i)) : nAll S.pl = ((List.range n).filter f).length := by
  have e1 : nAll S.pl = ((List.range 257).flatMap S.pl).length := by rw [nAll_eq, List.length_flatMap]
  have mem : ∀ x, x ∈ (List.range 257).flatMap S.pl ↔ Stands S.pl x := fun x => by
    rw [List.mem_flatMap]
    exact ⟨fun ⟨q, hq, hm⟩ => ⟨q, List.mem_range.1 hq, hm⟩, fun ⟨q, hq, hm⟩ => ⟨q, List.mem_range.2 hq, hm⟩⟩
  have hn1 : ((List.range 257).flatMap S.pl).Nodup := flat_nodup _ List.nodup_range (fun q hq => List.mem_range.1 hq) hu
  have hn2 : (((List.range n).filter f).map ev).Nodup := by
    have h9 : ∀ l : List Nat, l.Nodup → (∀ i, i ∈ l → i < n) → (l.map ev).Nodup := fun l => by
      induction l with
      | nil => intro _ _; exact List.nodup_nil
      | cons x l ih =>
        intro g1 g2
        rw [List.map_cons, List.nodup_cons]
        refine ⟨fun hm => ?_, ih (List.nodup_cons.1 g1).2 (fun i hi => g2 i (by simp [hi]))⟩
        obtain ⟨y, hy, he⟩ := List.mem_map.1 hm
        have := h.inj y x (g2 y (by simp [hy])) (g2 x (by simp)) he
        exact (List.nodup_cons.1 g1).1 (by rw [← this]; exact hy)
    exact h9 _ (List.nodup_range.filter _) (fun i hi => List.mem_range.1 (List.mem_filter.1 hi).1)
  have m2 : ∀ x, x ∈ ((List.range n).filter f).map ev ↔ Stands S.pl x := fun x => by
    constructor
    · intro hx
      obtain ⟨i, hi, rfl⟩ := List.mem_map.1 hx
      obtain ⟨h1, h2⟩ := List.mem_filter.1 hi
      exact (h.st (List.mem_range.1 h1)).2 ((hf i (List.mem_range.1 h1)).1 h2)
    · rintro ⟨q, hq, hm⟩
      have hm' := hm
      rw [h.pl q hq] at hm'
      obtain ⟨i, hi, rfl⟩ := List.mem_map.1 hm'
      have hin := h.lt q i hq hi
      exact List.mem_map.2 ⟨i, List.mem_filter.2 ⟨List.mem_range.2 hin, (hf i hin).2 ((h.st hin).1 ⟨q, hq, hm⟩)⟩, rfl⟩
  rw [e1, show ((List.range n).filter f).length = (((List.range n).filter f).map ev).length from (List.length_map _).symm]
  exact Nat.le_antisymm (sub_len hn1 fun x hx => (m2 x).2 ((mem x).1 hx)) (sub_len hn2 fun x hx => (mem x).2 ((m2 x).1 hx))
/-- a wheel, the row of its entries, and a map -/
structure WE (s : LS) (v : Nat) (lv : Nat → Nat) (sl : Nat → Nat → Nat) (bd : Nat) (S : WSt) (ev : Nat → Nat) (n : Nat) (D : Nat → Nat) (P : Nat → List Nat) (mb m : Nat) (st : Int → Int) (l : Value) (rl : List Nat) (w W : World) : Prop where
  x : WX_e s v lv sl bd S w W
  t : Tied s S ev n D 0 P
  mp : MapI Try.prog 3 3 W mb m st
  mz : s.kd mb = 0
  mw : w.heap.size ≤ mb
  row : W.ownsRow (mb + 1) 30 1 l rl.length (ptrs rl)
  rk : ∀ k, l.ownBlock = some k → s.kd k = 0
section
variable {s s' : LS} {v : Nat} {lv : Nat → Nat} {sl : Nat → Nat → Nat} {bd : Nat} {S S' : WSt} {ev ev' : Nat → Nat} {n n' : Nat} {D : Nat → Nat} {P P' : Nat → List Nat} {mb m : Nat} {st : Int → Int} {l : Value} {rl : List Nat} {w W W' : World}
theorem WE.turn (h : WE s v lv sl bd S ev n D P mb m st l rl w W) (x : WX_e s' v lv sl bd S' w W') (t : Tied s' S' ev' n' D 0 P') (kd : ∀ y, y < W.heap.size → s'.kd y = s.kd y) (k : Kept (fun y => s.kd y ≠ 0) W W') : WE s' v lv sl bd S' ev' n' D P' mb m st l rl w W' where
  x := x
  t := t
  mp := h.mp.kept k (fun h9 => h9 h.mz)
  mz := (kd _ h.mp.lt).trans h.mz
  mw := h.mw
  row := owns_kept2 h.row k (fun b hb h9 => h9 (h.rk b hb))
  rk := fun b hb => (kd _ (own_lt h.row b hb)).trans (h.rk b hb)
theorem WE.still (h : WE s v lv sl bd S ev n D P mb m st l rl w W) (k : Still W W') : WE s v lv sl bd S ev n D P mb m st l rl w W' where
  x := h.x.still k
  t := h.t
  mp := h.mp.kept k (fun f => f)
  mz := h.mz
  mw := h.mw
  row := owns_kept2 h.row k (fun _ _ f => f)
  rk := h.rk
theorem WE.below (h : WE s v lv sl bd S ev n D P mb m st l rl w W) (k : Below W.heap.size W W') : WE s v lv sl bd S ev n D P mb m st l rl w W' :=
  h.still ⟨k.os, k.tape, k.output, k.size, fun i hi _ => k.block i hi⟩
theorem WE.put (h : WE s v lv sl bd S ev n D P mb m st l rl w W) {st' : Int → Int} {m' : Nat} (mp : MapI Try.prog 3 3 W' mb m' st') (g : W.grownBy W' (some mb)) : WE s v lv sl bd S ev n D P mb m' st' l rl w W' ∧ Kept (fun y => y = mb) W W' := by
  have k : Kept (fun y => y = mb) W W' := Kept.grown (Kept.refl _ _) g (fun y hy _ => by cases hy; rfl)
  exact ⟨{
    x := h.x.keep k (fun y hy => by rw [hy]; exact ⟨h.mz, h.mw⟩)
    t := h.t
    mp := mp
    mz := h.mz
    mw := h.mw
    row := owns_kept2 h.row k (fun b hb h9 => by have := owns_block h.row b hb; omega)
    rk := h.rk }, k⟩
theorem WE.more (h : WE s v lv sl bd S ev n D P mb m st l rl w W) {o : Obj} {l' : Value} {e : Nat} (a : Appended (W.alloc o) W' (mb + 1) 30 1 l l' (rl.length + 1) (ptrs rl ++ [.pointer (some ⟨e, 0, none⟩)])) : WE s v lv sl bd S ev n D P mb m st l' (rl ++ [e]) w W' := by
  have k : Kept (fun y => l.ownBlock = some y) W W' := a.kept (Kept.refl _ W) (fun b _ hb => hb)
  exact {
    x := h.x.keep k (fun y hy => ⟨h.rk y hy, by have := owns_block h.row y hy; have := h.mw; omega⟩)
    t := h.t
    mp := h.mp.kept k (fun h9 => by have := owns_block h.row mb h9; omega)
    mz := h.mz
    mw := h.mw
    row := by
      rw [List.length_append, List.length_singleton, show ptrs (rl ++ [e]) = ptrs rl ++ [.pointer (some ⟨e, 0, none⟩)] by unfold ptrs; rw [List.map_append]; rfl]
      exact a.owns
    rk := fun b hb => by
      rcases a.block b hb with h9 | h9
      · exact h.rk b h9
      · exact h.x.fr (Nat.le_trans (by simp) h9) }
theorem WE.looks (h : WE s v lv sl bd S ev n D P mb m st l rl w W) (q : Nat) (hq : q < 9223372036854775807) (W' : World) (e : W'.heap[mb]? = W.heap[mb]?) : (Instr.lookup 65 (.map (some mb)) (.int .i64 (q : Int)) false).run Try.prog W' = .ok (.int .i64 (st q)) W' :=
  (h.mp.of_block e).look Try.underlying3 Try.underlying3 Try.underlying65 (by kernel_rfl) q (wf_natI hq)
theorem WE.ent (h : WE s v lv sl bd S ev n D P mb m st l rl w W) {k : Nat} (hk : k < rl.length) : ∃ b o c, l = .slice (some ⟨b, o, none⟩) rl.length c ∧ b < W.heap.size ∧ s.kd b = 0 ∧ mb < b ∧ W.cell? ⟨b, o + k, none⟩ = some (.pointer (some ⟨rl.getD k 0, 0, none⟩)) := by
  obtain ⟨hl, ⟨rfl, h0⟩ | ⟨g, cap, cur, rfl, hb, hg, hn, hm, hc, ht⟩⟩ := h.row
  · omega
  · refine ⟨g, 0, cap, rfl, lt_of_block hg, h.rk g (by simp [Value.ownBlock]), by omega, ?_⟩
    have hv := (VRow.of_owns h.row).at_
    rw [ptrs_len] at hv
    obtain ⟨_, _, _, h4⟩ := hv
    obtain ⟨b', o', he, _, _, hcell⟩ := h4 (by omega)
    simp only [Option.some.injEq, Addr.mk.injEq, and_true] at he
    obtain ⟨rfl, rfl⟩ := he
    rw [hcell k hk]
    unfold ptrs
    rw [List.getElem?_map, List.getD_eq_getElem?_getD, List.getElem?_eq_getElem hk]; rfl
end
end Go.Proofs.Ythinhbaklcijmaa
