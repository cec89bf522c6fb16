/-
  What stands here: a shard and the document's, side by side: plain laws. Under no condition.
-/
import Derived.Test.YthamdbfilpegjaaDoorShardRefW
import Derived.Test.YthamdbfilpegjaaDoorShardLeast
namespace Go.Proofs.YthamdbfilpegjaaDoor
set_option linter.unusedVariables false
set_option linter.unusedSimpArgs false
open Go.RowKit Go.Proofs
theorem stg_map {due : Nat → Nat} {D : Nat → Nat} {ev : Nat → Nat} {pl P : Nat → List Nat} (hp : ∀ q, q < 257 → pl q = (P q).map ev) (hd : ∀ q i, q < 257 → i ∈ P q → due (ev i) = D i) (N : Nat) : ∀ (j q : Nat), q < 257 → stg due N pl j q = (stg D N P j q).map ev ∧ ∀ i, i ∈ stg D N P j q → due (ev i) = D i
  | 0, q, hq => ⟨hp q hq, fun i hi => hd q i hq hi⟩
  | j + 1, q, hq => by
    show (if tkd N (4 - j) then agn due N (tkp N (4 - j)) (stg due N pl j) else stg due N pl j) q = ((if tkd N (4 - j) then agn D N (tkp N (4 - j)) (stg D N P j) else stg D N P j) q).map ev ∧ ∀ i, i ∈ (if tkd N (4 - j) then agn D N (tkp N (4 - j)) (stg D N P j) else stg D N P j) q → due (ev i) = D i
    obtain ⟨i1, i2⟩ := stg_map hp hd N j q hq
    by_cases hk : tkd N (4 - j) = true
    · rw [if_pos hk, if_pos hk]
      obtain ⟨j1, j2⟩ := stg_map hp hd N j _ (tkp_lt N (4 - j))
      rw [agn_at, agn_at]
      constructor
      · rw [List.map_append, j1, List.filter_map]
        congr 1
        · split
          · rfl
          · exact i1
        · congr 1
          refine List.filter_congr fun i hi => ?_
          simp only [Function.comp]
          rw [j2 i hi]
      · intro i hi
        rcases List.mem_append.1 hi with hi | hi
        · split at hi
          · cases hi
          · exact i2 i hi
        · exact j2 i (List.mem_filter.1 hi).1
    · rw [if_neg hk, if_neg hk]; exact ⟨i1, i2⟩
theorem nums_mem {l : List RE} {q i : Nat} (h : i ∈ nums l q) : ∃ x, x ∈ l ∧ x.q = q ∧ x.n = i := by
  obtain ⟨x, hx, rfl⟩ := List.mem_map.1 h
  obtain ⟨h1, h2⟩ := List.mem_filter.1 hx
  exact ⟨x, h1, by simpa using h2, rfl⟩
theorem mem_nums {l : List RE} {x : RE} (h : x ∈ l) : x.n ∈ nums l x.q := List.mem_map_of_mem (List.mem_filter.2 ⟨h, by simp⟩)
theorem nums_snoc (l : List RE) (x : RE) (q : Nat) : nums (l ++ [x]) q = if q = x.q then nums l q ++ [x.n] else nums l q := by
  unfold nums
  rw [List.filter_append, List.map_append]
  by_cases h : q = x.q
  · rw [if_pos h, List.filter_cons_of_pos (by simp [h])]; rfl
  · rw [if_neg h, List.filter_cons_of_neg (by simp; exact fun h9 => h h9.symm)]; simp
theorem ragn_q {now q0 : Nat} {l : List RE} (h : ∀ x, x ∈ l → x.q < 257) : ∀ x, x ∈ ragn now q0 l → x.q < 257 := fun x hx => by
  unfold ragn at hx
  rcases List.mem_append.1 hx with h1 | h1
  · exact h x (List.mem_filter.1 h1).1
  · obtain ⟨y, hy, rfl⟩ := List.mem_map.1 h1
    exact plc_lt _ _
theorem rstg_q {now : Nat} {l : List RE} (h : ∀ x, x ∈ l → x.q < 257) : ∀ j x, x ∈ rstg now l j → x.q < 257
  | 0, x, hx => h x hx
  | j + 1, x, hx => by
    have hx' : x ∈ (if tkd now (4 - j) then ragn now (tkp now (4 - j)) (rstg now l j) else rstg now l j) := hx
    split at hx'
    · exact ragn_q (rstg_q h j) x hx'
    · exact rstg_q h j x hx'
/-- the entries' blocks ev i have the tasks ts, in order; they stand where the document's entries do -/
structure TT (s : LS) (S : WSt) (ev : Nat → Nat) (ts : List TaskV) (l : List RE) : Prop where
  pl : ∀ q, q < 257 → S.pl q = (nums l q).map ev
  lt : ∀ x, x ∈ l → x.n < ts.length
  dd : ∀ x, x ∈ l → x.d = (tkN ts x.n).dl.toNat
  d64 : ∀ x, x ∈ l → x.d < 18446744073709551616
  ql : ∀ x, x ∈ l → x.q < 257
  six : ∀ i, i < ts.length → s.kd (ev i) = 6
  due : ∀ i, i < ts.length → S.due (ev i) = (tkN ts i).dl.toNat
  val : ∀ i, i < ts.length → S.val (ev i) = vcell_t (tkN ts i)
  inj : ∀ i j, i < ts.length → j < ts.length → ev i = ev j → i = j
  cnt : nAll S.pl = l.length
theorem tkN_app {ts : List TaskV} {z : TaskV} {i : Nat} (h : i < ts.length) : tkN (ts ++ [z]) i = tkN ts i := by unfold tkN; rw [List.getElem?_append_left h]
theorem tkN_last (ts : List TaskV) (z : TaskV) : tkN (ts ++ [z]) ts.length = z := by unfold tkN; simp
section
variable {s s' : LS} {S S' : WSt} {ev : Nat → Nat} {ts : List TaskV} {l : List RE} {W W' : World}
theorem TT.zero (s : LS) (S : WSt) (h : ∀ q, S.pl q = []) (ev : Nat → Nat) : TT s S ev [] [] :=
  ⟨fun q _ => h q, fun x hx => (by cases hx), fun x hx => (by cases hx), fun x hx => (by cases hx), fun x hx => (by cases hx), fun i hi => absurd hi (Nat.not_lt_zero _), fun i hi => absurd hi (Nat.not_lt_zero _), fun i hi => absurd hi (Nat.not_lt_zero _), fun i _ hi => absurd hi (Nat.not_lt_zero _), nAll_none h⟩
theorem TT.ins (h : TT s S ev ts l) {e d : Nat} {z : TaskV} (hz : z.dl = (d : Int)) (i : XIns s s' S S' e d (vcell_t z) W W') (hf : ∀ y, W.heap.size ≤ y → s.kd y = 0) (h64 : d < 18446744073709551616) :
    TT s' S' (upd ev ts.length e) (ts ++ [z]) (l ++ [⟨ts.length, d, plc d S.now⟩]) := by
  have hne : ∀ j, j < ts.length → ev j ≠ e := fun j hj e9 => by have := h.six j hj; rw [e9, i.new] at this; cases this
  have hlt : ∀ j, j < ts.length → ev j < W.heap.size := fun j hj => by
    rcases Nat.lt_or_ge (ev j) W.heap.size with h1 | h1
    · exact h1
    · have := hf _ h1; rw [h.six j hj] at this; cases this
  have up : ∀ j, j < ts.length → upd ev ts.length e j = ev j := fun j hj => upd_ne _ _ (by omega)
  have un : upd ev ts.length e ts.length = e := upd_same _ _ _
  have len : (ts ++ [z]).length = ts.length + 1 := by simp
  have mem : ∀ x, x ∈ l ++ [(⟨ts.length, d, plc d S.now⟩ : RE)] → x ∈ l ∨ x = ⟨ts.length, d, plc d S.now⟩ := fun x hx => by
    rcases List.mem_append.1 hx with h9 | h9
    · exact .inl h9
    · exact .inr (List.mem_singleton.1 h9)
  refine ⟨fun q hq => ?_, fun x hx => ?_, fun x hx => ?_, fun x hx => ?_, fun x hx => ?_, fun j hj => ?_, fun j hj => ?_, fun j hj => ?_, fun j k hj hk e9 => ?_, ?_⟩
  · have h1 : (nums l q).map (upd ev ts.length e) = (nums l q).map ev := List.map_congr_left fun j hj => by
      obtain ⟨x, hx, _, rfl⟩ := nums_mem hj
      exact up x.n (h.lt x hx)
    rw [i.pl, nums_snoc]
    unfold putAt
    by_cases hrq : q = plc d S.now
    · subst hrq
      rw [upd_same, if_pos rfl, List.map_append, h1, h.pl _ hq]
      simp [un]
    · rw [upd_ne _ _ hrq, if_neg hrq, h1]; exact h.pl q hq
  · rcases mem x hx with h1 | rfl
    · have := h.lt x h1; omega
    · show ts.length < _; omega
  · rcases mem x hx with h1 | rfl
    · rw [tkN_app (h.lt x h1)]; exact h.dd x h1
    · show d = _; rw [tkN_last, hz]; simp
  · rcases mem x hx with h1 | rfl
    · exact h.d64 x h1
    · exact h64
  · rcases mem x hx with h1 | rfl
    · exact h.ql x h1
    · exact plc_lt _ _
  · by_cases hjn : j = ts.length
    · rw [hjn, un]; exact i.ke
    · rw [up j (by omega), i.kd _ (hlt j (by omega))]; exact h.six j (by omega)
  · by_cases hjn : j = ts.length
    · rw [hjn, un, i.due, upd_same, tkN_last, hz]; simp
    · rw [up j (by omega), i.due, upd_ne _ _ (hne j (by omega)), tkN_app (by omega)]; exact h.due j (by omega)
  · by_cases hjn : j = ts.length
    · rw [hjn, un, i.val, upd_same, tkN_last]
    · rw [up j (by omega), i.val, upd_ne _ _ (hne j (by omega)), tkN_app (by omega)]; exact h.val j (by omega)
  · by_cases hjn : j = ts.length
    · by_cases hkn : k = ts.length
      · omega
      · rw [hjn, un, up k (by omega)] at e9; exact absurd e9.symm (hne k (by omega))
    · by_cases hkn : k = ts.length
      · rw [hkn, un, up j (by omega)] at e9; exact absurd e9 (hne j (by omega))
      · rw [up j (by omega), up k (by omega)] at e9; exact h.inj j k (by omega) (by omega) e9
  · rw [i.cnt, h.cnt, List.length_append, List.length_singleton]
/-- what is due is what is due in the document's -/
theorem TT.turn (h : TT s S ev ts l) {es : List Nat} (t : XTurn s s' S S' es W W') (hf : ∀ y, W.heap.size ≤ y → s.kd y = 0) :
    es = ((rout (S.now + 1) l).map RE.n).map ev ∧ TT s' S' ev ts (rrest (S.now + 1) l) := by
  have hlt : ∀ j, j < ts.length → ev j < W.heap.size := fun j hj => by
    rcases Nat.lt_or_ge (ev j) W.heap.size with h1 | h1
    · exact h1
    · have := hf _ h1; rw [h.six j hj] at this; cases this
  obtain ⟨D, hD⟩ : ∃ D : Nat → Nat, D = fun i => (tkN ts i).dl.toNat := ⟨_, rfl⟩
  have hDx : ∀ x, x ∈ l → D x.n = x.d := fun x hx => by rw [hD]; exact (h.dd x hx).symm
  have hdue : ∀ q i, q < 257 → i ∈ nums l q → S.due (ev i) = D i := fun q i _ hi => by
    obtain ⟨x, hx, _, rfl⟩ := nums_mem hi
    rw [hD]; exact h.due x.n (h.lt x hx)
  have st := fun q hq => (stg_map h.pl hdue (S.now + 1) 4 q hq).1
  have hes : es = ((rout (S.now + 1) l).map RE.n).map ev := by
    rw [t.eq, rout_nums hDx]
    exact st _ (by omega)
  refine ⟨hes, ⟨fun q hq => ?_, fun x hx => ?_, fun x hx => ?_, fun x hx => ?_, fun x hx => ?_, fun i hi => ?_, fun i hi => by rw [t.due]; exact h.due i hi, fun i hi => by rw [t.val]; exact h.val i hi, h.inj, ?_⟩⟩
  · rw [t.pl, rrest_nums hDx]
    unfold restOf
    by_cases hq2 : q = (S.now + 1) % 64
    · rw [hq2, upd_same, upd_same]; rfl
    · rw [upd_ne _ _ hq2, upd_ne _ _ hq2]; exact st q hq
  · obtain ⟨y, hy, e1, _⟩ := rrest_mem hx
    rw [← e1]; exact h.lt y hy
  · obtain ⟨y, hy, e1, e2⟩ := rrest_mem hx
    rw [← e1, ← e2]; exact h.dd y hy
  · obtain ⟨y, hy, _, e2⟩ := rrest_mem hx
    rw [← e2]; exact h.d64 y hy
  · exact rstg_q h.ql 4 x (List.mem_filter.1 hx).1
  · rw [t.kd _ (hlt i hi)]; exact h.six i hi
  · have h1 := t.cnt
    have h2 := rout_len (S.now + 1) l
    have h3 := h.cnt
    rw [hes, List.length_map, List.length_map] at h1
    omega
theorem TT.tasks (h : TT s S ev ts l) : ∃ Z : Nat → TaskV, ∀ i, i < ts.length → Z (ev i) = tkN ts i := by
  classical
  refine ⟨fun e => if h9 : ∃ i, i < ts.length ∧ ev i = e then tkN ts (Classical.choose h9) else ⟨0, 0, 0, 0, 0⟩, fun i hi => ?_⟩
  have hx : ∃ k, k < ts.length ∧ ev k = ev i := ⟨i, hi, rfl⟩
  simp only [dif_pos hx]
  rw [h.inj _ i (Classical.choose_spec hx).1 hi (Classical.choose_spec hx).2]
theorem TT.stands (h : TT s S ev ts l) {e : Nat} : Stands S.pl e ↔ ∃ x, x ∈ l ∧ ev x.n = e := by
  constructor
  · rintro ⟨q, hq, hm⟩
    rw [h.pl q hq] at hm
    obtain ⟨i, hi, rfl⟩ := List.mem_map.1 hm
    obtain ⟨x, hx, _, rfl⟩ := nums_mem hi
    exact ⟨x, hx, rfl⟩
  · rintro ⟨x, hx, rfl⟩
    exact ⟨x.q, h.ql x hx, by rw [h.pl _ (h.ql x hx)]; exact List.mem_map_of_mem (mem_nums hx)⟩
theorem TT.due' (h : TT s S ev ts l) {x : RE} (hx : x ∈ l) : S.due (ev x.n) = x.d := by rw [h.due _ (h.lt x hx), h.dd x hx]
end
/-- a shard and the document's, in a world -/
structure AX (col : Nat → Nat) (ls : LS) (v : Nat) (lv : Nat → Nat) (sl : Nat → Nat → Nat) (bd : Nat) (S : WSt) (s r l b : Nat) (ev : Nat → Nat) (ts : List TaskV) (lr : List RE) (w W : World) : Prop where
  fr : Fr w.heap.size col w W
  x : SX ls v lv sl bd S s r l w W
  xc : ∀ y, ls.kd y ≠ 0 → col y = 1
  sc : col s = 1
  rs : RSh col b S.now lr ts W
  t : TT ls S ev ts lr
section
variable {col col' : Nat → Nat} {ls ls' : LS} {v : Nat} {lv : Nat → Nat} {sl : Nat → Nat → Nat} {bd : Nat} {S S' : WSt} {s r l b : Nat} {ev ev' : Nat → Nat} {ts ts' : List TaskV} {lr lr' : List RE} {w W W' : World}
/-- the document's has gone on -/
theorem ax_ref (fr : Fr w.heap.size col w W) (x : SX ls v lv sl bd S s r l w W) (xc : ∀ y, ls.kd y ≠ 0 → col y = 1) (sc : col s = 1) (m : Move RSS col col' W W') : Fr w.heap.size col' w W' ∧ SX ls v lv sl bd S s r l w W' ∧ (∀ y, ls.kd y ≠ 0 → col' y = 1) ∧ col' s = 1 := by
  have hlt : ∀ y, ls.kd y ≠ 0 → y < W.heap.size := fun y hy => by
    rcases Nat.lt_or_ge y W.heap.size with h9 | h9
    · exact h9
    · exact absurd (x.x.fr h9) hy
  refine ⟨fr.move m (by decide), ⟨x.x.keep m.k (fun y hy => ?_), Blk.kept x.sh m.k (fun h9 => by rw [sc] at h9; omega), x.ks, x.hs⟩, fun y hy => (m.re y (hlt y hy)).trans (xc y hy), (m.re s (Blk.lt x.sh)).trans sc⟩
  refine ⟨?_, ?_⟩
  · rcases Nat.eq_zero_or_pos (ls.kd y) with h9 | h9
    · exact h9
    · have := xc y (by omega); omega
  · rcases Nat.lt_or_ge y w.heap.size with h9 | h9
    · have := fr.low y h9; omega
    · exact h9
/-- the program's shard has gone on -/
theorem AX.prog (h : AX col ls v lv sl bd S s r l b ev ts lr w W) (kd : ∀ y, y < W.heap.size → ls'.kd y = ls.kd y) (k : Kept (fun y => ls.kd y ≠ 0) W W') (x : SX ls' v lv sl bd S' s r l w W') : Fr w.heap.size (ext col W.heap.size 1) w W' ∧ (∀ y, ls'.kd y ≠ 0 → ext col W.heap.size 1 y = 1) ∧ ext col W.heap.size 1 s = 1 ∧ RSh (ext col W.heap.size 1) b S.now lr ts W' := by
  have k' : Kept (fun y => col y = 1) W W' := k.mono fun y _ hy => h.xc y hy
  have m : Move (fun c => c = 1) col (ext col W.heap.size 1) W W' := Move.ext k' 1
  refine ⟨h.fr.move m (by decide), fun y hy => ?_, (m.re s (Blk.lt h.x.sh)).trans h.sc, h.rs.move m (fun c hc => .inr (.inl hc))⟩
  rcases Nat.lt_or_ge y W.heap.size with h9 | h9
  · exact (m.re y h9).trans (h.xc y (by rw [← kd y h9]; exact hy))
  · exact ext_new col h9
theorem AX.new (h : AX col ls v lv sl bd S s r l b ev ts lr w W) (m : Move (fun _ => False) col col' W W') : AX col' ls v lv sl bd S s r l b ev ts lr w W' :=
  ⟨h.fr.move m (fun f => f), h.x.still (m.k.mono (fun _ _ f => f)), fun y hy => (m.re y (by
      rcases Nat.lt_or_ge y W.heap.size with h9 | h9
      · exact h9
      · exact absurd (h.x.x.fr h9) hy)).trans (h.xc y hy), (m.re s (Blk.lt h.x.sh)).trans h.sc, h.rs.move m (fun _ f => f.elim), h.t⟩
theorem AX.still (h : AX col ls v lv sl bd S s r l b ev ts lr w W) (k : Still W W') : AX col ls v lv sl bd S s r l b ev ts lr w W' :=
  ⟨h.fr.still k, h.x.still k, h.xc, h.sc, h.rs.move (Move.still (S := fun _ => False) k) (fun _ f => f.elim), h.t⟩
theorem AX.below (h : AX col ls v lv sl bd S s r l b ev ts lr w W) (k : Below W.heap.size W W') : AX col ls v lv sl bd S s r l b ev ts lr w W' :=
  h.still ⟨k.os, k.tape, k.output, k.size, fun i hi _ => k.block i hi⟩
end
end Go.Proofs.YthamdbfilpegjaaDoor
