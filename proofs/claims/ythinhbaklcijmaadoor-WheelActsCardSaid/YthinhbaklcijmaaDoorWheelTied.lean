/-
  What stands here: a wheel's entries told by their numbers, and a time that all are shifted by: plain laws. Under no condition.
-/
import Derived.Test.YthinhbaklcijmaaDoorWheelNum
namespace Go.Proofs.YthinhbaklcijmaaDoor
set_option linter.unusedVariables false
set_option linter.unusedSimpArgs false
open Go.RowKit Go.Proofs
theorem plc_by (d n k : Nat) : plc (d + 16777216 * k) (n + 16777216 * k) = plc d n := by
  unfold plc
  have e1 : ∀ x, (x + 16777216 * k) / 64 = x / 64 + 262144 * k := fun x => by omega
  have e2 : ∀ x, (x + 262144 * k) / 64 = x / 64 + 4096 * k := fun x => by omega
  have e3 : ∀ x, (x + 4096 * k) / 64 = x / 64 + 64 * k := fun x => by omega
  have e4 : ∀ x, (x + 64 * k) / 64 = x / 64 + k := fun x => by omega
  have m0 : ∀ x, (x + 16777216 * k) % 64 = x % 64 := fun x => by omega
  have m1 : ∀ x, (x + 262144 * k) % 64 = x % 64 := fun x => by omega
  have m2 : ∀ x, (x + 4096 * k) % 64 = x % 64 := fun x => by omega
  have m3 : ∀ x, (x + 64 * k) % 64 = x % 64 := fun x => by omega
  simp only [e1, e2, e3, e4, m0, m1, m2, m3, ne_eq, Nat.add_right_cancel_iff]
theorem tkp_by (n k : Nat) {l : Nat} : tkp (n + 16777216 * k) l = tkp n l := by
  have e1 : ∀ x, (x + 16777216 * k) / 64 = x / 64 + 262144 * k := fun x => by omega
  have e2 : ∀ x, (x + 262144 * k) / 64 = x / 64 + 4096 * k := fun x => by omega
  have e3 : ∀ x, (x + 4096 * k) / 64 = x / 64 + 64 * k := fun x => by omega
  have m0 : ∀ x, (x + 16777216 * k) % 64 = x % 64 := fun x => by omega
  have m1 : ∀ x, (x + 262144 * k) % 64 = x % 64 := fun x => by omega
  have m2 : ∀ x, (x + 4096 * k) % 64 = x % 64 := fun x => by omega
  have m3 : ∀ x, (x + 64 * k) % 64 = x % 64 := fun x => by omega
  unfold tkp
  split <;> simp only [e1, e2, e3, m0, m1, m2, m3]
theorem tkd_by (n k : Nat) {l : Nat} : tkd (n + 16777216 * k) l = tkd n l := by
  have e1 : ∀ x, (x + 16777216 * k) / 64 = x / 64 + 262144 * k := fun x => by omega
  have e2 : ∀ x, (x + 262144 * k) / 64 = x / 64 + 4096 * k := fun x => by omega
  have e3 : ∀ x, (x + 4096 * k) / 64 = x / 64 + 64 * k := fun x => by omega
  have m0 : ∀ x, (x + 16777216 * k) % 64 = x % 64 := fun x => by omega
  have m1 : ∀ x, (x + 262144 * k) % 64 = x % 64 := fun x => by omega
  have m2 : ∀ x, (x + 4096 * k) % 64 = x % 64 := fun x => by omega
  have m3 : ∀ x, (x + 64 * k) % 64 = x % 64 := fun x => by omega
  unfold tkd
  split <;> simp only [e1, e2, e3, m0, m1, m2, m3]
/-- the entries' blocks ev i, of n entries, that are due at D i + b, at the places P -/
structure Tied (s : LS) (S : WSt) (ev : Nat → Nat) (n : Nat) (D : Nat → Nat) (b : Nat) (P : Nat → List Nat) : Prop where
  pl : ∀ q, q < 257 → S.pl q = (P q).map ev
  lt : ∀ q i, q < 257 → i ∈ P q → i < n
  six : ∀ i, i < n → s.kd (ev i) = 6
  due : ∀ i, i < n → S.due (ev i) = D i + b
  dl : ∀ i, i < n → S.dl (ev i) = .int .u64 ((D i + b : Nat) : Int)
  val : ∀ i, i < n → S.val (ev i) 0 = .int .i64 (i : Int)
  inj : ∀ i j, i < n → j < n → ev i = ev j → i = j
theorem Tied.zero (s : LS) (S : WSt) (h : ∀ q, S.pl q = []) (ev D : Nat → Nat) (b : Nat) : Tied s S ev 0 D b (fun _ => []) where
  pl := fun q _ => h q
  lt := fun q i _ hi => by cases hi
  six := fun i hi => by omega
  due := fun i hi => by omega
  dl := fun i hi => by omega
  val := fun i hi => by omega
  inj := fun i j hi => by omega
theorem Tied.ins {s s' : LS} {S S' : WSt} {ev : Nat → Nat} {n : Nat} {D : Nat → Nat} {b : Nat} {P : Nat → List Nat} {e q : Nat} {W W' : World} (h : Tied s S ev n D b P) (i : XIns s s' S S' e (D n + b) (fun _ => .int .i64 (n : Int)) W W') (hf : ∀ y, W.heap.size ≤ y → s.kd y = 0) (hq : plc (D n + b) S.now = q) :
    Tied s' S' (upd ev n e) (n + 1) D b (putAt P q n) := by
  have hne : ∀ j, j < n → ev j ≠ e := fun j hj e9 => by have := h.six j hj; rw [e9, i.new] at this; cases this
  have hlt : ∀ j, j < n → ev j < W.heap.size := fun j hj => by
    rcases Nat.lt_or_ge (ev j) W.heap.size with h1 | h1
    · exact h1
    · have := hf _ h1; rw [h.six j hj] at this; cases this
  have up : ∀ j, j < n → upd ev n e j = ev j := fun j hj => upd_ne _ _ (by omega)
  have un : upd ev n e n = e := upd_same _ _ _
  refine ⟨fun r hr => ?_, fun r j hr hj => ?_, fun j hj => ?_, fun j hj => ?_, fun j hj => ?_, fun j hj => ?_, fun j k hj hk e9 => ?_⟩
  · have h1 : (P r).map (upd ev n e) = (P r).map ev := List.map_congr_left fun j hj => up j (h.lt r j hr hj)
    rw [i.pl, hq]
    unfold putAt
    by_cases hrq : r = q
    · subst hrq
      rw [upd_same, upd_same, List.map_append, h1, h.pl r hr]
      simp [un]
    · rw [upd_ne _ _ hrq, upd_ne _ _ hrq, h1]; exact h.pl r hr
  · unfold putAt at hj
    by_cases hrq : r = q
    · subst hrq
      rw [upd_same, List.mem_append] at hj
      rcases hj with hj | hj
      · have := h.lt r j hr hj; omega
      · rw [List.mem_singleton.1 hj]; omega
    · rw [upd_ne _ _ hrq] at hj
      have := h.lt r j hr hj; omega
  · by_cases hjn : j = n
    · rw [hjn, un]; exact i.ke
    · rw [up j (by omega), i.kd _ (hlt j (by omega))]; exact h.six j (by omega)
  · by_cases hjn : j = n
    · rw [hjn, un, i.due, upd_same]
    · rw [up j (by omega), i.due, upd_ne _ _ (hne j (by omega))]; exact h.due j (by omega)
  · by_cases hjn : j = n
    · rw [hjn, un, i.dl, upd_same]
    · rw [up j (by omega), i.dl, upd_ne _ _ (hne j (by omega))]; exact h.dl j (by omega)
  · by_cases hjn : j = n
    · rw [hjn, un, i.val, upd_same]
    · rw [up j (by omega), i.val, upd_ne _ _ (hne j (by omega))]; exact h.val j (by omega)
  · by_cases hjn : j = n
    · by_cases hkn : k = n
      · omega
      · rw [hjn, un, up k (by omega)] at e9; exact absurd e9.symm (hne k (by omega))
    · by_cases hkn : k = n
      · rw [hkn, un, up j (by omega)] at e9; exact absurd e9 (hne j (by omega))
      · rw [up j (by omega), up k (by omega)] at e9; exact h.inj j k (by omega) (by omega) e9
theorem Tied.stg {s : LS} {S : WSt} {ev : Nat → Nat} {n : Nat} {D : Nat → Nat} {b : Nat} {P : Nat → List Nat} (h : Tied s S ev n D b P) {k : Nat} (hb : b = 16777216 * k) (N : Nat) : ∀ (j q : Nat), q < 257 → stg S.due (N + b) S.pl j q = (Go.Proofs.YthinhbaklcijmaaDoor.stg D N P j q).map ev ∧ ∀ i, i ∈ Go.Proofs.YthinhbaklcijmaaDoor.stg D N P j q → i < n
  | 0, q, hq => ⟨h.pl q hq, fun i hi => h.lt q i hq hi⟩
  | j + 1, q, hq => by
    show (if tkd (N + b) (4 - j) then agn S.due (N + b) (tkp (N + b) (4 - j)) (Go.Proofs.YthinhbaklcijmaaDoor.stg S.due (N + b) S.pl j) else Go.Proofs.YthinhbaklcijmaaDoor.stg S.due (N + b) S.pl j) q = ((if tkd N (4 - j) then agn D N (tkp N (4 - j)) (Go.Proofs.YthinhbaklcijmaaDoor.stg D N P j) else Go.Proofs.YthinhbaklcijmaaDoor.stg D N P j) q).map ev ∧ ∀ i, i ∈ (if tkd N (4 - j) then agn D N (tkp N (4 - j)) (Go.Proofs.YthinhbaklcijmaaDoor.stg D N P j) else Go.Proofs.YthinhbaklcijmaaDoor.stg D N P j) q → i < n
    have ht : tkd (N + b) (4 - j) = tkd N (4 - j) := by rw [hb]; exact tkd_by _ _
    have hp : tkp (N + b) (4 - j) = tkp N (4 - j) := by rw [hb]; exact tkp_by _ _
    rw [ht, hp]
    obtain ⟨i1, i2⟩ := Tied.stg h hb N j q hq
    by_cases hk : tkd N (4 - j) = true
    · rw [if_pos hk, if_pos hk]
      obtain ⟨j1, j2⟩ := Tied.stg h hb N j _ (tkp_lt N (4 - j))
      rw [agn_at, agn_at]
      constructor
      · rw [List.map_append, j1, List.filter_map]
        congr 1
        · split
          · rfl
          · exact i1
        · congr 1
          refine List.filter_congr fun i hi => ?_
          simp only [Function.comp]
          rw [h.due i (j2 i hi), hb, plc_by]
      · intro i hi
        rcases List.mem_append.1 hi with hi | hi
        · split at hi
          · cases hi
          · exact i2 i hi
        · exact j2 i (List.mem_filter.1 hi).1
    · rw [if_neg hk, if_neg hk]; exact ⟨i1, i2⟩
theorem Tied.adv {s s' : LS} {S S' : WSt} {ev : Nat → Nat} {n : Nat} {D : Nat → Nat} {b : Nat} {P : Nat → List Nat} {es : List Nat} {R : Value} {W W' : World} {N : Nat} (h : Tied s S ev n D b P) (a : XAdv s s' S S' es R W W') (hf : ∀ y, W.heap.size ≤ y → s.kd y = 0) {k : Nat} (hb : b = 16777216 * k) (hn : S.now = N + b) :
    es = (outOf D (N + 1) P).map ev ∧ (∀ i, i ∈ outOf D (N + 1) P → i < n) ∧ Tied s' S' ev n D b (restOf D (N + 1) P) := by
  have hlt : ∀ j, j < n → ev j < W.heap.size := fun j hj => by
    rcases Nat.lt_or_ge (ev j) W.heap.size with h1 | h1
    · exact h1
    · have := hf _ h1; rw [h.six j hj] at this; cases this
  have hN : S.now + 1 = (N + 1) + b := by omega
  have hm : (N + 1 + b) % 64 = (N + 1) % 64 := by omega
  have st := fun q hq => h.stg hb (N + 1) 4 q hq
  have hes : es = (outOf D (N + 1) P).map ev := by
    rw [a.eq, hN]
    show Go.Proofs.YthinhbaklcijmaaDoor.stg S.due (N + 1 + b) S.pl 4 ((N + 1 + b) % 64) = _
    rw [hm]; exact (st _ (by omega)).1
  refine ⟨hes, (st _ (by omega)).2, ⟨fun q hq => ?_, fun q i hq hi => ?_, fun j hj => ?_, fun j hj => by rw [a.due]; exact h.due j hj, fun j hj => by rw [a.dl]; exact h.dl j hj, fun j hj => by rw [a.val]; exact h.val j hj, h.inj⟩⟩
  · rw [a.pl, hN]
    show upd (Go.Proofs.YthinhbaklcijmaaDoor.stg S.due (N + 1 + b) S.pl 4) ((N + 1 + b) % 64) [] q = (upd (Go.Proofs.YthinhbaklcijmaaDoor.stg D (N + 1) P 4) ((N + 1) % 64) [] q).map ev
    rw [hm]
    by_cases hq2 : q = (N + 1) % 64
    · rw [hq2, upd_same, upd_same]; rfl
    · rw [upd_ne _ _ hq2, upd_ne _ _ hq2]; exact (st q hq).1
  · have hi' : i ∈ upd (Go.Proofs.YthinhbaklcijmaaDoor.stg D (N + 1) P 4) ((N + 1) % 64) [] q := hi
    by_cases hq2 : q = (N + 1) % 64
    · rw [hq2, upd_same] at hi'; cases hi'
    · rw [upd_ne _ _ hq2] at hi'; exact (st q hq).2 i hi'
  · rw [a.kd _ (hlt j hj)]; exact h.six j hj
/-- the values of entries -/
theorem Tied.vals {s : LS} {S : WSt} {ev : Nat → Nat} {n : Nat} {D : Nat → Nat} {b : Nat} {P : Nat → List Nat} (h : Tied s S ev n D b P) {l : List Nat} (hl : ∀ i, i ∈ l → i < n) : (l.map ev).map (fun e => Value.int .i64 (intOf (S.val e 0))) = l.map (fun (i : Nat) => Value.int .i64 (i : Int)) := by
  rw [List.map_map]
  refine List.map_congr_left fun i hi => ?_
  simp only [Function.comp]
  rw [h.val i (hl i hi)]; rfl
theorem Tied.val1 {s : LS} {S : WSt} {ev : Nat → Nat} {n : Nat} {D : Nat → Nat} {b : Nat} {P : Nat → List Nat} (h : Tied s S ev n D b P) {l : List Nat} (hl : ∀ i, i ∈ l → i < n) : ∀ e, e ∈ l.map ev → S.val e 0 = Value.int .i64 (intOf (S.val e 0)) := fun e he => by
  obtain ⟨i, hi, rfl⟩ := List.mem_map.1 he
  rw [h.val i (hl i hi)]; rfl
theorem nAll_map {P : Nat → List Nat} {f g : Nat → List Nat} {u v : Nat → Nat} (hf : ∀ q, q < 257 → f q = (P q).map u) (hg : ∀ q, q < 257 → g q = (P q).map v) : nAll f = nAll g := by
  rw [nAll_eq, nAll_eq]
  exact sum_congr' _ fun q hq => by rw [hf q (List.mem_range.1 hq), hg q (List.mem_range.1 hq), List.length_map, List.length_map]
theorem bd_u16 {a : Int} (h : (Lit.int .u16 a).wf = true) : 0 ≤ a ∧ a < 65536 := by
  have h1 : IntKind.u16.min = 0 := by decide
  have h2 : IntKind.u16.max = 65535 := by decide
  simp only [Lit.wf, Bool.and_eq_true, decide_eq_true_eq, h1, h2] at h; omega
theorem bd_u32 {a : Int} (h : (Lit.int .u32 a).wf = true) : 0 ≤ a ∧ a < 4294967296 := by
  have h1 : IntKind.u32.min = 0 := by decide
  have h2 : IntKind.u32.max = 4294967295 := by decide
  simp only [Lit.wf, Bool.and_eq_true, decide_eq_true_eq, h1, h2] at h; omega
theorem get_u16 {zs : List Int} (h : ∀ n ∈ zs, (Lit.int .u16 n).wf = true) (j : Nat) : 0 ≤ zs.getD j 0 ∧ zs.getD j 0 < 65536 := by
  rcases Nat.lt_or_ge j zs.length with hj | hj
  · rw [List.getD_eq_getElem?_getD, List.getElem?_eq_getElem hj]
    exact bd_u16 (h _ (List.getElem_mem hj))
  · rw [List.getD_eq_getElem?_getD, List.getElem?_eq_none hj]; decide
end Go.Proofs.YthinhbaklcijmaaDoor
