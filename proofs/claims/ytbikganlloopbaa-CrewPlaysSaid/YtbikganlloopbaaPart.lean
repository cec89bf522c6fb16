/-
  What stands here: a region that draws its order, walked in the order of its text up to an operation, whatever order the rest comes in. Under the condition (a closed fact) that the operations ahead of it stand ahead of all others, and that of any two of them that are unordered one is mute.
-/
import Derived.Test.YtbikganlloopbaaText
namespace Go.Proofs.Ytbikganlloopbaa
set_option linter.unusedVariables false
set_option linter.unusedSimpArgs false
open Go Go.RowKit
section
variable {P : Program} {bts : List TypeId × List TypeId} {ops : Array Oper} {Q : Exit → Act → World → Prop} {ds : List Nat} {w0 : World} {n1 : Nat}
/-- as chkRegion, but nothing is asked of two operations that both stand behind n1 -/
def chkPart (P : Program) (bts : List TypeId × List TypeId) (ops : Array Oper) (B : List Nat) (n1 : Nat) : Bool :=
  (List.range ops.size).all fun j => match ops[j]? with
    | none => false
    | some oj => (!isSelect oj && (!(asks bts oj).isSome || fitsTypes P bts oj)) && (oj.after.all fun e => !Region.binds .any e || decide (e.on < j)) &&
      (List.range j).all fun p => match ops[p]? with
        | none => false
        | some op =>
          if (B.getD j 0).testBit p then oj.after.any fun e => Region.binds .any e && (e.on == p || (decide (p < e.on) && (B.getD e.on 0).testBit p))
          else decide (n1 ≤ p) || (op.apart ops oj && (muteB P bts op || muteB P bts oj))
theorem part_edge {B : List Nat} (h : chkPart P bts ops B n1 = true) {j : Nat} {oj : Oper} (hj : ops[j]? = some oj) : isSelect oj = false ∧ (∀ e ∈ oj.after, Region.binds .any e = true → e.on < j) ∧ ((asks bts oj).isSome = true → fitsTypes P bts oj = true) := by
  have hlt : j < ops.size := (Array.getElem?_eq_some_iff.1 hj).1
  simp only [chkPart, List.all_eq_true, List.mem_range] at h
  have h1 := h j hlt
  rw [hj] at h1
  simp only [Bool.and_eq_true, Bool.not_eq_true', Array.all_eq_true_iff_forall_mem, Bool.or_eq_true, decide_eq_true_eq] at h1
  refine ⟨h1.1.1.1, fun e he hb => (h1.1.2 e he).resolve_left (by simp [hb]), fun ha => h1.1.1.2.resolve_left (by simp [ha])⟩
theorem part_pair {B : List Nat} (h : chkPart P bts ops B n1 = true) {j p : Nat} {oj : Oper} (hj : ops[j]? = some oj) (hp : p < j) :
    ((B.getD j 0).testBit p = true → ∃ e ∈ oj.after, Region.binds .any e = true ∧ (e.on = p ∨ p < e.on ∧ (B.getD e.on 0).testBit p = true)) ∧ ((B.getD j 0).testBit p = false → p < n1 → indep P bts ops p j) := by
  have hlt : j < ops.size := (Array.getElem?_eq_some_iff.1 hj).1
  have hsj := (part_edge h hj).1
  have h0 := h
  simp only [chkPart, List.all_eq_true, List.mem_range] at h
  have h1 := h j hlt
  rw [hj] at h1
  simp only [Bool.and_eq_true, List.all_eq_true, List.mem_range] at h1
  have h2 := h1.2 p hp
  cases ho : ops[p]? with
  | none => rw [ho] at h2; cases h2
  | some op =>
    rw [ho] at h2
    simp only at h2
    constructor
    · intro hb
      rw [if_pos hb] at h2
      obtain ⟨e, he, hh⟩ := Array.any_eq_true'.1 h2
      simp only [Bool.and_eq_true, Bool.or_eq_true, beq_iff_eq, decide_eq_true_eq] at hh
      exact ⟨e, he, hh.1, hh.2⟩
    · intro hb hpn
      rw [if_neg (by rw [hb]; exact Bool.false_ne_true)] at h2
      simp only [Bool.and_eq_true, Bool.or_eq_true, decide_eq_true_eq] at h2
      have h2 := h2.resolve_left (by omega)
      exact ⟨op, oj, ho, hj, h2.1, not_select (part_edge h0 ho).1, not_select hsj, h2.2⟩
theorem part_bits {B : List Nat} (h : chkPart P bts ops B n1 = true) {L : List Nat} {listed : Array Bool} (st : Stand ops L listed) :
    ∀ (n m : Nat), m < n → ∀ o, ops[m]? = some o → (∀ e ∈ o.after, Region.binds .any e = true → listed.getD e.on false = true) → ∀ p, p < m → (B.getD m 0).testBit p = true → listed.getD p false = true := by
  intro n
  induction n with
  | zero => intro m hm; omega
  | succ n ih =>
    intro m hm o ho hl p hp hb
    obtain ⟨e, he, hbind, h1⟩ := (part_pair h ho hp).1 hb
    have hle := hl e he hbind
    have hlt := (part_edge h ho).2.1 e he hbind
    rcases h1 with h1 | ⟨hpe, h1⟩
    · rw [← h1]; exact hle
    · have hon : e.on < ops.size := by have := (Array.getElem?_eq_some_iff.1 ho).1; omega
      obtain ⟨oe, hoe⟩ : ∃ oe, ops[e.on]? = some oe := ⟨_, Array.getElem?_eq_getElem hon⟩
      exact ih e.on (by omega) oe hoe (st.closed _ _ hoe hle) p hpe h1
theorem part_ready {B : List Nat} (h : chkPart P bts ops B n1 = true) {L : List Nat} {listed : Array Bool} (st : Stand ops L listed) (hne : L ≠ []) : Region.ready .any ops listed ≠ [] := by
  intro hnone
  cases L with
  | nil => exact hne rfl
  | cons i0 L =>
    obtain ⟨hlt, hun⟩ := (st.mem i0).1 (List.mem_cons_self ..)
    have : i0 ∈ Region.ready .any ops listed := by
      refine mem_ready.2 ⟨hun, _, Array.getElem?_eq_getElem hlt, fun e he hb => ?_⟩
      have hon := (part_edge h (Array.getElem?_eq_getElem hlt)).2.1 e he hb
      have hnot : e.on ∉ i0 :: L := by
        intro hm
        rcases List.mem_cons.1 hm with hm | hm
        · omega
        · have := List.rel_of_pairwise_cons st.sorted hm; omega
      have hsz : e.on < listed.size := by rw [st.size]; omega
      by_cases hl : listed.getD e.on false = true
      · exact hl
      · exfalso
        apply hnot
        rw [st.mem]
        refine ⟨by omega, ?_⟩
        simp only [Array.getD_eq_getD_getElem?, Array.getElem?_eq_getElem hsz, Option.getD_some] at hl ⊢
        simpa using hl
    rw [hnone] at this
    cases this
theorem part_indep {B : List Nat} (h : chkPart P bts ops B n1 = true) {pre post : List Nat} {j : Nat} {oj : Oper} {listed : Array Bool} (st : Stand ops (pre ++ j :: post) listed) (hoj : ops[j]? = some oj)
    (hall : ∀ e ∈ oj.after, Region.binds .any e = true → listed.getD e.on false = true) (hpre : ∀ p ∈ pre, p < n1) : ∀ p ∈ pre, indep P bts ops p j := by
  have hpw := List.pairwise_append.1 st.sorted
  intro p hp
  have hlt : p < j := hpw.2.2 p hp j (List.mem_cons_self ..)
  cases hb : (B.getD j 0).testBit p with
  | false => exact (part_pair h hoj hlt).2 hb (hpre p hp)
  | true =>
    exfalso
    have hlp := part_bits h st (j + 1) j (by omega) oj hoj hall p hlt hb
    have hpu := ((st.mem p).1 (List.mem_append_left _ hp)).2
    have hsz : p < listed.size := by rw [st.size]; exact ((st.mem p).1 (List.mem_append_left _ hp)).1
    simp only [Array.getD_eq_getD_getElem?, Array.getElem?_eq_getElem hsz, Option.getD_some] at hlp hpu
    rw [hlp] at hpu; cases hpu
theorem part_split {B : List Nat} (h : chkPart P bts ops B n1 = true) (hc : CellsB ds w0) (hn : OnlyNormal Q) (Z : List Nat) (hz : ∀ z ∈ Z, ∀ p, p < n1 → (B.getD z 0).testBit p = true ∧ p < z) : ∀ (k : Nat) (L : List Nat) (listed : Array Bool) (a : Act) (w : World), L.length = k → StayB ds w0 w → (∀ p ∈ L, p < n1) → Stand ops (L ++ Z) listed →
    runT P bts ds w0 ops (Exit.then (fun a w => ∀ listed, Stand ops Z listed → wpAny P .any ops Q Z.length listed a w) (fun _ _ _ => False)) L a w → wpAny P .any ops Q (k + Z.length) listed a w := by
  intro k
  induction k with
  | zero =>
    intro L listed a w hk hS hL st hr
    obtain rfl : L = [] := List.length_eq_zero_iff.1 hk
    have hr' : ∀ listed, Stand ops Z listed → wpAny P .any ops Q Z.length listed a w := hr
    rw [Nat.zero_add]
    exact hr' _ (by simpa using st)
  | succ k ih =>
    intro L listed a w hk hS hL st hr
    rw [show k + 1 + Z.length = k + Z.length + 1 by omega]
    refine ⟨fun hnone => absurd hnone (part_ready h st (by intro e; simp only [List.append_eq_nil_iff] at e; rw [e.1] at hk; simp at hk)), fun j hj => ?_⟩
    obtain ⟨h0, oj, hoj, hall⟩ := mem_ready.1 hj
    have hjL : j ∈ L ++ Z := (st.mem j).2 ⟨(Array.getElem?_eq_some_iff.1 hoj).1, h0⟩
    have hjL2 : j ∈ L := by
      rcases List.mem_append.1 hjL with hm | hm
      · exact hm
      · exfalso
        cases L with
        | nil => simp at hk
        | cons p L =>
          have hp1 := hL p (List.mem_cons_self ..)
          obtain ⟨hbit, hpl⟩ := hz j hm p hp1
          have hlp := part_bits h st (j + 1) j (by omega) oj hoj hall p hpl hbit
          obtain ⟨hp1, hpu⟩ := (st.mem p).1 (by simp)
          have hsz : p < listed.size := by rw [st.size]; exact hp1
          simp only [Array.getD_eq_getD_getElem?, Array.getElem?_eq_getElem hsz, Option.getD_some] at hlp hpu
          rw [hlp] at hpu; cases hpu
    obtain ⟨pre, post, rfl⟩ := List.append_of_mem hjL2
    have st2 : Stand ops (pre ++ j :: (post ++ Z)) listed := by simpa using st
    have hfr := to_front hc (only_then _) pre a w hS (part_indep h st2 hoj hall (fun p hp => hL p (by simp [hp]))) hr
    refine wpOp_toQ (only_then _) (fun a' w' h' => ih (pre ++ post) (listed.setIfInBounds j true) a' w' ?_ h'.1 ?_ ?_ h'.2) hfr.2
    · simp only [List.length_append, List.length_cons] at hk ⊢; omega
    · intro p hp; exact hL p (by simp only [List.mem_append, List.mem_cons] at hp ⊢; rcases hp with hp | hp; exact .inl hp; exact .inr (.inr hp))
    · have := stand_step st2 hoj hall
      simpa using this
/-- what stands listed, when the first n1 are done -/
theorem stand_listed {n m : Nat} {listed : Array Bool} (st : Stand ops (List.range' n m) listed) (hs : ops.size = n + m) : listed = (List.replicate n true ++ List.replicate m false).toArray := by
  apply Array.ext
  · rw [st.size, hs]; simp
  · intro i h1 h2
    have hm := st.mem i
    rw [List.mem_range'] at hm
    have hi : i < n + m := by rw [← hs, ← st.size]; exact h1
    simp only [Array.getD_eq_getD_getElem?, Array.getElem?_eq_getElem h1, Option.getD_some] at hm
    by_cases h9 : i < n
    · have hne : ¬ (∃ j, j < m ∧ i = n + 1 * j) := by rintro ⟨j, hj, e⟩; omega
      have : listed[i] = true := by
        cases hl : listed[i] with
        | true => rfl
        | false => exact absurd (hm.2 ⟨by omega, hl⟩) hne
      rw [this]
      simp [List.getElem_append, h9]
    · have : listed[i] = false := (hm.1 ⟨i - n, by omega, by omega⟩).2
      rw [this]
      simp [List.getElem_append, h9]
/-- A REGION THAT DRAWS ITS ORDER, ITS FIRST n1 OPERATIONS WALKED IN THE ORDER OF THE TEXT. -/
theorem any_region_part {L : List Oper} {a : Act} {w : World} (bts : List TypeId × List TypeId) (n1 : Nat) (ds : List Nat) (hk : chkPart P bts L.toArray (befs L) n1 = true)
    (hz : ((List.range' n1 (L.length - n1)).all fun z => (List.range n1).all fun p => ((befs L).getD z 0).testBit p) = true) (hn1 : n1 ≤ L.length) (hc : CellsB ds w) {sl : List (List Oper)} (hsl : segs bts (L.take n1) = sl)
    (h : wpSegs P ds w L.toArray (Exit.then (fun a w => wpAny P .any L.toArray (Exit.then (Q .normal) (fun _ _ _ => False)) (L.length - n1) (List.replicate n1 true ++ List.replicate (L.length - n1) false).toArray a w) (fun _ _ _ => False)) sl a w.drew) : wpAny P .any L.toArray (Exit.then (Q .normal) (fun _ _ _ => False)) L.toArray.size (Array.replicate L.toArray.size false) a w.drew := by
  have hn : OnlyNormal (Exit.then (Q .normal) (fun _ _ _ => False)) := only_then _
  subst hsl
  obtain ⟨s, t, hst, _⟩ := segs_head (bts := bts) (L.take n1)
  rw [hst] at h
  have hS : StayB ds w w.drew := fun b _ => rfl
  have hfit : ∀ (j : Nat) o, L.toArray[j]? = some o → (asks bts o).isSome = true → fitsTypes P bts o = true := fun j o ho ha => (part_edge hk ho).2.2 ha
  have hr2 : runT P bts ds w L.toArray (Exit.then (fun a w' => ∀ listed, Stand L.toArray (List.range' n1 (L.length - n1)) listed → wpAny P .any L.toArray (Exit.then (Q .normal) (fun _ _ _ => False)) (List.range' n1 (L.length - n1)).length listed a w') (fun _ _ _ => False)) (List.range' 0 n1) a w.drew := by
    have h2 := runT_pre (Q := Exit.then (fun a w' => ∀ listed, Stand L.toArray (List.range' n1 (L.length - n1)) listed → wpAny P .any L.toArray (Exit.then (Q .normal) (fun _ _ _ => False)) (List.range' n1 (L.length - n1)).length listed a w') (fun _ _ _ => False)) hc (only_then _) hfit (L.take n1) 0 s t a w.drew (fun j o hj => ?_) hst hS (fun a' w' hh => ?_) h.2
    · rw [List.length_take, Nat.min_eq_left hn1] at h2
      exact h2
    · rw [Nat.zero_add, List.getElem?_toArray]
      rw [List.getElem?_take] at hj
      split at hj
      · exact hj
      · cases hj
    · intro listed st
      rw [stand_listed st (by simp; omega), List.length_range']
      exact hh
  have hrng : List.range' 0 n1 ++ List.range' n1 (L.length - n1) = List.range' 0 L.length := by
    have := @List.range'_append 0 n1 (L.length - n1) 1
    simp only [Nat.one_mul, Nat.zero_add] at this
    rw [this, show n1 + (L.length - n1) = L.length by omega]
  have hf := part_split (Q := Exit.then (Q .normal) (fun _ _ _ => False)) hk hc (only_then _) (List.range' n1 (L.length - n1)) (fun z hzm p hp => by
    have h1 := List.all_eq_true.1 hz z hzm
    refine ⟨List.all_eq_true.1 h1 p (List.mem_range.2 hp), ?_⟩
    rw [List.mem_range'] at hzm
    obtain ⟨i, _, rfl⟩ := hzm
    omega) n1 (List.range' 0 n1) (Array.replicate L.toArray.size false) a w.drew (by simp) hS (fun p hp => by rw [List.mem_range'] at hp; obtain ⟨i, hi, rfl⟩ := hp; omega) ?_ hr2
  · rw [List.length_range', show n1 + (L.length - n1) = L.length by omega] at hf
    exact hf
  · rw [hrng]
    refine ⟨List.pairwise_lt_range', ?_, by simp, ?_⟩
    · intro i
      rw [List.mem_range']
      constructor
      · rintro ⟨j, hj, rfl⟩
        simp [hj]
      · rintro ⟨hi, _⟩
        exact ⟨i, by simpa using hi, by omega⟩
    · intro i o hi hl
      exfalso
      have hlt : i < L.toArray.size := (Array.getElem?_eq_some_iff.1 hi).1
      simp at hlt
      simp [hlt] at hl
theorem wp_region_part {id : Nat} {L : List Oper} {a : Act} {w : World} (bts : List TypeId × List TypeId) (n1 : Nat) (ds : List Nat) (hm : P.follows .mixedOrders = true) (hk : chkPart P bts L.toArray (befs L) n1 = true)
    (hz : ((List.range' n1 (L.length - n1)).all fun z => (List.range n1).all fun p => ((befs L).getD z 0).testBit p) = true) (hn1 : n1 ≤ L.length) (hc : CellsB ds w) {sl : List (List Oper)} (hsl : segs bts (L.take n1) = sl)
    (h : wpSegs P ds w L.toArray (Exit.then (fun a w => wpAny P .any L.toArray (Exit.then (Q .normal) (fun _ _ _ => False)) (L.length - n1) (List.replicate n1 true ++ List.replicate (L.length - n1) false).toArray a w) (fun _ _ _ => False)) sl a w.drew) : (Code.region id L.toArray true).wp P Q a w := 
  wp_mono (Q := Exit.then (Q .normal) (fun _ _ _ => False)) (wp_region_any hm (any_region_part bts n1 ds hk hz hn1 hc hsl h)) (fun e a w hq => by cases e <;> first | exact hq | exact hq.elim)
end
end Go.Proofs.Ytbikganlloopbaa
