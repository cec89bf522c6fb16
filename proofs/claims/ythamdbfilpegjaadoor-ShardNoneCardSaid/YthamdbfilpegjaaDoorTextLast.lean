/-
  What stands here: a region that draws its order and ends with an operation behind all others, walked in the order of its text: ahead of that last one the blocks that are read stay. Under the condition of wp_region_text.
-/
import Derived.Test.YthamdbfilpegjaaDoorText
namespace Go.Proofs.YthamdbfilpegjaaDoor
set_option linter.unusedVariables false
set_option linter.unusedSimpArgs false
open Go Go.RowKit

section
variable {P : Program} {bts : List TypeId × List TypeId} {ops : Array Oper} {Q : Exit → Act → World → Prop} {ds : List Nat} {w0 : World}

theorem stand_ready {B : List Nat} (h : chkRegion P bts ops B = true) {L : List Nat} {listed : Array Bool} (st : Stand ops L listed) (hne : L ≠ []) : Region.ready .any ops listed ≠ [] := by
  intro hnone
  cases L with
  | nil => exact hne rfl
  | cons i0 L =>
    obtain ⟨hlt, hun⟩ := (st.mem i0).1 (List.mem_cons_self ..)
    have : i0 ∈ Region.ready .any ops listed := by
      refine mem_ready.2 ⟨hun, _, Array.getElem?_eq_getElem hlt, fun e he hb => ?_⟩
      have hon := (chk_edge h (Array.getElem?_eq_getElem hlt)).2.1 e he hb
      have hnot : e.on ∉ i0 :: L := by
        intro hm
        rcases List.mem_cons.1 hm with hm | hm
        · omega
        · have := List.rel_of_pairwise_cons st.sorted hm; omega
      have hsz : e.on < listed.size := by rw [st.size]; omega
      by_cases hl : listed.getD e.on false = true
      · exact hl
      · exfalso
        apply hnot
        rw [st.mem]
        refine ⟨by omega, ?_⟩
        simp only [Array.getD_eq_getD_getElem?, Array.getElem?_eq_getElem hsz, Option.getD_some] at hl ⊢
        simpa using hl
    rw [hnone] at this
    cases this
theorem stand_none {listed : Array Bool} (st : Stand ops [] listed) : Region.ready .any ops listed = [] := by
  cases hrd : Region.ready .any ops listed with
  | nil => rfl
  | cons j js =>
    have hj : j ∈ Region.ready .any ops listed := by rw [hrd]; exact List.mem_cons_self ..
    obtain ⟨h0, o, ho, _⟩ := mem_ready.1 hj
    have := (st.mem j).2 ⟨(Array.getElem?_eq_some_iff.1 ho).1, h0⟩
    cases this
theorem stand_step {pre post : List Nat} {j : Nat} {oj : Oper} {listed : Array Bool} (st : Stand ops (pre ++ j :: post) listed) (hoj : ops[j]? = some oj)
    (hall : ∀ e ∈ oj.after, Region.binds .any e = true → listed.getD e.on false = true) : Stand ops (pre ++ post) (listed.setIfInBounds j true) := by
  have hpw := List.pairwise_append.1 st.sorted
  have hjs : j < listed.size := by rw [st.size]; exact (Array.getElem?_eq_some_iff.1 hoj).1
  have hnd : j ∉ pre ++ post := by
    intro hm
    rcases List.mem_append.1 hm with hm | hm
    · have := hpw.2.2 j hm j (List.mem_cons_self ..); omega
    · have := List.rel_of_pairwise_cons hpw.2.1 hm; omega
  refine ⟨?_, ?_, by simpa using st.size, ?_⟩
  · refine List.pairwise_append.2 ⟨hpw.1, (List.pairwise_cons.1 hpw.2.1).2, fun x hx y hy => hpw.2.2 x hx y (List.mem_cons_of_mem _ hy)⟩
  · intro i
    by_cases hij : i = j
    · subst hij
      constructor
      · intro hm; exact absurd hm hnd
      · intro hm; simp [hjs] at hm
    · rw [getD_set_ne true (Ne.symm hij), ← st.mem i]
      simp only [List.mem_append, List.mem_cons]
      constructor
      · rintro (hm | hm)
        · exact .inl hm
        · exact .inr (.inr hm)
      · rintro (hm | hm | hm)
        · exact .inl hm
        · exact absurd hm hij
        · exact .inr hm
  · intro i o hi hl e he hb
    by_cases hij : i = j
    · subst hij
      rw [hoj] at hi; cases hi
      exact getD_set_true (hall e he hb)
    · rw [getD_set_ne false (Ne.symm hij)] at hl
      exact getD_set_true (st.closed i o hi hl e he hb)
theorem stand_indep {B : List Nat} (h : chkRegion P bts ops B = true) {pre post : List Nat} {j : Nat} {oj : Oper} {listed : Array Bool} (st : Stand ops (pre ++ j :: post) listed) (hoj : ops[j]? = some oj)
    (hall : ∀ e ∈ oj.after, Region.binds .any e = true → listed.getD e.on false = true) : ∀ p ∈ pre, indep P bts ops p j := by
  have hpw := List.pairwise_append.1 st.sorted
  intro p hp
  have hlt : p < j := hpw.2.2 p hp j (List.mem_cons_self ..)
  cases hb : (B.getD j 0).testBit p with
  | false => exact (chk_pair h hoj hlt).2 hb
  | true =>
    exfalso
    have hlp := closed_bits h st (j + 1) j (by omega) oj hoj hall p hlt hb
    have hpu := ((st.mem p).1 (List.mem_append_left _ hp)).2
    have hsz : p < listed.size := by rw [st.size]; exact ((st.mem p).1 (List.mem_append_left _ hp)).1
    simp only [Array.getD_eq_getD_getElem?, Array.getElem?_eq_getElem hsz, Option.getD_some] at hlp hpu
    rw [hlp] at hpu; cases hpu
theorem wpOp_toQ {Q' : Exit → Act → World → Prop} (hn : OnlyNormal Q') {i : Nat} {a : Act} {w : World} {K K' : Act → World → Prop} (h : ∀ a w, K a w → K' a w) (hh : wpOp P ops Q' i K a w) : wpOp P ops Q i K' a w := by
  unfold wpOp at *
  split at hh
  · exact h _ _ hh
  · split at hh
    · rename_i hw
      rw [if_pos hw]
      rcases hh with hh | ⟨_, hl⟩
      · exact .inl (wp_toQ hn h hh)
      · exact (hn.lets hl).elim
    · rename_i hw
      rw [if_neg hw]
      exact h _ _ hh

theorem text_last {B : List Nat} (h : chkRegion P bts ops B = true) (hc : CellsB ds w0) (z : Nat) (hz : ∀ p, p < z → (B.getD z 0).testBit p = true) : ∀ (k : Nat) (L : List Nat) (listed : Array Bool) (a : Act) (w : World), L.length = k → StayB ds w0 w → Stand ops (L ++ [z]) listed →
    runT P bts ds w0 ops (Exit.then (fun a w => wpOp P ops Q z (fun a w => Q .normal a w) a w) (fun _ _ _ => False)) L a w → wpAny P .any ops Q (k + 1) listed a w := by
  intro k
  induction k with
  | zero =>
    intro L listed a w hk hS st hr
    obtain rfl : L = [] := List.length_eq_zero_iff.1 hk
    refine ⟨fun hnone => absurd hnone (stand_ready h st (by simp)), fun j hj => ?_⟩
    obtain ⟨h0, oj, hoj, hall⟩ := mem_ready.1 hj
    have hjL : j ∈ [z] := (st.mem j).2 ⟨(Array.getElem?_eq_some_iff.1 hoj).1, h0⟩
    obtain rfl := List.mem_singleton.1 hjL
    have st' := stand_step (pre := []) (post := []) st hoj hall
    have hr' : wpOp P ops Q j (fun a w => Q .normal a w) a w := hr
    exact wpOp_mono (fun a w h => ⟨stand_none st', h⟩) hr'
  | succ k ih =>
    intro L listed a w hk hS st hr
    refine ⟨fun hnone => absurd hnone (stand_ready h st (by simp)), fun j hj => ?_⟩
    obtain ⟨h0, oj, hoj, hall⟩ := mem_ready.1 hj
    have hjL : j ∈ L ++ [z] := (st.mem j).2 ⟨(Array.getElem?_eq_some_iff.1 hoj).1, h0⟩
    have hjL2 : j ∈ L := by
      rcases List.mem_append.1 hjL with hm | hm
      · exact hm
      · exfalso
        obtain rfl := List.mem_singleton.1 hm
        cases L with
        | nil => simp at hk
        | cons p L =>
          have hpl : p < j := (List.pairwise_append.1 st.sorted).2.2 p (List.mem_cons_self ..) j (by simp)
          have hlp := closed_bits h st (j + 1) j (by omega) oj hoj hall p hpl (hz p hpl)
          obtain ⟨hp1, hpu⟩ := (st.mem p).1 (by simp)
          have hsz : p < listed.size := by rw [st.size]; exact hp1
          simp only [Array.getD_eq_getD_getElem?, Array.getElem?_eq_getElem hsz, Option.getD_some] at hlp hpu
          rw [hlp] at hpu; cases hpu
    obtain ⟨pre, post, rfl⟩ := List.append_of_mem hjL2
    have st2 : Stand ops (pre ++ j :: (post ++ [z])) listed := by simpa using st
    have hfr := to_front hc (only_then _) pre a w hS (stand_indep h st2 hoj hall) hr
    refine wpOp_toQ (only_then _) (fun a' w' h' => ih (pre ++ post) (listed.setIfInBounds j true) a' w' ?_ h'.1 ?_ h'.2) hfr.2
    · simp only [List.length_append, List.length_cons] at hk ⊢; omega
    · have := stand_step st2 hoj hall
      simpa using this

theorem runT_pre {Q1 : Exit → Act → World → Prop} (hc : CellsB ds w0) (hn : OnlyNormal Q) (hfit : ∀ (j : Nat) o, ops[j]? = some o → (asks bts o).isSome = true → fitsTypes P bts o = true) (l : List Oper) :
    ∀ (k : Nat) (s : List Oper) (t : List (List Oper)) (a : Act) (w : World), (∀ j o, l[j]? = some o → ops[k + j]? = some o) → segs bts l = s :: t → StayB ds w0 w → (∀ a w, Q1 .normal a w → Q .normal a w) →
      wpList P ops (Exit.then (wpSegs P ds w0 ops Q1 t) (fun _ _ _ => False)) s a w → runT P bts ds w0 ops Q (List.range' k l.length) a w := by
  induction l with
  | nil => intro k s t a w _ hs _ hq h; simp only [segs, List.cons.injEq] at hs; obtain ⟨rfl, rfl⟩ := hs; exact hq _ _ h
  | cons o l ih =>
    intro k s t a w hk hs hS hq h
    have h0 : ops[k]? = some o := hk 0 o (by simp)
    have hk' : ∀ j o, l[j]? = some o → ops[k + 1 + j]? = some o := fun j o ho => by rw [show k + 1 + j = k + (j + 1) by omega]; exact hk (j + 1) o (by simpa using ho)
    obtain ⟨s', t', hs', hhead⟩ := segs_head (bts := bts) l
    simp only [List.length_cons, List.range'_succ, runT]
    unfold segs at hs
    by_cases he : isEff bts o = true
    · rw [if_pos he] at hs
      simp only [List.cons.injEq] at hs
      obtain ⟨rfl, rfl⟩ := hs
      have hnm : muteB P bts o = false := by
        simp only [isEff, Bool.and_eq_true, Bool.not_eq_true'] at he
        simp [muteB, he.1, Option.isNone_iff_eq_none.1 he.2]
      refine ⟨fun o' ho' hm => (by rw [h0] at ho'; cases ho'; rw [hnm] at hm; cases hm), ?_⟩
      refine wpOp_mono (fun a w h => ?_) (list_op h0 h)
      have h' : wpSegs P ds w0 ops Q1 (segs bts l) a w := h
      rw [hs'] at h'
      exact ⟨h'.1.1, ih (k + 1) s' t' a w hk' hs' h'.1.1 hq h'.2⟩
    · rw [if_neg he, hs'] at hs
      simp only at hs
      by_cases hl : isLoad o = true
      · rw [if_pos hl] at hs
        simp only [List.cons.injEq] at hs
        obtain ⟨rfl, rfl⟩ := hs
        have h' : wpSegs P ds w0 ops Q1 ((o :: s') :: t') a w := h
        obtain ⟨⟨_, hld⟩, h''⟩ := h'
        refine mute_op hc hn h0 (by simp [muteB, hl]) hS (fun hw => ⟨?_, hld o rfl hl hw⟩) (fun a' hk'' => ih (k + 1) s' t' a' w hk' hs' hS hq hk'') (list_op h0 h'')
        obtain ⟨dst, op, type, pos, after, guard⟩ := o
        cases op <;> simp only [isLoad] at hl <;> try (cases hl)
        all_goals trivial
      · rw [if_neg hl] at hs
        simp only [List.cons.injEq] at hs
        obtain ⟨rfl, rfl⟩ := hs
        have hsome : (asks bts o).isSome = true := by
          simp only [isEff, Bool.and_eq_true, Bool.not_eq_true', not_and] at he
          cases ha : asks bts o with
          | none => exact absurd (by simp [ha]) (he (by simpa using hl))
          | some l => rfl
        obtain ⟨l', hl'⟩ := Option.isSome_iff_exists.1 hsome
        obtain ⟨h1, h2⟩ := ask_met (only_then _) hl' (hfit k o h0 hsome) h
        refine mute_op hc hn h0 (by simp [muteB, hsome, hfit k o h0 hsome]) hS (fun hw => ⟨h1 hw, ?_⟩) (fun a' hk'' => ih (k + 1) s' t' a' w hk' hs' hS hq hk'') (list_op h0 h2)
        obtain ⟨dst, op, type, pos, after, guard⟩ := o
        cases op <;> first | trivial | (simp [isLoad] at hl)

theorem any_region_last {l : List Oper} {z : Oper} {a : Act} {w : World} (bts : List TypeId × List TypeId) (ds : List Nat) (hk : chkRegion P bts (l ++ [z]).toArray (befs (l ++ [z])) = true)
    (hz : ((List.range l.length).all fun p => ((befs (l ++ [z])).getD l.length 0).testBit p) = true) (hc : CellsB ds w) {sl : List (List Oper)} (hsl : segs bts l = sl)
    (h : wpSegs P ds w (l ++ [z]).toArray (Exit.then (fun a w => wpList P (l ++ [z]).toArray (Exit.then (fun a w => Q .normal a w) (fun _ _ _ => False)) [z] a w) (fun _ _ _ => False)) sl a w.drew) : wpAny P .any (l ++ [z]).toArray (Exit.then (Q .normal) (fun _ _ _ => False)) (l ++ [z]).toArray.size (Array.replicate (l ++ [z]).toArray.size false) a w.drew := by
  have hn : OnlyNormal (Exit.then (Q .normal) (fun _ _ _ => False)) := only_then _
  subst hsl
  obtain ⟨s, t, hst, _⟩ := segs_head (bts := bts) l
  rw [hst] at h
  have hS : StayB ds w w.drew := fun b _ => rfl
  have hzl : (l ++ [z]).toArray[l.length]? = some z := by simp
  -- the list l, seen as the beginning of l ++ [z]
  have hr2 : runT P bts ds w (l ++ [z]).toArray (Exit.then (fun a w' => wpOp P (l ++ [z]).toArray (Exit.then (Q .normal) (fun _ _ _ => False)) l.length (fun a w' => Q .normal a w') a w') (fun _ _ _ => False)) (List.range' 0 l.length) a w.drew := by
    refine runT_pre hc (only_then _) (fun j o ho ha => (chk_edge hk ho).2.2 ha) l 0 s t a w.drew (fun j o hj => ?_) hst hS (fun a' w' hh => ?_) h.2
    · rw [Nat.zero_add]; simp only [List.getElem?_toArray]; rw [List.getElem?_append_left (List.getElem?_eq_some_iff.1 hj).1]; exact hj
    · exact list_op (Q := Exit.then (Q .normal) (fun _ _ _ => False)) hzl hh
  have hsz : (l ++ [z]).toArray.size = l.length + 1 := by simp
  rw [hsz]
  refine text_last hk hc l.length (fun p hp => List.all_eq_true.1 hz p (List.mem_range.2 hp)) l.length (List.range' 0 l.length) _ a _ (by simp) hS ?_ hr2
  refine ⟨?_, ?_, by simp, ?_⟩
  · have : List.range' 0 l.length ++ [l.length] = List.range' 0 (l.length + 1) := by rw [List.range'_concat]; simp
    rw [this]; exact List.pairwise_lt_range'
  · intro i
    have : List.range' 0 l.length ++ [l.length] = List.range' 0 (l.length + 1) := by rw [List.range'_concat]; simp
    rw [this, List.mem_range']
    constructor
    · rintro ⟨j, hj, rfl⟩
      simp [hj]
    · rintro ⟨hi, _⟩
      exact ⟨i, by simpa using hi, by omega⟩
  · intro i o hi hl
    exfalso
    have hlt : i < (l ++ [z]).toArray.size := (Array.getElem?_eq_some_iff.1 hi).1
    simp at hlt
    simp [hlt] at hl
/-- the same, the region's list as it stands -/
theorem any_region_end {L : List Oper} {z : Oper} {a : Act} {w : World} (bts : List TypeId × List TypeId) (ds : List Nat) (hL : L.getLast? = some z) (hk : chkRegion P bts L.toArray (befs L) = true)
    (hz : ((List.range L.dropLast.length).all fun p => ((befs L).getD L.dropLast.length 0).testBit p) = true) (hc : CellsB ds w) {sl : List (List Oper)} (hsl : segs bts L.dropLast = sl)
    (h : wpSegs P ds w L.toArray (Exit.then (fun a w => wpList P L.toArray (Exit.then (fun a w => Q .normal a w) (fun _ _ _ => False)) [z] a w) (fun _ _ _ => False)) sl a w.drew) : wpAny P .any L.toArray (Exit.then (Q .normal) (fun _ _ _ => False)) L.toArray.size (Array.replicate L.toArray.size false) a w.drew := by
  have hl : L = L.dropLast ++ [z] := by
    have hne : L ≠ [] := by intro e; subst e; simp at hL
    rw [List.getLast?_eq_some_getLast hne, Option.some.injEq] at hL
    rw [← hL]; exact (List.dropLast_concat_getLast hne).symm
  generalize L.dropLast = l at *
  subst hl
  exact any_region_last bts ds hk hz hc hsl h

theorem wp_region_end {id : Nat} {L : List Oper} {z : Oper} {a : Act} {w : World} (bts : List TypeId × List TypeId) (ds : List Nat) (hL : L.getLast? = some z) (hm : P.follows .mixedOrders = true) (hk : chkRegion P bts L.toArray (befs L) = true)
    (hz : ((List.range L.dropLast.length).all fun p => ((befs L).getD L.dropLast.length 0).testBit p) = true) (hc : CellsB ds w) {sl : List (List Oper)} (hsl : segs bts L.dropLast = sl)
    (h : wpSegs P ds w L.toArray (Exit.then (fun a w => wpList P L.toArray (Exit.then (fun a w => Q .normal a w) (fun _ _ _ => False)) [z] a w) (fun _ _ _ => False)) sl a w.drew) : (Code.region id L.toArray true).wp P Q a w := 
  wp_mono (Q := Exit.then (Q .normal) (fun _ _ _ => False)) (wp_region_any hm (any_region_end bts ds hL hk hz hc hsl h)) (fun e a w hq => by cases e <;> first | exact hq | exact hq.elim)

/-! ### Two parts, the second behind all of the first: each has its own blocks that stay -/
theorem text_split {B : List Nat} {ds' : List Nat} (h : chkRegion P bts ops B = true) (hc : CellsB ds w0) (hn : OnlyNormal Q) (n1 : Nat) (Z : List Nat) (hz : ∀ z ∈ Z, ∀ p, p < n1 → (B.getD z 0).testBit p = true ∧ p < z) : ∀ (k : Nat) (L : List Nat) (listed : Array Bool) (a : Act) (w : World), L.length = k → StayB ds w0 w → (∀ p ∈ L, p < n1) → Stand ops (L ++ Z) listed →
    runT P bts ds w0 ops (Exit.then (fun a w => CellsB ds' w ∧ runT P bts ds' w ops Q Z a w) (fun _ _ _ => False)) L a w → wpAny P .any ops Q (k + Z.length) listed a w := by
  intro k
  induction k with
  | zero =>
    intro L listed a w hk hS hL st hr
    obtain rfl : L = [] := List.length_eq_zero_iff.1 hk
    have hr' : CellsB ds' w ∧ runT P bts ds' w ops Q Z a w := hr
    rw [Nat.zero_add]
    exact text_any h hr'.1 hn Z.length Z listed a w rfl (fun b hb => rfl) (by simpa using st) hr'.2
  | succ k ih =>
    intro L listed a w hk hS hL st hr
    rw [show k + 1 + Z.length = k + Z.length + 1 by omega]
    refine ⟨fun hnone => absurd hnone (stand_ready h st (by intro e; simp only [List.append_eq_nil_iff] at e; rw [e.1] at hk; simp at hk)), fun j hj => ?_⟩
    obtain ⟨h0, oj, hoj, hall⟩ := mem_ready.1 hj
    have hjL : j ∈ L ++ Z := (st.mem j).2 ⟨(Array.getElem?_eq_some_iff.1 hoj).1, h0⟩
    have hjL2 : j ∈ L := by
      rcases List.mem_append.1 hjL with hm | hm
      · exact hm
      · exfalso
        cases L with
        | nil => simp at hk
        | cons p L =>
          have hp1 := hL p (List.mem_cons_self ..)
          obtain ⟨hbit, hpl⟩ := hz j hm p hp1
          have hlp := closed_bits h st (j + 1) j (by omega) oj hoj hall p hpl hbit
          obtain ⟨hp1, hpu⟩ := (st.mem p).1 (by simp)
          have hsz : p < listed.size := by rw [st.size]; exact hp1
          simp only [Array.getD_eq_getD_getElem?, Array.getElem?_eq_getElem hsz, Option.getD_some] at hlp hpu
          rw [hlp] at hpu; cases hpu
    obtain ⟨pre, post, rfl⟩ := List.append_of_mem hjL2
    have st2 : Stand ops (pre ++ j :: (post ++ Z)) listed := by simpa using st
    have hfr := to_front hc (only_then _) pre a w hS (stand_indep h st2 hoj hall) hr
    refine wpOp_toQ (only_then _) (fun a' w' h' => ih (pre ++ post) (listed.setIfInBounds j true) a' w' ?_ h'.1 ?_ ?_ h'.2) hfr.2
    · simp only [List.length_append, List.length_cons] at hk ⊢; omega
    · intro p hp; exact hL p (by simp only [List.mem_append, List.mem_cons] at hp ⊢; rcases hp with hp | hp; exact .inl hp; exact .inr (.inr hp))
    · have := stand_step st2 hoj hall
      simpa using this

/-- A REGION THAT DRAWS ITS ORDER, WALKED IN THE ORDER OF ITS TEXT, IN TWO PARTS: n1 operations, and those behind them all. -/
theorem any_region_two {L : List Oper} {a : Act} {w : World} (bts : List TypeId × List TypeId) (n1 : Nat) (ds ds' : List Nat) (hk : chkRegion P bts L.toArray (befs L) = true)
    (hz : ((List.range' n1 (L.length - n1)).all fun z => (List.range n1).all fun p => ((befs L).getD z 0).testBit p) = true) (hn1 : n1 ≤ L.length) (hc : CellsB ds w) {sl sl' : List (List Oper)} (hsl : segs bts (L.take n1) = sl) (hsl' : segs bts (L.drop n1) = sl')
    (h : wpSegs P ds w L.toArray (Exit.then (fun a w => CellsB ds' w ∧ wpSegs P ds' w L.toArray (Exit.then (Q .normal) (fun _ _ _ => False)) sl' a w) (fun _ _ _ => False)) sl a w.drew) : wpAny P .any L.toArray (Exit.then (Q .normal) (fun _ _ _ => False)) L.toArray.size (Array.replicate L.toArray.size false) a w.drew := by
  have hn : OnlyNormal (Exit.then (Q .normal) (fun _ _ _ => False)) := only_then _
  subst hsl hsl'
  obtain ⟨s, t, hst, _⟩ := segs_head (bts := bts) (L.take n1)
  obtain ⟨s', t', hst', _⟩ := segs_head (bts := bts) (L.drop n1)
  rw [hst] at h
  have hS : StayB ds w w.drew := fun b _ => rfl
  have hfit : ∀ (j : Nat) o, L.toArray[j]? = some o → (asks bts o).isSome = true → fitsTypes P bts o = true := fun j o ho ha => (chk_edge hk ho).2.2 ha
  have hr2 : runT P bts ds w L.toArray (Exit.then (fun a w' => CellsB ds' w' ∧ runT P bts ds' w' L.toArray (Exit.then (Q .normal) (fun _ _ _ => False)) (List.range' n1 (L.length - n1)) a w') (fun _ _ _ => False)) (List.range' 0 n1) a w.drew := by
    have h2 := runT_pre (Q := Exit.then (fun a w' => CellsB ds' w' ∧ runT P bts ds' w' L.toArray (Exit.then (Q .normal) (fun _ _ _ => False)) (List.range' n1 (L.length - n1)) a w') (fun _ _ _ => False)) hc (only_then _) hfit (L.take n1) 0 s t a w.drew (fun j o hj => ?_) hst hS (fun a' w' hh => ?_) h.2
    · rw [List.length_take, Nat.min_eq_left hn1] at h2
      exact h2
    · rw [Nat.zero_add, List.getElem?_toArray]
      rw [List.getElem?_take] at hj
      split at hj
      · exact hj
      · cases hj
    · obtain ⟨hc', hh2⟩ := hh
      refine ⟨hc', ?_⟩
      rw [hst'] at hh2
      have h3 := runT_of_segs hc' (only_then (Q .normal)) hfit (L.drop n1) n1 s' t' a' w' (fun j => by rw [List.getElem?_drop, List.getElem?_toArray]) hst' hh2.1.1 hh2.2
      rw [List.length_drop] at h3
      exact h3
  have hrng : List.range' 0 n1 ++ List.range' n1 (L.length - n1) = List.range' 0 L.length := by
    have := @List.range'_append 0 n1 (L.length - n1) 1
    simp only [Nat.one_mul, Nat.zero_add] at this
    rw [this, show n1 + (L.length - n1) = L.length by omega]
  have hf := text_split (Q := Exit.then (Q .normal) (fun _ _ _ => False)) (ds' := ds') hk hc (only_then _) n1 (List.range' n1 (L.length - n1)) (fun z hzm p hp => by
    have h1 := List.all_eq_true.1 hz z hzm
    refine ⟨List.all_eq_true.1 h1 p (List.mem_range.2 hp), ?_⟩
    rw [List.mem_range'] at hzm
    obtain ⟨i, _, rfl⟩ := hzm
    omega) n1 (List.range' 0 n1) (Array.replicate L.toArray.size false) a w.drew (by simp) hS (fun p hp => by rw [List.mem_range'] at hp; obtain ⟨i, hi, rfl⟩ := hp; omega) ?_ hr2
  · rw [List.length_range', show n1 + (L.length - n1) = L.length by omega] at hf
    exact hf
  · rw [hrng]
    refine ⟨List.pairwise_lt_range', ?_, by simp, ?_⟩
    · intro i
      rw [List.mem_range']
      constructor
      · rintro ⟨j, hj, rfl⟩
        simp [hj]
      · rintro ⟨hi, _⟩
        exact ⟨i, by simpa using hi, by omega⟩
    · intro i o hi hl
      exfalso
      have hlt : i < L.toArray.size := (Array.getElem?_eq_some_iff.1 hi).1
      simp at hlt
      simp [hlt] at hl
theorem wp_region_two {id : Nat} {L : List Oper} {a : Act} {w : World} (bts : List TypeId × List TypeId) (n1 : Nat) (ds ds' : List Nat) (hm : P.follows .mixedOrders = true) (hk : chkRegion P bts L.toArray (befs L) = true)
    (hz : ((List.range' n1 (L.length - n1)).all fun z => (List.range n1).all fun p => ((befs L).getD z 0).testBit p) = true) (hn1 : n1 ≤ L.length) (hc : CellsB ds w) {sl sl' : List (List Oper)} (hsl : segs bts (L.take n1) = sl) (hsl' : segs bts (L.drop n1) = sl')
    (h : wpSegs P ds w L.toArray (Exit.then (fun a w => CellsB ds' w ∧ wpSegs P ds' w L.toArray (Exit.then (Q .normal) (fun _ _ _ => False)) sl' a w) (fun _ _ _ => False)) sl a w.drew) : (Code.region id L.toArray true).wp P Q a w := 
  wp_mono (Q := Exit.then (Q .normal) (fun _ _ _ => False)) (wp_region_any hm (any_region_two bts n1 ds ds' hk hz hn1 hc hsl hsl' h)) (fun e a w hq => by cases e <;> first | exact hq | exact hq.elim)
end
end Go.Proofs.YthamdbfilpegjaaDoor
