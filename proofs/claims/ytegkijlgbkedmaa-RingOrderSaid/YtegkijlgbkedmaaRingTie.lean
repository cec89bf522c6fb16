/-
  What stands here: a ring and the document's ring go alike, step by step: plain laws. Under no condition.
-/
import Derived.Test.YtegkijlgbkedmaaRingAlive
import Derived.Test.YtegkijlgbkedmaaRingRefStep
namespace Go.Proofs.Ytegkijlgbkedmaa
set_option linter.unusedVariables false
set_option linter.unusedSimpArgs false
open Go.RowKit Go.Proofs

/-- the document's ticket of a ticket -/
def atK (k : TS) : Nat × Nat := (if k.status = 0 then k.next else if k.status = 1 then 3 else if k.filled then 5 else 4, k.pos)
/-- what is so of a ticket -/
structure TickI (r : RS) (k : TS) : Prop where
  ok : TickOk r k
  st : k.status ≤ 2
  held : k.status = 2 → k.pos < r.t
  mine : k.status = 2 → k.filled = false → r.h ≤ k.pos ∧ r.pub k.pos = false
  nf : k.status ≠ 2 → k.filled = false
/-- the ring and the document's ring -/
structure TieR (r : RS) (ts : List TS) (P : List Bool) (V : List Int) : Prop where
  p : P = (List.range r.t).map r.pub
  v : V.length = r.t
  vals : ∀ q, r.val q = .int .i64 (V.getD q 0)
  old : ∀ q, q < r.h → r.pub q = true
  ticks : ∀ (i : Nat) (k : TS), ts[i]? = some k → TickI r k
  apart : ∀ (i j : Nat) (k l : TS), i ≠ j → ts[i]? = some k → ts[j]? = some l → k.status = 2 → k.filled = false → l.status = 2 → l.filled = false → k.pos ≠ l.pos
theorem TieR.plen {r : RS} {ts : List TS} {P : List Bool} {V : List Int} (h : TieR r ts P V) : P.length = r.t := by rw [h.p]; simp
theorem TieR.pub {r : RS} {ts : List TS} {P : List Bool} {V : List Int} (h : TieR r ts P V) (ok : r.Ok) (q : Nat) : P.getD q false = r.pub q := by
  rw [h.p, List.getD_eq_getElem?_getD, List.getElem?_map]
  by_cases e : q < r.t
  · rw [List.getElem?_range e]; rfl
  · rw [List.getElem?_eq_none (by simp; omega), ok.pubs q (by omega)]; rfl
theorem TieR.start (n : Nat) : TieR ⟨n, 0, 0, fun _ => false, fun _ => .int .i64 0⟩ [] [] [] :=
  ⟨rfl, rfl, fun _ => by simp, fun q h => absurd h (by simp), fun i k h => by simp at h, fun i j k l _ h => by simp at h⟩
theorem TieR.begin {r : RS} {ts : List TS} {P : List Bool} {V : List Int} (h : TieR r ts P V) : TieR r (ts ++ [⟨0, 0, 0, false⟩]) P V := by
  have hs : ∀ (i : Nat) (k : TS), (ts ++ [(⟨0, 0, 0, false⟩ : TS)])[i]? = some k → ts[i]? = some k ∨ k = ⟨0, 0, 0, false⟩ := by
    intro i k hk
    rw [List.getElem?_append] at hk
    split at hk
    · exact .inl hk
    · right
      have := List.mem_of_getElem? hk
      simpa using this
  refine ⟨h.p, h.v, h.vals, h.old, fun i k hk => ?_, fun i j k l hne hk hl s1 f1 s2 f2 => ?_⟩
  · rcases hs i k hk with hk | rfl
    · exact h.ticks i k hk
    · exact ⟨⟨Nat.zero_le _, by simp, fun _ h => by simp at h⟩, by simp, fun h => by simp at h, fun h => by simp at h, fun _ => rfl⟩
  · rcases hs i k hk with hk | rfl
    · rcases hs j l hl with hl | rfl
      · exact h.apart i j k l hne hk hl s1 f1 s2 f2
      · simp at s2
    · simp at s1
theorem set_get {α : Type} {l : List α} {i j : Nat} {a b : α} (h : (l.set i a)[j]? = some b) : (j = i ∧ b = a) ∨ (j ≠ i ∧ l[j]? = some b) := by
  by_cases e : j = i
  · subst e
    rw [List.getElem?_set] at h
    simp only [if_true] at h
    split at h
    · simp at h; exact .inl ⟨rfl, h.symm⟩
    · cases h
  · rw [List.getElem?_set_ne (Ne.symm e)] at h; exact .inr ⟨e, h⟩
/-- a ticket is turned, and doesn't come to hold a position -/
theorem TieR.turn {r : RS} {ts : List TS} {P : List Bool} {V : List Int} (h : TieR r ts P V) {i : Nat} {k' : TS} (hk : TickI r k') (hs : ts[i]? = some k' ∨ k'.status ≠ 2 ∨ k'.filled = true) : TieR r (ts.set i k') P V := by
  refine ⟨h.p, h.v, h.vals, h.old, fun j l hl => ?_, fun a b k l hne hka hlb s1 f1 s2 f2 => ?_⟩
  · rcases set_get hl with ⟨rfl, rfl⟩ | ⟨_, hl⟩
    · exact hk
    · exact h.ticks j l hl
  · rcases set_get hka with ⟨rfl, rfl⟩ | ⟨_, hka'⟩
    · rcases hs with hs | hs | hs
      · rcases set_get hlb with ⟨rfl, rfl⟩ | ⟨_, hlb'⟩
        · exact absurd rfl hne
        · exact h.apart _ b _ l hne hs hlb' s1 f1 s2 f2
      · exact absurd s1 hs
      · rw [hs] at f1; cases f1
    · rcases set_get hlb with ⟨rfl, rfl⟩ | ⟨_, hlb'⟩
      · rcases hs with hs | hs | hs
        · exact h.apart a _ k _ hne hka' hs s1 f1 s2 f2
        · exact absurd s2 hs
        · rw [hs] at f2; cases f2
      · exact h.apart a b k l hne hka' hlb' s1 f1 s2 f2
theorem ans_at (k : TS) (hs : k.status ≤ 2) (hn : k.next ≤ 2) : refAns (atK k).1 = (k.status : Int) := by
  unfold refAns atK
  simp only
  by_cases h0 : k.status = 0
  · rw [if_pos h0, if_neg (by omega), if_neg (by omega), h0]; rfl
  · by_cases h1 : k.status = 1
    · rw [if_neg h0, if_pos h1, if_pos rfl, h1]; rfl
    · have h2 : k.status = 2 := by omega
      rw [if_neg h0, if_neg h1, h2]
      cases k.filled <;> simp
theorem getD_snoc0 (V : List Int) (q : Nat) : (V ++ [0]).getD q 0 = V.getD q 0 := by
  rw [List.getD_eq_getElem?_getD, List.getD_eq_getElem?_getD, List.getElem?_append]
  split
  · rfl
  · rename_i h
    rw [List.getElem?_eq_none (l := V) (by omega)]
    by_cases e : q - V.length = 0
    · rw [e]; rfl
    · rw [List.getElem?_eq_none (by simp; omega)]
theorem TickI.more {r : RS} {k : TS} (h : TickI r k) : TickI r.more k :=
  ⟨⟨Nat.le_succ_of_le h.ok.pos, h.ok.next, h.ok.room⟩, h.st, fun e => Nat.lt_succ_of_lt (h.held e), h.mine, h.nf⟩
/-- a ticket comes to hold the next position -/
theorem TieR.take {r : RS} {ts : List TS} {P : List Bool} {V : List Int} (h : TieR r ts P V) (ok : r.Ok) {i : Nat} {k : TS} (hk : ts[i]? = some k) (hs : k.status ≠ 2) (hp : k.pos = r.t) : TieR r.more (ts.set i { k with next := 0, status := 2 }) (P ++ [false]) (V ++ [0]) := by
  have hi := h.ticks i k hk
  have hnew : ∀ (b : Nat) (l : TS), b ≠ i → ts[b]? = some l → l.status = 2 → l.pos ≠ k.pos := fun b l hb hl s2 => by have := (h.ticks b l hl).held s2; omega
  refine ⟨?_, ?_, fun q => ?_, h.old, fun j l hl => ?_, fun a b k' l hne hka hlb s1 f1 s2 f2 => ?_⟩
  · rw [h.p, show r.more.t = r.t + 1 from rfl, List.range_succ, List.map_append, List.map_singleton, show r.more.pub = r.pub from rfl, ok.pubs r.t (Nat.le_refl _)]
  · rw [List.length_append, h.v]; rfl
  · rw [getD_snoc0]; exact h.vals q
  · rcases set_get hl with ⟨rfl, rfl⟩ | ⟨_, hl⟩
    · exact ⟨⟨by show k.pos ≤ r.t + 1; omega, by simp, fun h => by simp at h⟩, Nat.le_refl _, fun _ => by show k.pos < r.t + 1; omega, fun _ _ => ⟨by show r.h ≤ k.pos; have := ok.ht; omega, by show r.pub k.pos = false; exact ok.pubs _ (by omega)⟩, fun e => absurd rfl e⟩
    · exact (h.ticks j l hl).more
  · rcases set_get hka with ⟨rfl, rfl⟩ | ⟨ha, hka'⟩
    · rcases set_get hlb with ⟨rfl, rfl⟩ | ⟨hb, hlb'⟩
      · exact absurd rfl hne
      · exact Ne.symm (hnew b l hb hlb' s2)
    · rcases set_get hlb with ⟨rfl, rfl⟩ | ⟨hb, hlb'⟩
      · exact hnew a k' ha hka' s1
      · exact h.apart a b k' l hne hka' hlb' s1 f1 s2 f2
/-- both make a step -/
theorem TieR.step {r : RS} {ts : List TS} {P : List Bool} {V : List Int} (h : TieR r ts P V) (ok : r.Ok) {i : Nat} {k : TS} (hk : ts[i]? = some k) :
    TieR (stepK r k).1 (ts.set i (stepK r k).2) (if (atK k).1 = 2 ∧ (atK k).2 = P.length then P ++ [false] else P) (if (atK k).1 = 2 ∧ (atK k).2 = P.length then V ++ [0] else V) ∧
      refT P r.h r.N (atK k) = atK (stepK r k).2 ∧ (stepK r k).1.N = r.N ∧ (stepK r k).1.h = r.h ∧ (stepK r k).2.status ≤ 2 ∧ (stepK r k).2.next ≤ 2 := by
  have hi := h.ticks i k hk
  have hl := h.plen
  have hpub := h.pub ok
  by_cases h0 : k.status = 0
  · have hn := hi.ok.next
    have h02 : k.next = 0 ∨ k.next = 1 ∨ k.next = 2 := by omega
    rcases h02 with n0 | n1 | n2
    · have e : stepK r k = (r, ⟨r.t, 1, k.status, k.filled⟩) := by unfold stepK; rw [if_pos h0, if_pos n0]
      have ea : atK k = (0, k.pos) := by unfold atK; rw [if_pos h0, n0]
      rw [e, ea]
      refine ⟨?_, ?_, rfl, rfl, by show k.status ≤ 2; omega, by simp⟩
      · rw [if_neg (by simp), if_neg (by simp)]
        exact h.turn ⟨⟨Nat.le_refl _, by simp, fun _ h => by simp at h⟩, by show k.status ≤ 2; omega, fun h2 => (by have h2' : k.status = 2 := h2; omega), fun h2 => (by have h2' : k.status = 2 := h2; omega), fun _ => hi.nf (by omega)⟩ (.inr (.inl (by show k.status ≠ 2; omega)))
      · unfold refT atK
        simp only [if_true, h0, hl]
    · have e : stepK r k = (r, weighK r k) := by unfold stepK; rw [if_pos h0, if_neg (by omega), if_pos n1]
      have ea : atK k = (1, k.pos) := by unfold atK; rw [if_pos h0, n1]
      rw [e, ea]
      rw [if_neg (by simp), if_neg (by simp)]
      have hT : refT P r.h r.N (1, k.pos) = (if r.pub k.pos = true then 0 else if (r.N : Int) ≤ (k.pos : Int) - r.h then 3 else 2, k.pos) := by
        unfold refT; simp only [Nat.one_ne_zero, if_false, if_true]; rw [hpub]
      rw [hT]
      unfold weighK
      by_cases hp : r.pub k.pos = true
      · rw [if_pos (.inr hp), if_pos hp]
        refine ⟨h.turn ⟨⟨hi.ok.pos, by simp, fun _ h => by simp at h⟩, by show k.status ≤ 2; omega, fun h2 => (by have h2' : k.status = 2 := h2; omega), fun h2 => (by have h2' : k.status = 2 := h2; omega), fun _ => hi.nf (by omega)⟩ (.inr (.inl (by show k.status ≠ 2; omega))), ?_, by trivial, by trivial, by show k.status ≤ 2; omega, by simp⟩
        unfold atK; simp [h0]
      · have hph : ¬ k.pos < r.h := fun hlt => hp (h.old _ hlt)
        rw [if_neg (by intro hor; rcases hor with h1 | h1; exact hph h1; exact hp h1), if_neg hp]
        by_cases hf : r.h + r.N ≤ k.pos
        · rw [if_pos hf, if_pos (by omega)]
          refine ⟨h.turn ⟨⟨hi.ok.pos, hi.ok.next, fun h1 => by simp at h1⟩, by simp, fun h2 => by simp at h2, fun h2 => by simp at h2, fun _ => hi.nf (by omega)⟩ (.inr (.inl (by simp))), ?_, by trivial, by trivial, by simp, hn⟩
          unfold atK; simp
        · rw [if_neg hf, if_neg (by omega)]
          refine ⟨h.turn ⟨⟨hi.ok.pos, by simp, fun _ _ => by show k.pos < _; omega⟩, by show k.status ≤ 2; omega, fun h2 => (by have h2' : k.status = 2 := h2; omega), fun h2 => (by have h2' : k.status = 2 := h2; omega), fun _ => hi.nf (by omega)⟩ (.inr (.inl (by show k.status ≠ 2; omega))), ?_, by trivial, by trivial, by show k.status ≤ 2; omega, by simp⟩
          unfold atK; simp [h0]
    · have e : stepK r k = (if k.pos = r.t then r.more else r, if k.pos = r.t then { k with next := 0, status := 2 } else { k with next := 0 }) := by unfold stepK; rw [if_pos h0, if_neg (by omega), if_neg (by omega)]
      have ea : atK k = (2, k.pos) := by unfold atK; rw [if_pos h0, n2]
      rw [e, ea]
      have hT : refT P r.h r.N (2, k.pos) = (if k.pos = r.t then 4 else 0, k.pos) := by
        unfold refT; simp [hl]
      rw [hT]
      by_cases hp : k.pos = r.t
      · rw [if_pos hp, if_pos hp, if_pos hp, if_pos ⟨rfl, by show k.pos = _; omega⟩, if_pos ⟨rfl, by show k.pos = _; omega⟩]
        refine ⟨h.take ok hk (by omega) hp, ?_, rfl, rfl, Nat.le_refl _, by simp⟩
        unfold atK; simp [hi.nf (by omega)]
      · rw [if_neg hp, if_neg hp, if_neg hp, if_neg (fun hh => hp (by have : k.pos = _ := hh.2; omega)), if_neg (fun hh => hp (by have : k.pos = _ := hh.2; omega))]
        refine ⟨h.turn ⟨⟨hi.ok.pos, by simp, fun _ h => by simp at h⟩, by show k.status ≤ 2; omega, fun h2 => (by have h2' : k.status = 2 := h2; omega), fun h2 => (by have h2' : k.status = 2 := h2; omega), fun _ => hi.nf (by omega)⟩ (.inr (.inl (by show k.status ≠ 2; omega))), ?_, rfl, rfl, by show k.status ≤ 2; omega, by simp⟩
        unfold atK; simp [h0]
  · have e := step_end r k h0
    have h1 : (atK k).1 ≠ 0 ∧ (atK k).1 ≠ 1 ∧ (atK k).1 ≠ 2 := by
      unfold atK
      simp only [if_neg h0]
      by_cases h1 : k.status = 1
      · rw [if_pos h1]; omega
      · rw [if_neg h1]; cases k.filled <;> simp
    rw [e, if_neg (fun hh => h1.2.2 hh.1), if_neg (fun hh => h1.2.2 hh.1)]
    refine ⟨?_, ?_, rfl, rfl, hi.st, hi.ok.next⟩
    · exact h.turn hi (.inl hk)
    · unfold refT; rw [if_neg h1.1, if_neg h1.2.1, if_neg h1.2.2]

/-- both publish -/
theorem TieR.fill {r : RS} {ts : List TS} {P : List Bool} {V : List Int} (h : TieR r ts P V) {i : Nat} {k : TS} (hk : ts[i]? = some k) (hs : k.status = 2) (hf : k.filled = false) (v : Int) :
    TieR (r.publish k.pos (.int .i64 v)) (ts.set i { k with filled := true }) (P.set k.pos true) (V.set k.pos v) := by
  have hi := h.ticks i k hk
  have hlt := hi.held hs
  refine ⟨?_, ?_, fun q => ?_, fun q hq => ?_, fun j l hl => ?_, fun a b k' l hne hka hlb s1 f1 s2 f2 => ?_⟩
  · apply List.ext_getElem?
    intro q
    rw [List.getElem?_set, h.p, List.getElem?_map]
    by_cases e : k.pos = q
    · subst e
      rw [if_pos rfl, if_pos (by simpa using hlt), List.getElem?_map, show (r.publish k.pos (.int .i64 v)).t = r.t from rfl, List.getElem?_range hlt]
      simp [RS.publish]
    · rw [if_neg e, List.getElem?_map]
      by_cases hq : q < r.t
      · rw [List.getElem?_range hq, show (r.publish k.pos (.int .i64 v)).t = r.t from rfl, List.getElem?_range hq]
        simp [RS.publish, Ne.symm e]
      · rw [List.getElem?_eq_none (by simp; omega), List.getElem?_eq_none (by show (List.range r.t).length ≤ q; simp; omega)]; rfl
  · rw [List.length_set, h.v]; rfl
  · show (if q = k.pos then Value.int .i64 v else r.val q) = _
    rw [List.getD_eq_getElem?_getD, List.getElem?_set]
    by_cases e : q = k.pos
    · rw [if_pos e, if_pos e.symm, if_pos (by rw [h.v]; exact hlt)]; rfl
    · rw [if_neg e, if_neg (Ne.symm e), h.vals q, List.getD_eq_getElem?_getD]
  · show (if q = k.pos then true else r.pub q) = true
    by_cases e : q = k.pos
    · rw [if_pos e]
    · rw [if_neg e]; exact h.old q hq
  · rcases set_get hl with ⟨rfl, rfl⟩ | ⟨hji, hl⟩
    · exact ⟨⟨hi.ok.pos, hi.ok.next, hi.ok.room⟩, hi.st, hi.held, fun _ h => by simp at h, fun h => absurd hs h⟩
    · have hl' := h.ticks j l hl
      refine ⟨⟨hl'.ok.pos, hl'.ok.next, hl'.ok.room⟩, hl'.st, hl'.held, fun s f => ⟨(hl'.mine s f).1, ?_⟩, hl'.nf⟩
      show (if l.pos = k.pos then true else r.pub l.pos) = false
      rw [if_neg (h.apart j i l k hji hl hk s f hs hf)]; exact (hl'.mine s f).2
  · rcases set_get hka with ⟨rfl, rfl⟩ | ⟨ha, hka'⟩
    · simp at f1
    · rcases set_get hlb with ⟨rfl, rfl⟩ | ⟨hb, hlb'⟩
      · simp at f2
      · exact h.apart a b k' l hne hka' hlb' s1 f1 s2 f2
/-- both pop -/
theorem TieR.pop {r : RS} {ts : List TS} {P : List Bool} {V : List Int} (h : TieR r ts P V) (hr : r.ready = true) : TieR r.pop ts P V := by
  refine ⟨h.p, h.v, h.vals, fun q hq => ?_, fun j l hl => ?_, h.apart⟩
  · have hq' : q < r.h + 1 := hq
    by_cases e : q = r.h
    · subst e; exact hr
    · exact h.old q (by omega)
  · have hl' := h.ticks j l hl
    refine ⟨⟨hl'.ok.pos, hl'.ok.next, fun a b => ?_⟩, hl'.st, hl'.held, fun s f => ?_, hl'.nf⟩
    · have := hl'.ok.room a b; show l.pos < r.h + 1 + r.N; omega
    · obtain ⟨h1, h2⟩ := hl'.mine s f
      refine ⟨?_, h2⟩
      show r.h + 1 ≤ l.pos
      have : l.pos ≠ r.h := fun e => by rw [e] at h2; unfold RS.ready at hr; rw [hr] at h2; cases h2
      omega
end Go.Proofs.Ytegkijlgbkedmaa
