/-
  What stands here: three lists, nodes in a slice, and the document's lists, beside each other. Under no condition.
-/
import Derived.Test.YtdpcgemmbpbpoaaListRef
namespace Go.Proofs.Ytdpcgemmbpbpoaa
set_option linter.unusedVariables false
set_option linter.unusedSimpArgs false
open Go.RowKit Go.Proofs

theorem StayB.stil {ds : List Nat} {w0 w w' : World} (h : StayB ds w0 w) (c : CellsB ds w0) (k : Still w w') : StayB ds w0 w' := fun b hb => by
  have hlt : b < w.heap.size := by
    have h0 := h b hb
    rcases c b hb with ⟨x, t, f, e⟩ | ⟨x, t, e⟩
    · exact lt_of_block (h0.trans e)
    · exact lt_of_block (h0.trans e)
  exact (k.block b hlt (fun f => f)).trans (h b hb)
theorem StayB.ofk {ds : List Nat} {w w' : World} (c : CellsB ds w) (k : Still w w') : StayB ds w w' := StayB.stil (fun _ _ => rfl) c k
theorem still_cell {w w' : World} (k : Still w w') {p : Addr} {v : Value} (h : w.cell? p = some v) : w'.cell? p = some v :=
  (World.cell?_of_block (a := p) (k.block p.block (lt_of_cell h) (fun f => f))).trans h
/-- the nodes of numbers -/
def nodesOf (ns : List Nat) (l : List Int) : List Nat := l.map fun z => ns.getD z.toNat 0
theorem nodesOf_len (ns : List Nat) (l : List Int) : (nodesOf ns l).length = l.length := List.length_map ..
theorem nodesOf_app (ns : List Nat) (l m : List Int) : nodesOf ns (l ++ m) = nodesOf ns l ++ nodesOf ns m := List.map_append ..
theorem getD_inj {ns : List Nat} (hn : ns.Nodup) {a b : Nat} (ha : a < ns.length) (hb : b < ns.length) (e : ns.getD a 0 = ns.getD b 0) : a = b := by
  rw [List.getD_eq_getElem?_getD, List.getD_eq_getElem?_getD, List.getElem?_eq_getElem ha, List.getElem?_eq_getElem hb] at e
  have e' : ns[a] = ns[b] := e
  rcases Nat.lt_trichotomy a b with h | h | h
  · exact absurd e' (List.pairwise_iff_getElem.1 hn a b ha hb h)
  · exact h
  · exact absurd e'.symm (List.pairwise_iff_getElem.1 hn b a hb ha h)
theorem nodesOf_erase {ns : List Nat} (hn : ns.Nodup) {n : Nat} (hl : n < ns.length) : ∀ (l : List Int), (∀ z, z ∈ l → 0 ≤ z ∧ z < ns.length) → (nodesOf ns l).Nodup → (nodesOf ns l).erase (ns.getD n 0) = nodesOf ns (wo n l)
  | [], _, _ => rfl
  | z :: l, hd, hnd => by
    have ih := nodesOf_erase hn hl l (fun y hy => hd y (by simp [hy])) (List.nodup_cons.1 hnd).2
    obtain ⟨d1, d2⟩ := hd z (by simp)
    by_cases e : z = n
    · subst e
      have e1 : nodesOf ns ((n : Int) :: l) = ns.getD n 0 :: nodesOf ns l := by unfold nodesOf; rw [List.map_cons, Int.toNat_natCast]
      have hni : (n : Int) ∉ l := fun hm => by
        rw [e1] at hnd
        exact (List.nodup_cons.1 hnd).1 (List.mem_map.2 ⟨n, hm, by rw [Int.toNat_natCast]⟩)
      have e2 : wo n ((n : Int) :: l) = l := by
        unfold wo
        rw [List.filter_cons, if_neg (by simp)]
        exact List.filter_eq_self.2 fun y hy => by simp; rintro rfl; exact hni hy
      rw [e1, List.erase_cons_head, e2]
    · have e1 : nodesOf ns (z :: l) = ns.getD z.toNat 0 :: nodesOf ns l := rfl
      have e2 : wo n (z :: l) = z :: wo n l := by unfold wo; rw [List.filter_cons, if_pos (by simp [e])]
      have hne : ns.getD z.toNat 0 ≠ ns.getD n 0 := fun h9 => e (by have := getD_inj hn (by omega) hl h9; omega)
      rw [e1, List.erase_cons_tail (by simpa using hne), ih, e2]
      rfl
/-- what the lists have is what the document's have -/
structure TieL (lb : Nat → Nat) (s : LS) (ns : List Nat) (L : Nat → List Int) : Prop where
  eq : ∀ j, j < 3 → s.sq (lb j) = nodesOf ns (L j)
  dom : ∀ j, j < 3 → ∀ z, z ∈ L j → 0 ≤ z ∧ z < ns.length
  val : valsOf_i s ns = irow (L 3)
theorem TieL.len {lb : Nat → Nat} {s : LS} {ns : List Nat} {L : Nat → List Int} (h : TieL lb s ns L) : (L 3).length = ns.length := by
  have := congrArg List.length h.val
  simp [valsOf_i, irow] at this
  omega
theorem TieL.lens {lb : Nat → Nat} {s : LS} {ns : List Nat} {L : Nat → List Int} (h : TieL lb s ns L) {j : Nat} (hj : j < 3) : (s.sq (lb j)).length = (L j).length := by rw [h.eq j hj, nodesOf_len]
theorem TieL.mem {lb : Nat → Nat} {s : LS} {ns : List Nat} {L : Nat → List Int} (h : TieL lb s ns L) (hn : ns.Nodup) {j n : Nat} (hj : j < 3) (hl : n < ns.length) : ns.getD n 0 ∈ s.sq (lb j) ↔ (n : Int) ∈ L j := by
  rw [h.eq j hj]
  unfold nodesOf
  rw [List.mem_map]
  constructor
  · rintro ⟨z, hz, e⟩
    obtain ⟨d1, d2⟩ := h.dom j hj z hz
    have := getD_inj hn (by omega) hl e
    rw [show (n : Int) = z by omega]; exact hz
  · intro hz
    exact ⟨n, hz, by rw [Int.toNat_natCast]⟩
theorem TieL.one {lb : Nat → Nat} {s : LS} {ns : List Nat} {L : Nat → List Int} (h : TieL lb s ns L) {x : Nat} (hx : x ∈ ns) : ∃ v, (s.nd x).val = .int .i64 v := by
  have : (s.nd x).val ∈ valsOf_i s ns := List.mem_map.2 ⟨x, hx, rfl⟩
  rw [h.val] at this
  obtain ⟨v, _, hv⟩ := List.mem_map.1 this
  exact ⟨v, hv.symm⟩
theorem TieL.value {lb : Nat → Nat} {s : LS} {ns : List Nat} {L : Nat → List Int} (h : TieL lb s ns L) {n : Nat} (hn : n < ns.length) : (s.nd (ns.getD n 0)).val = .int .i64 ((L 3).getD n 0) ∧ (L 3)[n]? = some ((L 3).getD n 0) := by
  have hl := h.len
  have e := congrArg (fun l => l[n]?) h.val
  simp only [valsOf_i, irow, List.getElem?_map] at e
  rw [List.getElem?_eq_getElem hn, List.getElem?_eq_getElem (by omega)] at e
  rw [List.getD_eq_getElem?_getD, List.getD_eq_getElem?_getD, List.getElem?_eq_getElem hn, List.getElem?_eq_getElem (by omega)]
  exact ⟨by simpa using e, rfl⟩
theorem TieL.inNs {lb : Nat → Nat} {s : LS} {ns : List Nat} {L : Nat → List Int} (h : TieL lb s ns L) {j x : Nat} (hj : j < 3) (hx : x ∈ s.sq (lb j)) : x ∈ ns := by
  rw [h.eq j hj] at hx
  obtain ⟨z, hz, rfl⟩ := List.mem_map.1 hx
  obtain ⟨d1, d2⟩ := h.dom j hj z hz
  rw [List.getD_eq_getElem?_getD, List.getElem?_eq_getElem (by omega)]
  exact List.getElem_mem _
theorem TieL.vals {lb : Nat → Nat} {s : LS} {ns : List Nat} {L : Nat → List Int} (h : TieL lb s ns L) {j : Nat} (hj : j < 3) : valsOf_i s (s.sq (lb j)) = irow (valsAt (L 3) (L j)) := by
  rw [h.eq j hj]
  show ((L j).map _).map _ = ((L j).map _).map _
  rw [List.map_map, List.map_map]
  refine List.map_congr_left fun z hz => ?_
  obtain ⟨d1, d2⟩ := h.dom j hj z hz
  exact (h.value (by omega)).1
/-- a node is at most in one list -/
theorem TieL.once {lb : Nat → Nat} {s : LS} {ns : List Nat} {L : Nat → List Int} (h : TieL lb s ns L) (hn : ns.Nodup) (i : LInv s) (kl : ∀ j, j < 3 → s.kd (lb j) = 1) (inj : ∀ i j, i < 3 → j < 3 → lb i = lb j → i = j) {a b n : Nat} (ha : a < 3) (hb : b < 3) (hl : n < ns.length) (h1 : (n : Int) ∈ L a) (h2 : (n : Int) ∈ L b) : a = b :=
  inj a b ha hb (i.one (kl a ha) (kl b hb) ((h.mem hn ha hl).2 h1) ((h.mem hn hb hl).2 h2))
theorem upd_three {α : Type} (f : Nat → α) {j : Nat} (v : α) (hj : j < 3) : upd f j v 3 = f 3 := upd_ne _ _ (by omega)
theorem TieL.turn {lb : Nat → Nat} {s s' : LS} {ns : List Nat} {L : Nat → List Int} (h : TieL lb s ns L) {j : Nat} {l : List Int} {ys : List Nat} (hj : j < 3) (inj : ∀ i j, i < 3 → j < 3 → lb i = lb j → i = j) (hq : s'.sq = upd s.sq (lb j) ys) (hy : ys = nodesOf ns l) (hd : ∀ z, z ∈ l → 0 ≤ z ∧ z < ns.length) (hv : ∀ x, x ∈ ns → LV s' x = LV s x) : TieL lb s' ns (upd L j l) := by
  refine ⟨fun k hk => ?_, fun k hk z hz => ?_, ?_⟩
  · by_cases e : k = j
    · subst e; rw [hq, upd_same, upd_same, hy]
    · rw [hq, upd_ne _ _ (fun e9 => e (inj k j hk hj e9)), upd_ne _ _ e]; exact h.eq k hk
  · by_cases e : k = j
    · subst e; rw [upd_same] at hz; exact hd z hz
    · rw [upd_ne _ _ e] at hz; exact h.dom k hk z hz
  · rw [upd_three _ _ hj, ← h.val]
    exact List.map_congr_left fun y hy => hv y hy
theorem TieL.put {lb : Nat → Nat} {s s' : LS} {ns : List Nat} {L : Nat → List Int} (h : TieL lb s ns L) {j n : Nat} (hj : j < 3) (hl : n < ns.length) (inj : ∀ i j, i < 3 → j < 3 → lb i = lb j → i = j) (hq : s'.sq = upd s.sq (lb j) (s.sq (lb j) ++ [ns.getD n 0])) (hv : LV s' = LV s) : TieL lb s' ns (upd L j (L j ++ [(n : Int)])) :=
  h.turn hj inj hq (by rw [h.eq j hj, nodesOf_app]; simp [nodesOf]) (fun z hz => by
    rcases List.mem_append.1 hz with h9 | h9
    · exact h.dom j hj z h9
    · rw [List.mem_singleton] at h9; omega) (fun x _ => by rw [hv])
theorem TieL.out {lb : Nat → Nat} {s s' : LS} {ns : List Nat} {L : Nat → List Int} (h : TieL lb s ns L) (hn : ns.Nodup) {j n : Nat} (hj : j < 3) (hl : n < ns.length) (inj : ∀ i j, i < 3 → j < 3 → lb i = lb j → i = j) (hnd : (s.sq (lb j)).Nodup) (hq : s'.sq = upd s.sq (lb j) ((s.sq (lb j)).erase (ns.getD n 0))) (hv : LV s' = LV s) : TieL lb s' ns (upd L j (wo n (L j))) :=
  h.turn hj inj hq (by rw [h.eq j hj] at hnd ⊢; exact nodesOf_erase hn hl _ (h.dom j hj) hnd) (fun z hz => h.dom j hj z (List.mem_filter.1 hz).1) (fun x _ => by rw [hv])
theorem TieL.empty {lb : Nat → Nat} {s s' : LS} {ns : List Nat} {L : Nat → List Int} (h : TieL lb s ns L) {j : Nat} (hj : j < 3) (inj : ∀ i j, i < 3 → j < 3 → lb i = lb j → i = j) (hq : s'.sq = upd s.sq (lb j) []) (hv : LV s' = LV s) : TieL lb s' ns (upd L j []) :=
  h.turn hj inj hq rfl (fun z hz => absurd hz List.not_mem_nil) (fun x _ => by rw [hv])
theorem TieL.join {lb : Nat → Nat} {s s' : LS} {ns : List Nat} {L : Nat → List Int} (h : TieL lb s ns L) {j o : Nat} (hj : j < 3) (ho : o < 3) (hjo : j ≠ o) (inj : ∀ i j, i < 3 → j < 3 → lb i = lb j → i = j) (hq : s'.sq = upd (upd s.sq (lb j) (s.sq (lb j) ++ s.sq (lb o))) (lb o) []) (hv : LV s' = LV s) : TieL lb s' ns (upd (upd L j (L j ++ L o)) o []) := by
  refine ⟨fun k hk => ?_, fun k hk z hz => ?_, ?_⟩
  · by_cases e : k = o
    · subst e; rw [hq, upd_same, upd_same]; rfl
    · rw [hq, upd_ne _ _ (fun e9 => e (inj k o hk ho e9)), upd_ne _ _ e]
      by_cases e : k = j
      · subst e; rw [upd_same, upd_same, h.eq k hk, h.eq o ho, nodesOf_app]
      · rw [upd_ne _ _ (fun e9 => e (inj k j hk hj e9)), upd_ne _ _ e]; exact h.eq k hk
  · by_cases e : k = o
    · subst e; rw [upd_same] at hz; cases hz
    · rw [upd_ne _ _ e] at hz
      by_cases e : k = j
      · subst e; rw [upd_same] at hz
        rcases List.mem_append.1 hz with h9 | h9
        · exact h.dom k hk z h9
        · exact h.dom o ho z h9
      · rw [upd_ne _ _ e] at hz; exact h.dom k hk z hz
  · rw [upd_three _ _ ho, upd_three _ _ hj, ← h.val]
    exact List.map_congr_left fun y hy => by show LV s' y = LV s y; rw [hv]
/-- a new node, at the end of a list -/
theorem TieL.push {lb : Nat → Nat} {s s' : LS} {ns : List Nat} {L : Nat → List Int} (h : TieL lb s ns L) {j x : Nat} {v : Int} (hj : j < 3) (hx : x ∉ ns) (inj : ∀ i j, i < 3 → j < 3 → lb i = lb j → i = j) (hq : s'.sq = upd s.sq (lb j) (s.sq (lb j) ++ [x])) (hv : LV s' = upd (LV s) x (.int .i64 v)) : TieL lb s' (ns ++ [x]) (upd (upd L 3 (L 3 ++ [v])) j (L j ++ [(ns.length : Int)])) := by
  have hold : ∀ (l : List Int), (∀ z, z ∈ l → 0 ≤ z ∧ z < ns.length) → nodesOf (ns ++ [x]) l = nodesOf ns l := fun l hd => List.map_congr_left fun z hz => by
    obtain ⟨d1, d2⟩ := hd z hz
    rw [List.getD_eq_getElem?_getD, List.getD_eq_getElem?_getD, List.getElem?_append_left (by omega)]
  refine ⟨fun k hk => ?_, fun k hk z hz => ?_, ?_⟩
  · by_cases e : k = j
    · subst e; rw [hq, upd_same, upd_same, nodesOf_app, hold _ (h.dom k hk), h.eq k hk]
      simp [nodesOf, List.getD_eq_getElem?_getD]
    · rw [hq, upd_ne _ _ (fun e9 => e (inj k j hk hj e9)), upd_ne _ _ e, upd_ne _ _ (by omega), hold _ (h.dom k hk)]; exact h.eq k hk
  · rw [List.length_append, List.length_singleton]
    by_cases e : k = j
    · subst e; rw [upd_same] at hz
      rcases List.mem_append.1 hz with h9 | h9
      · have := h.dom k hk z h9; omega
      · rw [List.mem_singleton] at h9; omega
    · rw [upd_ne _ _ e, upd_ne _ _ (by omega)] at hz; have := h.dom k hk z hz; omega
  · rw [upd_three _ _ hj, upd_same, irow_snoc, ← h.val]
    show (ns ++ [x]).map (LV s') = ns.map (LV s) ++ [_]
    rw [List.map_append, hv, List.map_singleton, upd_same]
    congr 1
    exact List.map_congr_left fun y hy => upd_ne _ _ (fun e => hx (by rw [← e]; exact hy))
end Go.Proofs.Ytdpcgemmbpbpoaa
