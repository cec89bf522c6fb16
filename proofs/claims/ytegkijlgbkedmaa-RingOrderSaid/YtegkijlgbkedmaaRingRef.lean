/-
  What stands here: what the document's ring of layer 4 holds, and what its functions do with it. Under no condition but that it holds it.
-/
import Derived.Test.YtegkijlgbkedmaaOwn
import Derived.Test.YtegkijlgbkedmaaTextLast
namespace Go.Proofs.Ytegkijlgbkedmaa
set_option linter.unusedVariables false
set_option linter.unusedSimpArgs false
open Go.RowKit Go.Proofs

/-- the cells of tickets -/
def flatK (K : List (Nat × Nat)) : List Value := K.flatMap fun k => [.int .i64 k.1, .int .i64 k.2]
theorem flatK_len (K : List (Nat × Nat)) : (flatK K).length = K.length * 2 := by
  induction K with
  | nil => rfl
  | cons k K ih => simp only [flatK, List.flatMap_cons, List.length_append, List.length_cons, List.length_nil] at *; omega
theorem flatK_at (K : List (Nat × Nat)) : ∀ {i : Nat} {k : Nat × Nat}, K[i]? = some k → (flatK K)[i * 2]? = some (.int .i64 k.1) ∧ (flatK K)[i * 2 + 1]? = some (.int .i64 k.2) := by
  induction K with
  | nil => intro i k h; simp at h
  | cons a K ih =>
    intro i k h
    cases i with
    | zero => simp at h; subst h; exact ⟨rfl, rfl⟩
    | succ i =>
      have := ih (i := i) (k := k) (by simpa using h)
      rw [show (i + 1) * 2 = i * 2 + 2 by omega]
      simpa [flatK] using this
theorem flatK_set (K : List (Nat × Nat)) : ∀ (i : Nat) (k : Nat × Nat), flatK (K.set i k) = ((flatK K).set (i * 2) (.int .i64 k.1)).set (i * 2 + 1) (.int .i64 k.2) := by
  induction K with
  | nil => intro i k; simp [flatK]
  | cons a K ih =>
    intro i k
    cases i with
    | zero => simp [flatK]
    | succ i =>
      rw [show (i + 1) * 2 = i * 2 + 2 by omega]
      have := ih i k
      simpa [flatK] using this
theorem flatK_snoc (K : List (Nat × Nat)) (k : Nat × Nat) : flatK (K ++ [k]) = flatK K ++ [.int .i64 k.1, .int .i64 k.2] := by simp [flatK]

/-- the document's ring: its block has the colour 2, its rows have 3, 4 and 5 -/
def RefI (col : Nat → Nat) (wb : Nat) (N : Int) (P : List Bool) (V : List Int) (h : Nat) (K : List (Nat × Nat)) (W : World) : Prop :=
  col wb = 2 ∧ ∃ pv vv tv, Blk W wb #[.int .i64 N, pv, vv, .int .i64 h, tv] 33 ∧ Owns col 3 W 4 1 pv P.length (P.map .bool) ∧ Owns col 4 W 3 1 vv V.length (V.map (.int .i64)) ∧ Owns col 5 W 40 2 tv K.length (flatK K)
theorem RefI.kept {col : Nat → Nat} {wb h : Nat} {N : Int} {P : List Bool} {V : List Int} {K : List (Nat × Nat)} {W W' : World} {S : Nat → Prop} (r : RefI col wb N P V h K W) (k : Kept S W W') (hS : ∀ x, x < W.heap.size → 2 ≤ col x → col x ≤ 5 → ¬ S x) : RefI col wb N P V h K W' := by
  obtain ⟨h2, pv, vv, tv, hb, hp, hv, ht⟩ := r
  exact ⟨h2, pv, vv, tv, hb.kept k (hS wb hb.lt (by omega) (by omega)), hp.kept k (fun x h1 h2 => hS x h1 (by omega) (by omega)), hv.kept k (fun x h1 h2 => hS x h1 (by omega) (by omega)), ht.kept k (fun x h1 h2 => hS x h1 (by omega) (by omega))⟩
theorem RefI.recol {col col' : Nat → Nat} {wb h : Nat} {N : Int} {P : List Bool} {V : List Int} {K : List (Nat × Nat)} {W : World} (r : RefI col wb N P V h K W) (k : Recol W.heap.size col col') : RefI col' wb N P V h K W := by
  obtain ⟨h2, pv, vv, tv, hb, hp, hv, ht⟩ := r
  exact ⟨(k wb hb.lt).trans h2, pv, vv, tv, hb, hp.recol k, hv.recol k, ht.recol k⟩
theorem RefI.drew {col : Nat → Nat} {wb h : Nat} {N : Int} {P : List Bool} {V : List Int} {K : List (Nat × Nat)} {W : World} (r : RefI col wb N P V h K W) : RefI col wb N P V h K W.drew := r.kept ((still_refl W).drew) (fun _ _ _ _ f => f)
/-- blocks of the document's ring -/
abbrev RefS (col : Nat → Nat) (x : Nat) : Prop := 2 ≤ col x ∧ col x ≤ 5

set_option maxHeartbeats 1000000 in
theorem refready_any {col : Nat → Nat} {wb h : Nat} {N : Int} {P : List Bool} {V : List Int} {K : List (Nat × Nat)} (w : World) (r : RefI col wb N P V h K w) (hh : h < 1000000000000) (hP : P.length < 1000000000000) :
    Calls Try.prog 19 #[.pointer (some ⟨wb, 0, none⟩)] w fun e w' => e = .returned (.bool (P.getD h false)) ∧ Still w w' := by
  obtain ⟨h2, pv, vv, tv, hb, hp, hv, ht⟩ := r
  obtain ⟨a, cap, rfl, hl, hm⟩ := hp.form
  obtain ⟨L, hL⟩ : ∃ L, L = P.length := ⟨_, rfl⟩
  rw [← hL] at hl hp hb hP
  have c1 := hb.cell 1
  have c3 := hb.cell 3
  have HB := Lib.hid hb
  have HL := Lib.hid hL
  have HP := Lib.hid hp
  clear hb hL hp ht hv
  by_cases hlt : h < L
  · obtain ⟨g, cur, rfl, hg, hbk, -, -, -, -, hx⟩ := HP.out.at_ (by omega)
    have c := (hbk.cell h).trans (hx h (by omega))
    rw [List.getElem?_map, List.getElem?_eq_getElem (by rw [← HL.out]; exact hlt)] at c
    have HC : Hid (P.getD h false = P[h]'(by rw [← HL.out]; exact hlt)) := Lib.hid (by rw [List.getD_eq_getElem?_getD, List.getElem?_eq_getElem (by rw [← HL.out]; exact hlt)]; rfl)
    rw [HC.out]
    have hcc : w.cell? ⟨g, h, none⟩ = some (.bool (P[h]'(by rw [← HL.out]; exact hlt))) := c
    generalize P[h]'(by rw [← HL.out]; exact hlt) = y at *
    clear c hx
    go_enter Try.func19, Try.ntmps19
    go_wp2_with fail
    go_quiet (fail)
    go_wp2_with fail
    go_ret
    exact ⟨rfl, (still_refl w).drewN _⟩
  · have HC : Hid (P.getD h false = false) := Lib.hid (by rw [List.getD_eq_getElem?_getD, List.getElem?_eq_none (by rw [← HL.out]; omega)]; rfl)
    rw [HC.out]
    go_enter Try.func19, Try.ntmps19
    go_wp2_with fail
    go_quiet (fail)
    go_wp2_with fail
    go_ret
    exact ⟨rfl, (still_refl w).drewN _⟩

set_option maxRecDepth 100000 in
set_option maxHeartbeats 1000000 in
theorem refpop_any {col : Nat → Nat} {wb h : Nat} {N : Int} {P : List Bool} {V : List Int} {K : List (Nat × Nat)} (w : World) (r : RefI col wb N P V h K w) (hh : h < 1000000000000) (hP : P.length < 1000000000000) (hV : V.length = P.length) :
    Calls Try.prog 16 #[.pointer (some ⟨wb, 0, none⟩)] w fun e w' => e = .returned (.tuple #[.int .i64 (if P.getD h false then V.getD h 0 else 0), .bool (P.getD h false)]) ∧ RefI col wb N P V (if P.getD h false then h + 1 else h) K w' ∧ Kept (RefS col) w w' := by
  have hr := refready_any w r hh hP
  obtain ⟨y, hy⟩ : ∃ y, y = P.getD h false := ⟨_, rfl⟩
  rw [← hy] at hr ⊢
  have HR := Lib.hid hr
  clear hr
  cases y
  · simp only [Bool.false_eq_true, if_false]
    clear hV hy
    go_enter Try.func16, Try.ntmps16
    go_wp2_with fail
    refine HR.out.mono ?_
    rintro e w1 ⟨rfl, k1⟩
    go_wp2_with fail
    go_ret2
    exact ⟨rfl, r.kept k1 (fun _ _ _ _ f => f), k1.mono (fun _ _ f => f.elim)⟩
  · have hlt : h < P.length := by
      rcases Nat.lt_or_ge h P.length with h1 | h1
      · exact h1
      · rw [List.getD_eq_getElem?_getD, List.getElem?_eq_none h1] at hy; cases hy
    obtain ⟨x, hx⟩ : ∃ x, V[h]? = some x := ⟨_, List.getElem?_eq_getElem (by omega)⟩
    have hD : V.getD h 0 = x := by rw [List.getD_eq_getElem?_getD, hx]; rfl
    have HX := Lib.hid hx
    have HV := Lib.hid hV
    rw [hD]
    clear hD hx hV hy
    go_enter Try.func16, Try.ntmps16
    go_wp2_with fail
    refine HR.out.mono ?_
    rintro e w1 ⟨rfl, k1⟩
    have r1 := r.kept k1 (fun _ _ _ _ f => f)
    have k1' : Kept (RefS col) w w1 := k1.mono (fun _ _ f => f.elim)
    clear k1
    obtain ⟨h2, pv, vv, tv, hb, hp, hv, ht⟩ := r1
    obtain ⟨g, cap, cur, rfl, hg, hbg, hn, hm, hin, hcell, -⟩ := owns_one hv (i := h) (x := .int .i64 x) (by rw [List.getElem?_map, HX.out]; rfl)
    have c3 := hb.cell 3
    have f3 := hb.free 3
    have hne : g ≠ wb := by intro e; rw [e] at hg; omega
    have hb' := hb.set 3 (.int .i64 ((h : Int) + 1))
    have e2 := hb'.cell 2
    have e3 := hb'.cell 3
    have hbg' := hbg.other (a := ⟨wb, 3, none⟩) hne (.int .i64 ((h : Int) + 1))
    have eg := (hbg'.cell h).trans ((hbg.cell h).symm.trans hcell)
    have HF : Hid (RefI col wb N P V (h + 1) K (w1.setCell ⟨wb, 3, none⟩ (.int .i64 ((h : Int) + 1)))) := Lib.hid ⟨h2, pv, _, tv, hb'.cast (by simp), hp.set_other (by show col wb ≠ 3; omega) _, hv.set_other (by show col wb ≠ 4; omega) _, ht.set_other (by show col wb ≠ 5; omega) _⟩
    have HK : Hid (Kept (RefS col) w (w1.setCell ⟨wb, 3, none⟩ (.int .i64 ((h : Int) + 1)))) := Lib.hid (k1'.setCell (fun _ => ⟨Nat.le_of_eq h2.symm, by show col wb ≤ 5; omega⟩) _)
    obtain ⟨L, hL⟩ : ∃ L, L = V.length := ⟨_, rfl⟩
    rw [← hL] at hin c3 e2 e3
    clear hb' hb hbg hbg' hv ht hp hL hlt k1'
    go_wp2_with fail
    go_quiet (fail)
    go_wp2_with fail
    go_ret2
    exact ⟨rfl, HF.out, HK.out.drewN _⟩

theorem set_same {c : Array Value} {j : Nat} {x : Value} (h : c[j]? = some x) : c.setIfInBounds j x = c := by
  apply Array.ext_getElem?
  intro i
  by_cases e : i = j
  · subst e; rw [cell_set h, h]
  · rw [Array.getElem?_setIfInBounds_ne (Ne.symm e)]
theorem tick_cells {col : Nat → Nat} {w : World} {v : Value} {T : TypeId} {K : List (Nat × Nat)} (h : Owns col 5 w T 2 v K.length (flatK K)) {i : Nat} {t : Nat × Nat} (hx : K[i]? = some t) :
    ∃ g cap cur, v = .slice (some ⟨g, 0, none⟩) K.length cap ∧ col g = 5 ∧ Blk w g cur T ∧ K.length ≤ cap ∧ cap ≤ maxLen ∧ i < K.length ∧ i * 2 + 2 ≤ cur.size ∧ w.cell? ⟨g, i * 2, none⟩ = some (.int .i64 t.1) ∧ w.cell? ⟨g, i * 2 + 1, none⟩ = some (.int .i64 t.2) ∧
      (∀ w' t', Blk w' g ((cur.setIfInBounds (i * 2) (.int .i64 (t'.1 : Nat))).setIfInBounds (i * 2 + 1) (.int .i64 (t'.2 : Nat))) T → Owns col 5 w' T 2 v (K.set i t').length (flatK (K.set i t'))) ∧
      ∀ w' (a' : Nat), Blk w' g (cur.setIfInBounds (i * 2) (.int .i64 a')) T → Owns col 5 w' T 2 v (K.set i (a', t.2)).length (flatK (K.set i (a', t.2))) := by
  have hi : i < K.length := (List.getElem?_eq_some_iff.1 hx).1
  obtain ⟨a, cap, rfl, hn, hm⟩ := h.form
  obtain ⟨g, cur, rfl, hc, hb, hs, -, -, hlx, hcx⟩ := h.at_ (by omega)
  obtain ⟨f1, f2⟩ := flatK_at K hx
  suffices hmain : ∀ w' t', Blk w' g ((cur.setIfInBounds (i * 2) (.int .i64 (t'.1 : Nat))).setIfInBounds (i * 2 + 1) (.int .i64 (t'.2 : Nat))) T → Owns col 5 w' T 2 (.slice (some ⟨g, 0, none⟩) K.length cap) (K.set i t').length (flatK (K.set i t')) from
    ⟨g, cap, cur, rfl, hc, hb, hn, hm, hi, by omega, (hb.cell _).trans ((hcx _ (by omega)).trans f1), (hb.cell _).trans ((hcx _ (by omega)).trans f2), hmain, fun w' a' hb' => hmain w' (a', t.2) (by
      rw [set_same (by rw [Array.getElem?_setIfInBounds_ne (by omega), hcx _ (by omega), f2])]; exact hb')⟩
  intro w' t' hb'
  rw [List.length_set]
  refine Owns.mk hc hb' (by simpa using hs) hn hm (by rw [flatK_len, List.length_set]) fun j hj => ?_
  rw [flatK_set]
  by_cases e1 : j = i * 2 + 1
  · subst e1
    rw [List.getElem?_set_self (by rw [List.length_set, flatK_len]; omega)]
    exact cell_set (y := .int .i64 t.2) (by rw [Array.getElem?_setIfInBounds_ne (by omega), hcx _ (by omega), f2])
  · rw [List.getElem?_set_ne (Ne.symm e1), Array.getElem?_setIfInBounds_ne (Ne.symm e1)]
    by_cases e2 : j = i * 2
    · subst e2
      rw [List.getElem?_set_self (by rw [flatK_len]; omega)]
      exact cell_set (y := .int .i64 t.1) (by rw [hcx _ (by omega), f1])
    · rw [List.getElem?_set_ne (Ne.symm e2), Array.getElem?_setIfInBounds_ne (Ne.symm e2)]; exact hcx j hj

set_option maxRecDepth 100000 in
set_option maxHeartbeats 1000000 in
theorem reffill_no {col : Nat → Nat} {wb h : Nat} {N : Int} {P : List Bool} {V : List Int} {K : List (Nat × Nat)} (w : World) (r : RefI col wb N P V h K w) (k : Nat) (a p : Nat) (v : Int) (hk : K[k]? = some (a, p)) (ha : a ≠ 4) (ha9 : a < 9) :
    Calls Try.prog 14 #[.pointer (some ⟨wb, 0, none⟩), .int .i64 k, .int .i64 v] w fun e w' => e = .returned (.bool false) ∧ w = w' := by
  obtain ⟨h2, pv, vv, tv, hb, hp, hv, ht⟩ := r
  obtain ⟨g, cap, cur, rfl, hg, hbg, hn, hm, hin, hcs, e0, e1, -, -⟩ := tick_cells ht hk
  have c4 := hb.cell 4
  obtain ⟨L, hL⟩ : ∃ L, L = K.length := ⟨_, rfl⟩
  rw [← hL] at hin c4
  clear hb hbg ht hp hv hL hk
  go_enter Try.func14, Try.ntmps14
  go_wp2_with fail
  go_ret
  exact ⟨rfl, rfl⟩

set_option maxRecDepth 100000 in
set_option maxHeartbeats 1000000 in
theorem reffill_any {col : Nat → Nat} {wb h : Nat} {N : Int} {P : List Bool} {V : List Int} {K : List (Nat × Nat)} (w : World) (r : RefI col wb N P V h K w) (k : Nat) (p : Nat) (v : Int) (hk : K[k]? = some (4, p)) (hp : p < P.length) (hV : V.length = P.length) (hP : P.length < 1000000000000) :
    Calls Try.prog 14 #[.pointer (some ⟨wb, 0, none⟩), .int .i64 k, .int .i64 v] w fun e w' => e = .returned (.bool true) ∧ RefI col wb N (P.set p true) (V.set p v) h (K.set k (5, p)) w' ∧ Kept (RefS col) w w' := by
  obtain ⟨h2, pv, vv, tv, hb, hpo, hvo, hto⟩ := r
  obtain ⟨g, cap, cur, rfl, hg, hbg, hn, hm, hin, hcs, e0, e1, -, hset⟩ := tick_cells hto hk
  obtain ⟨gp, capp, curp, rfl, hgp, hbp, hnp, hmp, hinp, ep, hsetp⟩ := owns_one hpo (i := p) (x := .bool P[p]) (by simp [hp])
  obtain ⟨gv, capv, curv, rfl, hgv, hbv, hnv, hmv, hinv, ev, hsetv⟩ := owns_one hvo (i := p) (x := .int .i64 (V[p]'(by omega))) (by rw [List.getElem?_map, List.getElem?_eq_getElem (by omega)]; rfl)
  have c4 := hb.cell 4
  have c1 := hb.cell 1
  have c2 := hb.cell 2
  have fg := hbg.free (k * 2)
  have fp := hbp.free p
  have fv := hbv.free p
  have n1 : g ≠ wb := by intro e; rw [e] at hg; omega
  have n2 : gp ≠ wb := by intro e; rw [e] at hgp; omega
  have n3 : gv ≠ wb := by intro e; rw [e] at hgv; omega
  have n4 : g ≠ gp := by intro e; rw [e] at hg; omega
  have n5 : g ≠ gv := by intro e; rw [e] at hg; omega
  have n6 : gp ≠ gv := by intro e; rw [e] at hgp; omega
  obtain ⟨L, hL⟩ : ∃ L, L = K.length := ⟨_, rfl⟩
  obtain ⟨M, hM⟩ : ∃ M, M = P.length := ⟨_, rfl⟩
  rw [hV, ← hM] at hinv c2
  rw [← hL] at hin c4
  rw [← hM] at c1 hinp
  go_enter Try.func14, Try.ntmps14
  go_wp2_with fail
  go_region
  go_wp2_with fail
  go_region
  go_wp2_with fail
  go_ret
  refine ⟨rfl, ⟨h2, .slice (some ⟨gp, 0, none⟩) M capp, .slice (some ⟨gv, 0, none⟩) M capv, .slice (some ⟨g, 0, none⟩) L cap, ?_, ?_, ?_, ?_⟩, ?_⟩
  · exact (((hb.other (a := ⟨g, k * 2, none⟩) (Ne.symm n1) _).drewN 1).other (a := ⟨gp, p, none⟩) (Ne.symm n2) _ |>.drewN 1).other (a := ⟨gv, p, none⟩) (Ne.symm n3) _ |>.cast (by rw [← hL, hV, ← hM])
  · rw [List.length_set, List.map_set, ← hM]
    refine Owns.still ?_ ((still_refl _).drew.drew)
    exact (owns_put (hM ▸ hpo.set_other (a := ⟨g, k * 2, none⟩) (by show col g ≠ 3; omega) _) hinp _).set_other (a := ⟨gv, p, none⟩) (by show col gv ≠ 3; omega) _
  · rw [List.length_set, List.map_set, hV, ← hM]
    refine Owns.still ?_ ((still_refl _).drew.drew)
    exact owns_put (hM ▸ hV ▸ (hvo.set_other (a := ⟨g, k * 2, none⟩) (by show col g ≠ 4; omega) _).set_other (a := ⟨gp, p, none⟩) (by show col gp ≠ 4; omega) _) hinv _
  · rw [hL]
    refine Owns.still ?_ ((still_refl _).drew.drew)
    exact ((hset _ 5 (hbg.set _ _)).set_other (a := ⟨gp, p, none⟩) (by show col gp ≠ 5; omega) _).set_other (a := ⟨gv, p, none⟩) (by show col gv ≠ 5; omega) _
  · exact (((((Kept.refl _ w).setCell (p := ⟨g, k * 2, none⟩) (fun _ => ⟨by show 2 ≤ col g; omega, by show col g ≤ 5; omega⟩) _).drewN 1).setCell (p := ⟨gp, p, none⟩) (fun _ => ⟨by show 2 ≤ col gp; omega, by show col gp ≤ 5; omega⟩) _).drewN 1).setCell (p := ⟨gv, p, none⟩) (fun _ => ⟨by show 2 ≤ col gv; omega, by show col gv ≤ 5; omega⟩) _

/-- what a ticket's step makes of it -/
def refT (P : List Bool) (h : Nat) (N : Int) (t : Nat × Nat) : Nat × Nat :=
  if t.1 = 0 then (1, P.length) else if t.1 = 1 then (if P.getD t.2 false = true then 0 else if N ≤ (t.2 : Int) - h then 3 else 2, t.2) else if t.1 = 2 then (if t.2 = P.length then 4 else 0, t.2) else t
def refAns (a : Nat) : Int := if a = 3 then 1 else if 3 < a then 2 else 0

/-- the document's ring as a step meets it -/
structure RefOpen (col : Nat → Nat) (wb g h cap cp k : Nat) (N : Int) (ap : Option Addr) (pl kl : Nat) (vv : Value) (P : List Bool) (V : List Int) (K : List (Nat × Nat)) (t : Nat × Nat) (w : World) : Prop where
  c0 : w.cell? ⟨wb, 0, none⟩ = some (.int .i64 N)
  c1 : w.cell? ⟨wb, 1, none⟩ = some (.slice ap pl cp)
  c3 : w.cell? ⟨wb, 3, none⟩ = some (.int .i64 h)
  c4 : w.cell? ⟨wb, 4, none⟩ = some (.slice (some ⟨g, 0, none⟩) kl cap)
  e0 : w.cell? ⟨g, k * 2, none⟩ = some (.int .i64 t.1)
  e1 : w.cell? ⟨g, k * 2 + 1, none⟩ = some (.int .i64 t.2)
  n1 : g ≠ wb
  fg : w.frozen? ⟨g, k * 2, none⟩ = false
  fg1 : w.frozen? ⟨g, k * 2 + 1, none⟩ = false
  gl : g < w.heap.size
  wl : wb < w.heap.size
  plE : pl = P.length
  klE : kl = K.length
  hk : k < kl
  set : ∀ (W : World), Still w W → ∀ (a' p' : Nat) (x y : Int), x = a' → y = p' → RefI col wb N P V h (K.set k (a', p')) ((W.setCell ⟨g, k * 2, none⟩ (.int .i64 x)).setCell ⟨g, k * 2 + 1, none⟩ (.int .i64 y)) ∧ Kept (RefS col) w ((W.setCell ⟨g, k * 2, none⟩ (.int .i64 x)).setCell ⟨g, k * 2 + 1, none⟩ (.int .i64 y))
theorem ref_open {col : Nat → Nat} {wb h : Nat} {N : Int} {P : List Bool} {V : List Int} {K : List (Nat × Nat)} {w : World} (r : RefI col wb N P V h K w) {k : Nat} {t : Nat × Nat} (hk : K[k]? = some t) :
    ∃ g cap cp ap pl kl vv, RefOpen col wb g h cap cp k N ap pl kl vv P V K t w ∧ ∀ q, q < P.length → ∃ b, ap = some ⟨b, 0, none⟩ ∧ b < w.heap.size ∧ b ≠ g ∧ w.cell? ⟨b, q, none⟩ = some (.bool (P.getD q false)) := by
  obtain ⟨h2, pv, vv, tv, hb, hpo, hvo, hto⟩ := r
  obtain ⟨g, cap, cur, rfl, hg, hbg, hn, hm, hin, hcs, e0, e1, hset, -⟩ := tick_cells hto hk
  obtain ⟨ap, cp, rfl, hpl, hpm⟩ := hpo.form
  have n1 : g ≠ wb := by intro e; rw [e] at hg; omega
  refine ⟨g, cap, cp, ap, P.length, K.length, vv, ⟨hb.cell 0, hb.cell 1, hb.cell 3, hb.cell 4, e0, e1, n1, hbg.free _, hbg.free _, hbg.lt, hb.lt, rfl, rfl, hin, fun W hW a' p' x y hx hy => hx ▸ hy ▸ ⟨⟨h2, _, _, _, ((hb.still hW).other (a := ⟨g, k * 2, none⟩) (Ne.symm n1) _).other (a := ⟨g, k * 2 + 1, none⟩) (Ne.symm n1) _, ?_, ?_, ?_⟩, ?_⟩⟩, fun q hq => ?_⟩
  · exact ((hpo.still hW).set_other (a := ⟨g, k * 2, none⟩) (by show col g ≠ 3; omega) _).set_other (a := ⟨g, k * 2 + 1, none⟩) (by show col g ≠ 3; omega) _
  · exact ((hvo.still hW).set_other (a := ⟨g, k * 2, none⟩) (by show col g ≠ 4; omega) _).set_other (a := ⟨g, k * 2 + 1, none⟩) (by show col g ≠ 4; omega) _
  · have := hset _ (a', p') (((hbg.still hW).set (k * 2) (.int .i64 a')).set (k * 2 + 1) (.int .i64 p'))
    rw [List.length_set] at this ⊢
    exact this
  · exact ((hW.mono (fun _ _ f => f.elim)).setCell (p := ⟨g, k * 2, none⟩) (fun _ => ⟨by show 2 ≤ col g; omega, by show col g ≤ 5; omega⟩) _).setCell (p := ⟨g, k * 2 + 1, none⟩) (fun _ => ⟨by show 2 ≤ col g; omega, by show col g ≤ 5; omega⟩) _
  · obtain ⟨b, cu, rfl, hcb, hbb, -, -, -, -, hx⟩ := hpo.at_ (by omega)
    refine ⟨b, rfl, hbb.lt, by intro e; rw [e] at hcb; omega, (hbb.cell q).trans ((hx q (by omega)).trans ?_)⟩
    rw [List.getElem?_map, List.getD_eq_getElem?_getD, List.getElem?_eq_getElem hq]; rfl

set_option maxRecDepth 100000 in
set_option maxHeartbeats 1000000 in
theorem refstep_0 {col : Nat → Nat} {wb h : Nat} {N : Int} {P : List Bool} {V : List Int} {K : List (Nat × Nat)} (w : World) (r : RefI col wb N P V h K w) (k p : Nat) (hk : K[k]? = some (0, p)) (hP : P.length < 1000000000000) :
    Calls Try.prog 12 #[.pointer (some ⟨wb, 0, none⟩), .int .i64 k] w fun e w' => e = .returned (.int .i64 0) ∧ RefI col wb N P V h (K.set k (1, P.length)) w' ∧ Kept (RefS col) w w' := by
  obtain ⟨g, cap, cp, ap, pl, kl, vv, ⟨c0, c1, c3, c4, e0, e1, n1, fg, fg1, hgl, hwl, hpl, hkl, hkk, hset⟩, -⟩ := ref_open r hk
  rw [← hpl] at hP ⊢
  clear hpl hkl hk
  have HS := Lib.hid (fun W hW => hset W hW 1 pl)
  clear hset
  go_enter Try.func12, Try.ntmps12
  go_wp2_with fail
  go_region
  go_wp2_with fail
  go_ret
  have hf := HS.out w (still_refl w) 1 _ rfl rfl
  exact ⟨rfl, hf.1.kept (S := fun _ => False) (by (repeat (first | (with_reducible exact Kept.refl _ _) | (with_reducible refine Kept.drewN ?_ _) | (with_reducible refine Kept.drew ?_) | (with_reducible refine Kept.put ?_ _ _) | (with_reducible refine Kept.alloc ?_ _)))) (fun _ _ _ _ f => f), hf.2.of_still (by (repeat (first | (with_reducible exact Kept.refl _ _) | (with_reducible refine Kept.drewN ?_ _) | (with_reducible refine Kept.drew ?_) | (with_reducible refine Kept.put ?_ _ _) | (with_reducible refine Kept.alloc ?_ _))))⟩

set_option maxRecDepth 100000 in
set_option maxHeartbeats 1000000 in
theorem refstep_end {col : Nat → Nat} {wb h : Nat} {N : Int} {P : List Bool} {V : List Int} {K : List (Nat × Nat)} (w : World) (r : RefI col wb N P V h K w) (k a p : Nat) (hk : K[k]? = some (a, p)) (ha : a = 3 ∨ a = 4 ∨ a = 5) :
    Calls Try.prog 12 #[.pointer (some ⟨wb, 0, none⟩), .int .i64 k] w fun e w' => e = .returned (.int .i64 (refAns a)) ∧ RefI col wb N P V h (K.set k (a, p)) w' ∧ Kept (RefS col) w w' := by
  obtain ⟨g, cap, cp, ap, pl, kl, vv, ⟨c0, c1, c3, c4, e0, e1, n1, fg, fg1, hgl, hwl, hpl, hkl, hkk, hset⟩, -⟩ := ref_open r hk
  clear hpl hkl hk
  have HS := Lib.hid (fun W hW => hset W hW a p)
  clear hset
  rcases ha with rfl | rfl | rfl
  all_goals
    go_enter Try.func12, Try.ntmps12
    go_wp2_with fail
    go_region
    go_wp2_with fail
    go_ret
    have hf := fun x hx => HS.out w (still_refl w) x _ hx rfl
    first
      | (have hf := hf 3 rfl; exact ⟨rfl, hf.1.kept (S := fun _ => False) (by (repeat (first | (with_reducible exact Kept.refl _ _) | (with_reducible refine Kept.drewN ?_ _) | (with_reducible refine Kept.drew ?_) | (with_reducible refine Kept.put ?_ _ _) | (with_reducible refine Kept.alloc ?_ _)))) (fun _ _ _ _ f => f), hf.2.of_still (by (repeat (first | (with_reducible exact Kept.refl _ _) | (with_reducible refine Kept.drewN ?_ _) | (with_reducible refine Kept.drew ?_) | (with_reducible refine Kept.put ?_ _ _) | (with_reducible refine Kept.alloc ?_ _))))⟩)
      | (have hf := hf 4 rfl; exact ⟨rfl, hf.1.kept (S := fun _ => False) (by (repeat (first | (with_reducible exact Kept.refl _ _) | (with_reducible refine Kept.drewN ?_ _) | (with_reducible refine Kept.drew ?_) | (with_reducible refine Kept.put ?_ _ _) | (with_reducible refine Kept.alloc ?_ _)))) (fun _ _ _ _ f => f), hf.2.of_still (by (repeat (first | (with_reducible exact Kept.refl _ _) | (with_reducible refine Kept.drewN ?_ _) | (with_reducible refine Kept.drew ?_) | (with_reducible refine Kept.put ?_ _ _) | (with_reducible refine Kept.alloc ?_ _))))⟩)
      | (have hf := hf 5 rfl; exact ⟨rfl, hf.1.kept (S := fun _ => False) (by (repeat (first | (with_reducible exact Kept.refl _ _) | (with_reducible refine Kept.drewN ?_ _) | (with_reducible refine Kept.drew ?_) | (with_reducible refine Kept.put ?_ _ _) | (with_reducible refine Kept.alloc ?_ _)))) (fun _ _ _ _ f => f), hf.2.of_still (by (repeat (first | (with_reducible exact Kept.refl _ _) | (with_reducible refine Kept.drewN ?_ _) | (with_reducible refine Kept.drew ?_) | (with_reducible refine Kept.put ?_ _ _) | (with_reducible refine Kept.alloc ?_ _))))⟩)

set_option maxRecDepth 100000 in
set_option maxHeartbeats 1000000 in
theorem refstep_1 {col : Nat → Nat} {wb h : Nat} {N : Int} {P : List Bool} {V : List Int} {K : List (Nat × Nat)} (w : World) (r : RefI col wb N P V h K w) (k p : Nat) (hk : K[k]? = some (1, p)) (hP : P.length < 1000000000000) (hp : p < 1000000000000) (hh : h < 1000000000000) (hN : 0 ≤ N ∧ N ≤ 64) :
    Calls Try.prog 12 #[.pointer (some ⟨wb, 0, none⟩), .int .i64 k] w fun e w' => e = .returned (.int .i64 (refAns (refT P h N (1, p)).1)) ∧ RefI col wb N P V h (K.set k (refT P h N (1, p))) w' ∧ Kept (RefS col) w w' := by
  obtain ⟨g, cap, cp, ap, pl, kl, vv, ⟨c0, c1, c3, c4, e0, e1, n1, fg, fg1, hgl, hwl, hpl, hkl, hkk, hset⟩, hq⟩ := ref_open r hk
  simp only [refT, Nat.one_ne_zero, if_false, if_true]
  obtain ⟨y, hy⟩ : ∃ y, y = P.getD p false := ⟨_, rfl⟩
  rw [← hy]
  have hw1 : wrap64 ((p : Int) - h) = (p : Int) - h := wrap64_in _ (by omega) (by omega)
  by_cases hlt : p < pl
  · obtain ⟨b, rfl, hbl, hbg, hcb⟩ := hq p (by omega)
    rw [← hy] at hcb
    clear hq hy hpl hkl hk
    cases y
    · by_cases hN2 : N ≤ (p : Int) - h
      · rw [if_neg (by simp), if_pos hN2]
        have HS := Lib.hid (fun W hW => hset W hW 3 p)
        clear hset
        go_enter Try.func12, Try.ntmps12
        go_wp2_with fail
        go_quiet (fail)
        go_wp2_with fail
        go_quiet (fail)
        go_wp2_with fail
        go_region
        go_wp2_with fail
        go_ret
        exact ⟨rfl, RefI.drew (HS.out _ ((((still_refl w).alloc _).drewN _).setCell (p := ⟨w.heap.size, 0, none⟩) (fun h => absurd h (Nat.lt_irrefl _)) _) _ _ rfl rfl).1, Kept.drew (HS.out _ ((((still_refl w).alloc _).drewN _).setCell (p := ⟨w.heap.size, 0, none⟩) (fun h => absurd h (Nat.lt_irrefl _)) _) _ _ rfl rfl).2⟩
      · rw [if_neg (by simp), if_neg hN2]
        have HS := Lib.hid (fun W hW => hset W hW 2 p)
        clear hset
        go_enter Try.func12, Try.ntmps12
        go_wp2_with fail
        go_quiet (fail)
        go_wp2_with fail
        go_quiet (fail)
        go_wp2_with fail
        go_region
        go_wp2_with fail
        go_ret
        exact ⟨rfl, RefI.drew (HS.out _ ((((still_refl w).alloc _).drewN _).setCell (p := ⟨w.heap.size, 0, none⟩) (fun h => absurd h (Nat.lt_irrefl _)) _) _ _ rfl rfl).1, Kept.drew (HS.out _ ((((still_refl w).alloc _).drewN _).setCell (p := ⟨w.heap.size, 0, none⟩) (fun h => absurd h (Nat.lt_irrefl _)) _) _ _ rfl rfl).2⟩
    · rw [if_pos rfl]
      have HS := Lib.hid (fun W hW => hset W hW 0 p)
      clear hset
      go_enter Try.func12, Try.ntmps12
      go_wp2_with fail
      go_quiet (fail)
      go_wp2_with fail
      go_region
      go_wp2_with fail
      go_ret
      exact ⟨rfl, RefI.drew (HS.out _ ((((still_refl w).alloc _).drewN _).setCell (p := ⟨w.heap.size, 0, none⟩) (fun h => absurd h (Nat.lt_irrefl _)) _) _ _ rfl rfl).1, Kept.drew (HS.out _ ((((still_refl w).alloc _).drewN _).setCell (p := ⟨w.heap.size, 0, none⟩) (fun h => absurd h (Nat.lt_irrefl _)) _) _ _ rfl rfl).2⟩
  · obtain rfl : y = false := by rw [hy, List.getD_eq_getElem?_getD, List.getElem?_eq_none (by omega)]; rfl
    clear hq hy hpl hkl hk
    by_cases hN2 : N ≤ (p : Int) - h
    · rw [if_neg (by simp), if_pos hN2]
      have HS := Lib.hid (fun W hW => hset W hW 3 p)
      clear hset
      go_enter Try.func12, Try.ntmps12
      go_wp2_with fail
      go_quiet (fail)
      go_wp2_with fail
      go_quiet (fail)
      go_wp2_with fail
      go_region
      go_wp2_with fail
      go_ret
      exact ⟨rfl, RefI.drew (HS.out _ ((((still_refl w).alloc _).drewN _).setCell (p := ⟨w.heap.size, 0, none⟩) (fun h => absurd h (Nat.lt_irrefl _)) _) _ _ rfl rfl).1, Kept.drew (HS.out _ ((((still_refl w).alloc _).drewN _).setCell (p := ⟨w.heap.size, 0, none⟩) (fun h => absurd h (Nat.lt_irrefl _)) _) _ _ rfl rfl).2⟩
    · rw [if_neg (by simp), if_neg hN2]
      have HS := Lib.hid (fun W hW => hset W hW 2 p)
      clear hset
      go_enter Try.func12, Try.ntmps12
      go_wp2_with fail
      go_quiet (fail)
      go_wp2_with fail
      go_quiet (fail)
      go_wp2_with fail
      go_region
      go_wp2_with fail
      go_ret
      exact ⟨rfl, RefI.drew (HS.out _ ((((still_refl w).alloc _).drewN _).setCell (p := ⟨w.heap.size, 0, none⟩) (fun h => absurd h (Nat.lt_irrefl _)) _) _ _ rfl rfl).1, Kept.drew (HS.out _ ((((still_refl w).alloc _).drewN _).setCell (p := ⟨w.heap.size, 0, none⟩) (fun h => absurd h (Nat.lt_irrefl _)) _) _ _ rfl rfl).2⟩
end Go.Proofs.Ytegkijlgbkedmaa
