/-
  What stands here: a level, twelve nodes in a slice, and the document's level, beside each other. Under no condition.
-/
import Derived.Test.YtpkjhpfmikamkaaLevelRef
namespace Go.Proofs.Ytpkjhpfmikamkaa
set_option linter.unusedVariables false
set_option linter.unusedSimpArgs false
open Go.RowKit Go.Proofs

/-- a level and nodes, which hold their numbers -/
structure N0 (base v : Nat) (sl : Nat → Nat) (col : Nat → Nat) (s : LS) (nv : Value) (ns : List Nat) (w W : World) : Prop where
  fr : Fr base col w W
  lw : LW_i s W
  lv : LvB_i s v sl W
  lc : ∀ y, s.kd y ≠ 0 → col y = 1
  row : Owns col 2 W 27 1 nv ns.length (ptrs ns)
  nk : ∀ x, x ∈ ns → s.kd x = 2
  nd : ns.Nodup
  val : ∀ (i x : Nat), ns[i]? = some x → LV s x = .int .i64 (i : Int)
  only : ∀ y, (∀ k, k < 64 → y ≠ sl k) → s.sq y = []
section
variable {base v : Nat} {sl : Nat → Nat} {col : Nat → Nat} {s : LS} {nv : Value} {ns : List Nat} {w W : World}
theorem N0.still (h : N0 base v sl col s nv ns w W) {W' : World} (k : Still W W') : N0 base v sl col s nv ns w W' :=
  ⟨h.fr.still k, h.lw.still k, h.lv.still k, h.lc, h.row.still k, h.nk, h.nd, h.val, h.only⟩
theorem N0.other (h : N0 base v sl col s nv ns w W) {W' : World} {S : Nat → Prop} {col' : Nat → Nat} (rc : Recol W.heap.size col col') (k : Kept S W W') (hS : ∀ x, x < W.heap.size → S x → 2 < col x) (hf : Fr base col' w W') : N0 base v sl col' s nv ns w W' := by
  have hv : s.kd v ≠ 0 := by rw [h.lv.kv]; omega
  refine ⟨hf, h.lw.kept k (fun x hx h9 => ?_), h.lv.carry k (fun h9 => ?_) rfl (fun _ _ => rfl) (fun _ _ => rfl), fun y hy => ?_, (h.row.recol rc).kept k (fun x hx e h9 => ?_), h.nk, h.nd, h.val, h.only⟩
  · have h1 := h.lc x hx
    rcases Nat.lt_or_ge x W.heap.size with h8 | h8
    · have := hS x h8 h9; omega
    · exact hx (h.lw.fresh x h8)
  · have h1 := h.lc v hv
    have := hS v h.lv.lt h9; omega
  · rcases Nat.lt_or_ge y W.heap.size with h8 | h8
    · exact (rc y h8).trans (h.lc y hy)
    · exact absurd (h.lw.fresh y h8) hy
  · rw [rc x hx] at e
    have := hS x hx h9; omega
theorem N0.go (h : N0 base v sl col s nv ns w W) {W' : World} {d : Nat} (k : Kept (fun x => col x = d) W W') (hd : 2 < d) : N0 base v sl (ext col W.heap.size d) s nv ns w W' :=
  h.other (recol_ext col _ d) k (fun x _ e => by omega) (h.fr.step (by omega) k)
theorem N0.colK (h : N0 base v sl col s nv ns w W) {W' : World} (k : Kept (fun y => s.kd y = 1 ∨ s.kd y = 2 ∨ y = v) W W') : Kept (fun x => col x = 1) W W' :=
  k.mono fun y _ hy => h.lc y (by
    rcases hy with h9 | h9 | h9
    · omega
    · omega
    · rw [h9, h.lv.kv]; omega)
theorem N0.list (h : N0 base v sl col s nv ns w W) {s' : LS} {W' : World} {j : Nat} {ys : List Nat} (h1 : LW_i s' W') (h2 : LvB_i s' v sl W') (k : Kept (fun y => s.kd y = 1 ∨ s.kd y = 2 ∨ y = v) W W') (hk : s'.kd = s.kd) (hj : j < 64) (hq : s'.sq = upd s.sq (sl j) ys) (hv : LV s' = LV s) : N0 base v sl (ext col W.heap.size 1) s' nv ns w W' := by
  have kk := h.colK k
  refine ⟨h.fr.step (by omega) kk, h1, h2, fun y hy => ?_, h.row.go kk (by omega), fun x hx => by rw [hk]; exact h.nk x hx, h.nd, fun i x hi => by rw [hv]; exact h.val i x hi, fun y hy => by rw [hq, upd_ne _ _ (hy j hj)]; exact h.only y hy⟩
  rw [hk] at hy
  rcases Nat.lt_or_ge y W.heap.size with h8 | h8
  · exact (recol_ext col _ 1 y h8).trans (h.lc y hy)
  · exact ext_new col h8
/-- a node more -/
theorem N0.node (h : N0 base v sl col s nv ns w W) {W' : World} {nv' : Value} {o : Obj} {x : Nat} (hx : W.heap.size = x) (ha : Appended ((W.alloc (.cells #[.int .i64 (ns.length : Int), .pointer none, .pointer none, .pointer none] 30)).alloc o) W' 0 27 1 nv nv' (ns.length + 1) (ptrs ns ++ [.pointer (some ⟨x, 0, none⟩)])) :
    ∃ col', N0 base v sl col' (s.node x (.int .i64 (ns.length : Int))) nv' (ns ++ [x]) w W' := by
  have st := (still_refl W).alloc (.cells #[.int .i64 (ns.length : Int), .pointer none, .pointer none, .pointer none] 30)
  have lw1 := h.lw.node (.int .i64 (ns.length : Int)) hx
  have lv1 := h.lv.node (o := .cells #[.int .i64 (ns.length : Int), .pointer none, .pointer none, .pointer none] 30) h.lw hx (.int .i64 (ns.length : Int))
  have r1 := (h.row.recol (recol_ext col W.heap.size 1)).still st
  have f1 := h.fr.step (c := 1) (by omega) (st.mono (fun _ _ f => f.elim))
  have hc1 : ext col W.heap.size 1 x = 1 := ext_new col (by omega)
  have hlc : ∀ y, (s.node x (.int .i64 (ns.length : Int))).kd y ≠ 0 → ext col W.heap.size 1 y = 1 := fun y hy => by
    rcases Nat.lt_or_ge y W.heap.size with h8 | h8
    · have h9 : upd s.kd x 2 y ≠ 0 := hy
      rw [upd_ne _ _ (by omega)] at h9
      exact (recol_ext col _ 1 y h8).trans (h.lc y h9)
    · exact ext_new col h8
  generalize ext col W.heap.size 1 = c1 at *
  generalize hW1 : W.alloc (.cells #[.int .i64 (ns.length : Int), .pointer none, .pointer none, .pointer none] 30) = W1 at *
  obtain ⟨r2, k2⟩ := r1.app ha
  have hxl : ∀ y, y ∈ ns → y < x := fun y hy => by rw [← hx]; exact (h.lw.nodes y (h.nk y hy)).lt
  refine ⟨_, f1.step (by omega) k2, lw1.kept k2 (fun y hy e => by have := hlc y hy; omega), lv1.carry k2 (fun e => by have := hlc v (by rw [lv1.kv]; omega); omega) rfl (fun _ _ => rfl) (fun _ _ => rfl), fun y hy => ?_, ?_, fun y hy => ?_, ?_, fun i y hi => ?_, h.only⟩
  · rcases Nat.lt_or_ge y W1.heap.size with h8 | h8
    · exact (recol_ext c1 _ 2 y h8).trans (hlc y hy)
    · exact absurd (lw1.fresh y h8) hy
  · rw [List.length_append, show ptrs (ns ++ [x]) = ptrs ns ++ [.pointer (some ⟨x, 0, none⟩)] by simp [ptrs]]; exact r2
  · show upd s.kd x 2 y = 2
    rcases List.mem_append.1 hy with h9 | h9
    · rw [upd_ne _ _ (by have := hxl y h9; omega)]; exact h.nk y h9
    · obtain rfl := List.mem_singleton.1 h9; exact upd_same _ _ _
  · exact List.nodup_append.2 ⟨h.nd, by simp, fun a ha b hb e => by have := hxl a ha; rw [List.mem_singleton] at hb; omega⟩
  · rw [LS.node_val]
    rw [List.getElem?_append] at hi
    split at hi
    · rename_i hlt
      have := hxl y (List.mem_of_getElem? hi)
      rw [upd_ne _ _ (by omega)]; exact h.val i y hi
    · have h9 : i = ns.length ∧ x = y := by
        rcases Nat.eq_zero_or_pos (i - ns.length) with e | e
        · rw [e] at hi; simp at hi; exact ⟨by omega, hi⟩
        · rw [List.getElem?_eq_none (by simp only [List.length_singleton]; omega)] at hi; cases hi
      obtain ⟨rfl, rfl⟩ := h9
      rw [upd_same]
theorem N0.no (h : N0 base v sl col s nv ns w W) {x : Nat} (hx : ∀ k, k < 64 → x ∉ s.sq (sl k)) : ∀ l', s.kd l' = 1 → x ∉ s.sq l' := fun l' _ h2 => by
  by_cases e : ∃ k, k < 64 ∧ l' = sl k
  · obtain ⟨k, hk, rfl⟩ := e
    exact hx k hk h2
  · rw [h.only l' (fun k hk e9 => e ⟨k, hk, e9⟩)] at h2; cases h2
theorem N0.at_ (h : N0 base v sl col s nv ns w W) {i x : Nat} (hi : ns[i]? = some x) : ∃ g cap, nv = .slice (some ⟨g, 0, none⟩) ns.length cap ∧ W.cell? ⟨g, i, none⟩ = some (.pointer (some ⟨x, 0, none⟩)) ∧ g < W.heap.size ∧ col g = 2 ∧ (∃ c, Blk W g c 27) ∧ s.kd x = 2 := by
  obtain ⟨g, cap, cur, e, hc, hb, _, _, _, hcell, _⟩ := owns_one h.row (i := i) (x := .pointer (some ⟨x, 0, none⟩)) (by unfold ptrs; rw [List.getElem?_map, hi]; rfl)
  exact ⟨g, cap, e, hcell, hb.lt, hc, ⟨cur, hb⟩, h.nk x (List.mem_of_getElem? hi)⟩
end
/-- the nodes of numbers -/
def nodesOf (ns : List Nat) (l : List Int) : List Nat := l.map fun z => ns.getD z.toNat 0
/-- what the level has is what the document's has -/
structure TieL (sl : Nat → Nat) (s : LS) (ns : List Nat) (L : Nat → List Int) : Prop where
  eq : ∀ j, j < 64 → s.sq (sl j) = nodesOf ns (L j)
  dom : ∀ j, j < 64 → ∀ z, z ∈ L j → 0 ≤ z ∧ z < ns.length
theorem getD_inj {ns : List Nat} (hn : ns.Nodup) {a b : Nat} (ha : a < ns.length) (hb : b < ns.length) (e : ns.getD a 0 = ns.getD b 0) : a = b := by
  rw [List.getD_eq_getElem?_getD, List.getD_eq_getElem?_getD, List.getElem?_eq_getElem ha, List.getElem?_eq_getElem hb] at e
  have e' : ns[a] = ns[b] := e
  rcases Nat.lt_trichotomy a b with h | h | h
  · exact absurd e' (List.pairwise_iff_getElem.1 hn a b ha hb h)
  · exact h
  · exact absurd e'.symm (List.pairwise_iff_getElem.1 hn b a hb ha h)
theorem TieL.mem {sl : Nat → Nat} {s : LS} {ns : List Nat} {L : Nat → List Int} (h : TieL sl s ns L) (hn : ns.Nodup) {j n : Nat} (hj : j < 64) (hl : n < ns.length) : ns.getD n 0 ∈ s.sq (sl j) ↔ (n : Int) ∈ L j := by
  rw [h.eq j hj]
  unfold nodesOf
  rw [List.mem_map]
  constructor
  · rintro ⟨z, hz, e⟩
    obtain ⟨d1, d2⟩ := h.dom j hj z hz
    have := getD_inj hn (by omega) hl e
    rw [show (n : Int) = z by omega]; exact hz
  · intro hz
    exact ⟨n, hz, by rw [Int.toNat_natCast]⟩
theorem nodesOf_erase {ns : List Nat} (hn : ns.Nodup) {n : Nat} (hl : n < ns.length) : ∀ (l : List Int), (∀ z, z ∈ l → 0 ≤ z ∧ z < ns.length) → (nodesOf ns l).Nodup → (nodesOf ns l).erase (ns.getD n 0) = nodesOf ns (wo n l)
  | [], _, _ => rfl
  | z :: l, hd, hnd => by
    have ih := nodesOf_erase hn hl l (fun y hy => hd y (by simp [hy])) (List.nodup_cons.1 hnd).2
    obtain ⟨d1, d2⟩ := hd z (by simp)
    by_cases e : z = n
    · subst e
      have e1 : nodesOf ns ((n : Int) :: l) = ns.getD n 0 :: nodesOf ns l := by unfold nodesOf; rw [List.map_cons, Int.toNat_natCast]
      have hni : (n : Int) ∉ l := fun hm => by
        rw [e1] at hnd
        exact (List.nodup_cons.1 hnd).1 (List.mem_map.2 ⟨n, hm, by rw [Int.toNat_natCast]⟩)
      have e2 : wo n ((n : Int) :: l) = l := by
        unfold wo
        rw [List.filter_cons, if_neg (by simp)]
        exact List.filter_eq_self.2 fun y hy => by simp; rintro rfl; exact hni hy
      rw [e1, List.erase_cons_head, e2]
    · have e1 : nodesOf ns (z :: l) = ns.getD z.toNat 0 :: nodesOf ns l := rfl
      have e2 : wo n (z :: l) = z :: wo n l := by unfold wo; rw [List.filter_cons, if_pos (by simp [e])]
      have hne : ns.getD z.toNat 0 ≠ ns.getD n 0 := fun h9 => e (by have := getD_inj hn (by omega) hl h9; omega)
      rw [e1, List.erase_cons_tail (by simpa using hne), ih, e2]
      rfl
theorem nodesOf_len (ns : List Nat) (l : List Int) : (nodesOf ns l).length = l.length := List.length_map ..
theorem TieL.lens {sl : Nat → Nat} {s : LS} {ns : List Nat} {L : Nat → List Int} (h : TieL sl s ns L) : tot (fun k => (s.sq (sl k)).length) = tot (fun k => (L k).length) := tot_congr fun k hk => by rw [h.eq k hk, nodesOf_len]
theorem TieL.put {sl : Nat → Nat} {s s' : LS} {ns : List Nat} {L : Nat → List Int} (h : TieL sl s ns L) {j n : Nat} (hj : j < 64) (hl : n < ns.length) (inj : ∀ k k', k < 64 → k' < 64 → sl k = sl k' → k = k') (hq : s'.sq = upd s.sq (sl j) (s.sq (sl j) ++ [ns.getD n 0])) : TieL sl s' ns (upd L j (L j ++ [(n : Int)])) := by
  refine ⟨fun k hk => ?_, fun k hk z hz => ?_⟩
  · by_cases e : k = j
    · subst e; rw [hq, upd_same, upd_same, h.eq k hk]; unfold nodesOf; rw [List.map_append]; simp
    · rw [hq, upd_ne _ _ (fun e9 => e (inj k j hk hj e9)), upd_ne _ _ e]; exact h.eq k hk
  · by_cases e : k = j
    · subst e; rw [upd_same] at hz
      rcases List.mem_append.1 hz with h9 | h9
      · exact h.dom k hk z h9
      · rw [List.mem_singleton] at h9; omega
    · rw [upd_ne _ _ e] at hz; exact h.dom k hk z hz
theorem TieL.out {sl : Nat → Nat} {s s' : LS} {ns : List Nat} {L : Nat → List Int} (h : TieL sl s ns L) (hn : ns.Nodup) {j n : Nat} (hj : j < 64) (hl : n < ns.length) (inj : ∀ k k', k < 64 → k' < 64 → sl k = sl k' → k = k') (hnd : (s.sq (sl j)).Nodup) (hq : s'.sq = upd s.sq (sl j) ((s.sq (sl j)).erase (ns.getD n 0))) : TieL sl s' ns (upd L j (wo n (L j))) := by
  refine ⟨fun k hk => ?_, fun k hk z hz => ?_⟩
  · by_cases e : k = j
    · subst e
      rw [h.eq k hk] at hnd
      rw [hq, upd_same, upd_same, h.eq k hk, nodesOf_erase hn hl _ (h.dom k hk) hnd]
    · rw [hq, upd_ne _ _ (fun e9 => e (inj k j hk hj e9)), upd_ne _ _ e]; exact h.eq k hk
  · by_cases e : k = j
    · subst e; rw [upd_same] at hz
      exact h.dom k hk z (List.mem_filter.1 hz).1
    · rw [upd_ne _ _ e] at hz; exact h.dom k hk z hz
theorem TieL.take {sl : Nat → Nat} {s s' : LS} {ns : List Nat} {L : Nat → List Int} (h : TieL sl s ns L) {j : Nat} (hj : j < 64) (inj : ∀ k k', k < 64 → k' < 64 → sl k = sl k' → k = k') (hq : s'.sq = upd s.sq (sl j) []) : TieL sl s' ns (upd L j []) := by
  refine ⟨fun k hk => ?_, fun k hk z hz => ?_⟩
  · by_cases e : k = j
    · subst e; rw [hq, upd_same, upd_same]; rfl
    · rw [hq, upd_ne _ _ (fun e9 => e (inj k j hk hj e9)), upd_ne _ _ e]; exact h.eq k hk
  · by_cases e : k = j
    · subst e; rw [upd_same] at hz; cases hz
    · rw [upd_ne _ _ e] at hz; exact h.dom k hk z hz
theorem TieL.vals {base v : Nat} {sl : Nat → Nat} {col : Nat → Nat} {s : LS} {nv : Value} {ns : List Nat} {L : Nat → List Int} {w W : World} (h : TieL sl s ns L) (o : N0 base v sl col s nv ns w W) {j : Nat} (hj : j < 64) : valsOf_i s (s.sq (sl j)) = irow (L j) := by
  rw [h.eq j hj]
  show ((L j).map _).map (LV s) = (L j).map _
  rw [List.map_map]
  refine List.map_congr_left fun z hz => ?_
  obtain ⟨d1, d2⟩ := h.dom j hj z hz
  have hx : ns[z.toNat]? = some (ns.getD z.toNat 0) := by rw [List.getD_eq_getElem?_getD, List.getElem?_eq_getElem (by omega)]; rfl
  show LV s (ns.getD z.toNat 0) = _
  rw [o.val _ _ hx, show ((z.toNat : Nat) : Int) = z by omega]
theorem bits_same {sl : Nat → Nat} {s : LS} {ns : List Nat} {L : Nat → List Int} {u m : Nat} (h : TieL sl s ns L) (hu : UsedOk u (fun k => s.sq (sl k))) (hm : BitsFrom L 0 m) : u = m := by
  refine Nat.eq_of_testBit_eq fun i => ?_
  by_cases hi : i < 64
  · rw [hu.2 i hi, hm.2 i (by omega), decide_eq_decide, Nat.zero_add]
    show s.sq (sl i) ≠ [] ↔ _
    rw [h.eq i hi]
    unfold nodesOf
    simp
  · have b : ∀ m, m < 18446744073709551616 → Nat.testBit m i = false := fun m hm => Nat.testBit_lt_two_pow (Nat.lt_of_lt_of_le hm (show 2 ^ 64 ≤ 2 ^ i from Nat.pow_le_pow_right (by omega) (by omega)))
    rw [b u hu.1, b m hm.1]
end Go.Proofs.Ytpkjhpfmikamkaa
