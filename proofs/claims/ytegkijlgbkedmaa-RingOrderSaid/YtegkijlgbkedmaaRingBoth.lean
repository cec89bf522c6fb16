/-
  What stands here: a ring, its tickets and the document's ring, side by side in a world. Under no condition.
-/
import Derived.Test.YtegkijlgbkedmaaRingTie
namespace Go.Proofs.Ytegkijlgbkedmaa
set_option linter.unusedVariables false
set_option linter.unusedSimpArgs false
open Go.RowKit Go.Proofs

def ptrs (l : List Nat) : List Value := l.map fun t => .pointer (some ⟨t, 0, none⟩)
structure ActsW (col : Nat → Nat) (b sb wb base : Nat) (lv : Value) (r : RS) (ts : List TS) (tks : List Nat) (N : Int) (P : List Bool) (V : List Int) (h : Nat) (K : List (Nat × Nat)) (W : World) : Prop where
  ring : RingI (.int .i64 0) b sb 68 70 r W
  cb : col b = 1
  cs : col sb = 1
  ref : RefI col wb N P V h K W
  l : Owns col 6 W 37 1 lv tks.length (ptrs tks)
  tl : tks.length = ts.length
  ticks : ∀ (i t : Nat) (k : TS), tks[i]? = some t → ts[i]? = some k → Blk W t (tickC b k) 73 ∧ col t = 7 + i
  low : ∀ x, col x ≠ 0 → base ≤ x

theorem ActsW.base_le {col : Nat → Nat} {b sb wb base : Nat} {lv : Value} {r : RS} {ts : List TS} {tks : List Nat} {N : Int} {P : List Bool} {V : List Int} {h : Nat} {K : List (Nat × Nat)} {W : World} (a : ActsW col b sb wb base lv r ts tks N P V h K W) : base ≤ W.heap.size := by
  have := a.low b (by rw [a.cb]; omega)
  have := a.ring.lt
  omega
theorem ActsW.low' {col col' : Nat → Nat} {b sb wb base : Nat} {lv : Value} {r : RS} {ts : List TS} {tks : List Nat} {N : Int} {P : List Bool} {V : List Int} {h : Nat} {K : List (Nat × Nat)} {W : World} (a : ActsW col b sb wb base lv r ts tks N P V h K W) (rc : Recol W.heap.size col col') : ∀ x, col' x ≠ 0 → base ≤ x := by
  intro x hx
  by_cases hlt : x < W.heap.size
  · exact a.low x (by rwa [← rc x hlt])
  · have := a.base_le; omega
theorem ActsW.kept {col : Nat → Nat} {b sb wb base : Nat} {lv : Value} {r : RS} {ts : List TS} {tks : List Nat} {N : Int} {P : List Bool} {V : List Int} {h : Nat} {K : List (Nat × Nat)} {W W' : World} {S : Nat → Prop} (a : ActsW col b sb wb base lv r ts tks N P V h K W) (k : Kept S W W') (hS : ∀ x, x < W.heap.size → col x ≠ 0 → ¬ S x) : ActsW col b sb wb base lv r ts tks N P V h K W' := by
  have hlt := a.ring.lt
  refine ⟨a.ring.kept k (hS b hlt.1 (by rw [a.cb]; omega)) (hS sb hlt.2 (by rw [a.cs]; omega)), a.cb, a.cs, a.ref.kept k (fun x hx h2 _ => hS x hx (by omega)), a.l.kept k (fun x hx hc => hS x hx (by omega)), a.tl, fun i t q h1 h2 => ?_, a.low⟩
  obtain ⟨h3, h4⟩ := a.ticks i t q h1 h2
  exact ⟨h3.kept k (hS t h3.lt (by omega)), h4⟩
theorem ActsW.recol {col col' : Nat → Nat} {b sb wb base : Nat} {lv : Value} {r : RS} {ts : List TS} {tks : List Nat} {N : Int} {P : List Bool} {V : List Int} {h : Nat} {K : List (Nat × Nat)} {W : World} (a : ActsW col b sb wb base lv r ts tks N P V h K W) (rc : Recol W.heap.size col col') : ActsW col' b sb wb base lv r ts tks N P V h K W := by
  have hlt := a.ring.lt
  refine ⟨a.ring, (rc b hlt.1).trans a.cb, (rc sb hlt.2).trans a.cs, a.ref.recol rc, a.l.recol rc, a.tl, fun i t q h1 h2 => ?_, a.low' rc⟩
  obtain ⟨h3, h4⟩ := a.ticks i t q h1 h2
  exact ⟨h3, (rc t h3.lt).trans h4⟩
/-- the ring, and a ticket, went on -/
theorem ActsW.ringTo {col : Nat → Nat} {b sb wb base : Nat} {lv : Value} {r r' : RS} {ts : List TS} {tks : List Nat} {N : Int} {P : List Bool} {V : List Int} {h : Nat} {K : List (Nat × Nat)} {W W' : World} {S : Nat → Prop} (a : ActsW col b sb wb base lv r ts tks N P V h K W) (i t : Nat) (k' : TS) (ht : tks[i]? = some t) (hr : RingI (.int .i64 0) b sb 68 70 r' W') (hb : Blk W' t (tickC b k') 73)
    (k : Kept S W W') (hS : ∀ x, S x → x = b ∨ x = sb ∨ x = t) : ActsW col b sb wb base lv r' (ts.set i k') tks N P V h K W' := by
  have hi : i < ts.length := by rw [← a.tl]; exact (List.getElem?_eq_some_iff.1 ht).1
  obtain ⟨k0, hk0⟩ : ∃ k0, ts[i]? = some k0 := ⟨_, List.getElem?_eq_getElem hi⟩
  obtain ⟨_, hct⟩ := a.ticks i t k0 ht hk0
  have hcol : ∀ x, S x → col x = 1 ∨ col x = 7 + i := fun x hx => by rcases hS x hx with rfl | rfl | rfl; exact .inl a.cb; exact .inl a.cs; exact .inr hct
  refine ⟨hr, a.cb, a.cs, a.ref.kept k (fun x _ h2 h5 hx => by rcases hcol x hx with h | h <;> omega), a.l.kept k (fun x _ hc hx => by rcases hcol x hx with h | h <;> omega), by rw [List.length_set]; exact a.tl, fun j t' q h1 h2 => ?_, a.low⟩
  rcases set_get h2 with ⟨rfl, rfl⟩ | ⟨hji, h2⟩
  · rw [ht] at h1; cases h1; exact ⟨hb, hct⟩
  · obtain ⟨h3, h4⟩ := a.ticks j t' q h1 h2
    exact ⟨h3.kept k (fun hx => by rcases hcol t' hx with h | h <;> omega), h4⟩
theorem ActsW.ringOnly {col : Nat → Nat} {b sb wb base : Nat} {lv : Value} {r r' : RS} {ts : List TS} {tks : List Nat} {N : Int} {P : List Bool} {V : List Int} {h : Nat} {K : List (Nat × Nat)} {W W' : World} {S : Nat → Prop} (a : ActsW col b sb wb base lv r ts tks N P V h K W) (hr : RingI (.int .i64 0) b sb 68 70 r' W')
    (k : Kept S W W') (hS : ∀ x, S x → x = b ∨ x = sb) : ActsW col b sb wb base lv r' ts tks N P V h K W' := by
  have hcol : ∀ x, S x → col x = 1 := fun x hx => by rcases hS x hx with rfl | rfl; exact a.cb; exact a.cs
  refine ⟨hr, a.cb, a.cs, a.ref.kept k (fun x _ h2 h5 hx => by have := hcol x hx; omega), a.l.kept k (fun x _ hc hx => by have := hcol x hx; omega), a.tl, fun j t' q h1 h2 => ?_, a.low⟩
  obtain ⟨h3, h4⟩ := a.ticks j t' q h1 h2
  exact ⟨h3.kept k (fun hx => by have := hcol t' hx; omega), h4⟩
/-- the document's ring went on -/
theorem ActsW.refTo {col col' : Nat → Nat} {b sb wb base : Nat} {lv : Value} {r : RS} {ts : List TS} {tks : List Nat} {N : Int} {P P' : List Bool} {V V' : List Int} {h h' : Nat} {K K' : List (Nat × Nat)} {W W' : World} (a : ActsW col b sb wb base lv r ts tks N P V h K W) (rc : Recol W.heap.size col col') (hr : RefI col' wb N P' V' h' K' W') (k : Kept (RefS col) W W') : ActsW col' b sb wb base lv r ts tks N P' V' h' K' W' := by
  have hlt := a.ring.lt
  have hcb := a.cb
  have hcs := a.cs
  refine ⟨a.ring.kept k (fun ⟨h1, h2⟩ => by omega) (fun ⟨h1, h2⟩ => by omega), (rc b hlt.1).trans a.cb, (rc sb hlt.2).trans a.cs, hr, (a.l.recol rc).kept k (fun x hx hc ⟨h1, h2⟩ => by have := rc x hx; omega), a.tl, fun i t q h1 h2 => ?_, a.low' rc⟩
  obtain ⟨h3, h4⟩ := a.ticks i t q h1 h2
  exact ⟨h3.kept k (fun ⟨h5, h6⟩ => by omega), (rc t h3.lt).trans h4⟩
/-- a ticket more, in its row -/
theorem ActsW.more {col : Nat → Nat} {b sb wb base n : Nat} {lv lv' : Value} {r : RS} {ts : List TS} {tks : List Nat} {N : Int} {P : List Bool} {V : List Int} {h : Nat} {K : List (Nat × Nat)} {W W1 W2 : World} {o : Obj} (a : ActsW col b sb wb base lv r ts tks N P V h K W) (k1 : Still W W1) (k : TS) (hn : W.heap.size = n) (hb : Blk W1 n (tickC b k) 73)
    (ha : Appended (W1.alloc o) W2 0 37 1 lv lv' (ts.length + 1) (ptrs tks ++ [.pointer (some ⟨n, 0, none⟩)])) :
    ∃ col2, Recol n col col2 ∧ ActsW col2 b sb wb base lv' r (ts ++ [k]) (tks ++ [n]) N P V h K W2 ∧ Kept (fun x => col x = 6) W W2 := by
  subst hn
  rw [← a.tl] at ha
  have hz : W.heap.size < W1.heap.size := hb.lt
  have rc1 := recol_ext col W.heap.size (7 + ts.length)
  have a0 := a.recol rc1
  have hnew := ext_new col (n := W.heap.size) (c := 7 + ts.length) (Nat.le_refl _)
  generalize ext col W.heap.size (7 + ts.length) = col1 at *
  have a1 := a0.kept k1 (fun _ _ _ f => f)
  have k2 : Kept (fun x => col1 x = 6) W1 W2 := a1.l.app_kept ha (Kept.refl _ _) (fun x _ h => h)
  have hl2 := a1.l.appended (m := W1.heap.size) ha (Nat.le_refl _) (owns_lt a1.l.1)
  have rc2 := recol_ext col1 W1.heap.size 6
  have a2 := a1.recol rc2
  generalize ext col1 W1.heap.size 6 = col2 at *
  have hc6 : ∀ x, x < W1.heap.size → col2 x ≠ 6 → ¬ col1 x = 6 := fun x hx h e => h ((rc2 x hx).trans e)
  have hlt := a2.ring.lt
  have hcb := a2.cb
  have hcs := a2.cs
  refine ⟨col2, rc1.trans rc2 (Nat.le_of_lt hz), ⟨a2.ring.kept k2 (hc6 b hlt.1 (by omega)) (hc6 sb hlt.2 (by omega)), hcb, hcs, a2.ref.kept k2 (fun x hx h1 h2 => hc6 x hx (by omega)), ?_, by simp [a.tl], fun i t q h1 h2 => ?_, a2.low⟩, (k1.mono (fun _ _ f => f.elim)).step k2 (fun x hx h => (rc1 x hx).symm.trans h)⟩
  · rw [List.length_append, show ptrs (tks ++ [W.heap.size]) = ptrs tks ++ [.pointer (some ⟨W.heap.size, 0, none⟩)] by simp [ptrs]]
    exact hl2
  · rw [List.getElem?_append] at h1 h2
    split at h1
    · rename_i hi
      rw [if_pos (by rw [← a.tl]; exact hi)] at h2
      obtain ⟨h3, h4⟩ := a2.ticks i t q h1 h2
      exact ⟨h3.kept k2 (hc6 t h3.lt (by omega)), h4⟩
    · rename_i hi
      rw [if_neg (by rw [← a.tl]; exact hi)] at h2
      have h5 : i = tks.length := by have := (List.getElem?_eq_some_iff.1 h1).1; simp at this; omega
      subst h5
      rw [Nat.sub_self] at h1
      rw [a.tl, Nat.sub_self] at h2
      simp at h1 h2
      subst h1 h2
      have h6 : col2 W.heap.size = 7 + tks.length := by rw [rc2 _ hz, hnew, a.tl]
      exact ⟨hb.kept k2 (hc6 _ hz (by omega)), h6⟩
/-- the document's row of tickets, and what an append to it leaves -/
theorem RefI.tick {col : Nat → Nat} {wb h : Nat} {N : Int} {P : List Bool} {V : List Int} {K : List (Nat × Nat)} {W : World} (r : RefI col wb N P V h K W) : ∃ pv vv tv, Blk W wb #[.int .i64 N, pv, vv, .int .i64 h, tv] 33 ∧ Owns col 5 W 40 2 tv K.length (flatK K) ∧
    ∀ o W2 tv', Appended (W.alloc o) W2 0 40 2 tv tv' (K.length + 1) (flatK K ++ [.int .i64 0, .int .i64 0]) →
      RefI (ext col W.heap.size 5) wb N P V h (K ++ [(0, 0)]) (W2.setCell ⟨wb, 4, none⟩ tv') ∧ Kept (RefS col) W (W2.setCell ⟨wb, 4, none⟩ tv') ∧ Kept (fun x => col x = 5) W W2 ∧ Blk W2 wb #[.int .i64 N, pv, vv, .int .i64 h, tv] 33 := by
  obtain ⟨h2, pv, vv, tv, hb, hp, hv, ht⟩ := r
  refine ⟨pv, vv, tv, hb, ht, fun o W2 tv' ha => ?_⟩
  have k2 : Kept (fun x => col x = 5) W W2 := ht.app_kept ha (Kept.refl _ _) (fun x _ h => h)
  have ht2 := ht.appended (m := W.heap.size) ha (Nat.le_refl _) (owns_lt ht.1)
  have hp2 := hp.grow k2 rfl 5 (fun x _ h e => by omega)
  have hv2 := hv.grow k2 rfl 5 (fun x _ h e => by omega)
  have hb2 := hb.kept k2 (by omega)
  have h2' : ext col W.heap.size 5 wb = 2 := (recol_ext col _ 5 wb hb.lt).trans h2
  refine ⟨⟨h2', pv, vv, tv', (hb2.set 4 tv').cast (by simp), hp2.set_other (by show ext _ _ _ wb ≠ 3; omega) _, hv2.set_other (by show ext _ _ _ wb ≠ 4; omega) _, ?_⟩, (k2.mono (fun x _ h => ⟨by omega, by omega⟩)).setCell (fun _ => ⟨Nat.le_of_eq h2.symm, by show col wb ≤ 5; omega⟩) _, k2, hb2⟩
  rw [List.length_append, flatK_snoc]
  exact ht2.set_other (a := ⟨wb, 4, none⟩) (by show ext _ _ _ wb ≠ 5; omega) _
/-- the pointer to a ticket -/
theorem ActsW.ptr {col : Nat → Nat} {b sb wb base : Nat} {lv : Value} {r : RS} {ts : List TS} {tks : List Nat} {N : Int} {P : List Bool} {V : List Int} {h : Nat} {K : List (Nat × Nat)} {W : World} (a : ActsW col b sb wb base lv r ts tks N P V h K W) {i : Nat} (hi : i < ts.length) :
    ∃ g cap t k, lv = .slice (some ⟨g, 0, none⟩) ts.length cap ∧ W.cell? ⟨g, i, none⟩ = some (.pointer (some ⟨t, 0, none⟩)) ∧ col g = 6 ∧ g < W.heap.size ∧ tks[i]? = some t ∧ ts[i]? = some k ∧ Blk W t (tickC b k) 73 ∧ t ≠ b ∧ t ≠ sb ∧ (∃ c, Blk W g c 37) := by
  have hi' : i < tks.length := by rw [a.tl]; exact hi
  obtain ⟨t, ht⟩ : ∃ t, tks[i]? = some t := ⟨_, List.getElem?_eq_getElem hi'⟩
  obtain ⟨k, hk⟩ : ∃ k, ts[i]? = some k := ⟨_, List.getElem?_eq_getElem hi⟩
  obtain ⟨g, cap, cur, hv, hg, hbg, _, _, _, hc, _⟩ := owns_one a.l (i := i) (x := .pointer (some ⟨t, 0, none⟩)) (by unfold ptrs; rw [List.getElem?_map, ht]; rfl)
  obtain ⟨hb, hct⟩ := a.ticks i t k ht hk
  have hcb := a.cb
  have hcs := a.cs
  exact ⟨g, cap, t, k, by rw [hv, a.tl], hc, hg, hbg.lt, ht, hk, hb, by intro e; rw [e] at hct; omega, by intro e; rw [e] at hct; omega, cur, hbg⟩
end Go.Proofs.Ytegkijlgbkedmaa
