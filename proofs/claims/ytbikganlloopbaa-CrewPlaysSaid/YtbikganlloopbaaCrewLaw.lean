/-
  What stands here: a floor with its crew in new memory, whatever is done with it. Under no condition.
-/
import Derived.Test.YtbikganlloopbaaCrewNil
namespace Go.Proofs.Ytbikganlloopbaa
set_option linter.unusedVariables false
set_option linter.unusedSimpArgs false
open Go.RowKit Go.Proofs
/-- a floor in new memory -/
theorem cf_new (w : World) {base : Nat} {W : World} (hfr : Fr base (fun _ => 0) w W) (N M : Nat) (hN : 1 ≤ N ∧ N ≤ 16) (hM : 1 ≤ M ∧ M ≤ 4) :
    Calls Try.prog 8 #[.agg #[.int .i64 1, .int .i64 4, .int .i64 4, .int .i64 N, .int .i64 M, .int .i64 1]] W fun e w' => ∃ f p g col, e = .returned (.tuple #[.pointer (some ⟨f, 0, none⟩), .int .i64 0]) ∧ Fr base col w w' ∧ CF col f p g N 0 (cfP N M) 0 [] [] w' := by
  refine (fnew N M hN hM W).mono ?_
  rintro e w1 ⟨f, p, c, l, g, sb, sh, s, rfl, hf, hg, hp, hs, sf, sg, zf, zg, zp, zc, k⟩
  have hfl := hf.lt
  obtain ⟨l9, t9, u9, hfb⟩ := hf
  have efg : f ≠ g := hfb.other_size hg (by simp)
  have efp : f ≠ p := hfb.other_size hp.blk (by simp)
  have egp : g ≠ p := hg.other_size hp.blk (by simp)
  have echan : ∀ {y : Nat} {v : Array Value} {T : TypeId}, Blk w1 y v T → y ≠ c := fun h e => by
    obtain ⟨a, b, hc⟩ := hp.ch
    unfold Blk at h
    rw [e, hc] at h; cases h
  let col : Nat → Nat := fun y => if y < W.heap.size then 0 else if y = f then 1 else if y = g then 6 else 2
  have cf1 : col f = 1 := by show (if f < W.heap.size then 0 else if f = f then 1 else _) = 1; rw [if_neg (by omega), if_pos rfl]
  have cg1 : col g = 6 := by show (if g < W.heap.size then 0 else if g = f then 1 else if g = g then 6 else 2) = 6; rw [if_neg (by omega), if_neg (fun e => efg e.symm), if_pos rfl]
  have c2 : ∀ y, W.heap.size ≤ y → y ≠ f → y ≠ g → col y = 2 := fun y h1 h2 h3 => by show (if y < W.heap.size then 0 else if y = f then 1 else if y = g then 6 else 2) = 2; rw [if_neg (by omega), if_neg h2, if_neg h3]
  refine ⟨f, p, g, col, rfl, ?_, s, sb, sh, c, l, 0, ⟨l9, t9, u9, hfb⟩, cf1, hp, c2 p zp efp.symm egp.symm, c2 c zc (fun e => echan hfb e.symm) (fun e => echan hg e.symm), fun y hy => ?_, ⟨_, ⟨hg, cg1⟩, Owns.nil _ _ _ _ _⟩, Nat.le_refl _, Nat.le_refl _⟩
  · exact hfr.move (S := fun _ => False) ⟨fun x hx => if_pos hx, k.mono (fun _ _ f => f.elim)⟩ id
  · refine c2 y ?_ (fun e => hy (e ▸ sf)) (fun e => hy (e ▸ sg))
    rcases Nat.lt_or_ge y W.heap.size with h9 | h9
    · exact absurd (hs y h9) hy
    · exact h9
/-- a floor with its crew -/
structure CS (base : Nat) (col : Nat → Nat) (f p g N M : Nat) (cf : Nat → Int) (bz : Int) (xs logs : List FiringV) (ks : List Nat) (ns : Nat → Int) (hs : Nat → Option FiringV) (lv : Value) (w W : World) : Prop where
  fr : Fr base col w W
  st : CF col f p g N M cf bz xs logs W
  wk : ∀ i k, ks[i]? = some k → Wk col i f k (ns i) (hs i) W
  row : VRow (fun b => col b = 5) W lv (ptrs ks)
theorem vrow_move {col col' : Nat → Nat} {S : Nat → Prop} {W W' : World} {v : Value} {xs : List Value} (h : VRow (fun b => col b = 5) W v xs) (m : Move S col col' W W') (hn : ¬ S 5) : VRow (fun b => col' b = 5) W' v xs := by
  refine (h.inside.keep m.k fun b h1 h2 h3 => ?_).mono fun b h1 => (m.re b h1.2).trans h1.1
  rw [h1.1] at h3; exact hn h3
/-- the colours that a crew's things may have -/
abbrev MS (c : Nat) : Prop := c ≠ 0 ∧ c ≠ 5
theorem sts_ms {i c : Nat} (h : StS i c) : MS c := by
  rcases h with h | h | h | h | h <;> exact ⟨by omega, by omega⟩
section
variable {base : Nat} {col : Nat → Nat} {f p g N M : Nat} {cf : Nat → Int} {bz : Int} {xs logs : List FiringV} {ks : List Nat} {ns : Nat → Int} {hs : Nat → Option FiringV} {lv : Value} {w W W' : World}
theorem CS.still (h : CS base col f p g N M cf bz xs logs ks ns hs lv w W) (k : Still W W') : CS base col f p g N M cf bz xs logs ks ns hs lv w W' :=
  ⟨h.fr.still k, h.st.still k, fun i x hx => (h.wk i x hx).move (S := fun _ => False) (.still k) id, h.row.still k⟩
theorem CS.still5 (h : CS base col f p g N M cf bz xs logs ks ns hs lv w W) (k : Still W W') : CS base (ext col W.heap.size 5) f p g N M cf bz xs logs ks ns hs lv w W' := by
  have m : Move (fun _ => False) col (ext col W.heap.size 5) W W' := Move.ext (k.mono fun _ _ f => f.elim) 5
  exact ⟨h.fr.move m id, h.st.move m id id id id, fun i x hx => (h.wk i x hx).move m id, vrow_move h.row m id⟩
theorem CS.other (h : CS base col f p g N M cf bz xs logs ks ns hs lv w W) (k : Below W.heap.size W W') : CS base col f p g N M cf bz xs logs ks ns hs lv w W' := h.still ((kept_of_below k).mono fun y h1 h2 => absurd h2 (by omega))
theorem cs_crew (hfr : Fr base col w W) (h : CF col f p g N M cf bz xs logs W) {m : Nat} (hM : cf 4 = m) (hM2 : m < 1000) :
    Calls Try.prog 20 #[.pointer (some ⟨f, 0, none⟩)] W fun e w' => ∃ ks lv col', e = .returned lv ∧ ks.length = m ∧ CS base col' f p g N M cf bz xs logs ks (fun _ => 0) (fun _ => none) lv w w' := by
  obtain ⟨s, sb, sh, c, l, mx, hf, cf1, hp, cp, cc, cy, hl, ha, hb⟩ := h
  refine (ccrew hf hM hM2).mono ?_
  rintro e w1 ⟨ks, v, rfl, hkl, hnd, hrow, hws, k1⟩
  obtain ⟨col', hre, hwk, h5⟩ := paint col hnd hws
  have m1 : Move (fun _ => False) col col' W w1 := ⟨hre, k1.mono fun _ _ f => f.elim⟩
  exact ⟨ks, v, col', rfl, hkl, hfr.move m1 id, CF.move ⟨s, sb, sh, c, l, mx, hf, cf1, hp, cp, cc, cy, hl, ha, hb⟩ m1 id id id id, hwk, hrow.mono fun b hb => h5 b hb.1 hb.2⟩
theorem CS.step (h : CS base col f p g N M cf bz xs logs ks ns hs lv w W) {i : Nat} {k : Nat} (hk : ks[i]? = some k) {col' : Nat → Nat} {bz' : Int} {xs' logs' : List FiringV} {n : Int} {ho : Option FiringV} (m : Move (StS i) col col' W W') (h1 : CF col' f p g N M cf bz' xs' logs' W') (h2 : Wk col' i f k n ho W') :
    CS base col' f p g N M cf bz' xs' logs' ks (upd ns i n) (upd hs i ho) lv w W' := by
  refine ⟨h.fr.move m (by show ¬ (_ ∨ _); omega), h1, fun j x hx => ?_, vrow_move h.row m (by show ¬ (_ ∨ _); omega)⟩
  by_cases hj : j = i
  · subst hj
    rw [hk] at hx
    injection hx with hx
    subst hx
    rw [upd_same, upd_same]
    exact h2
  · rw [upd_ne _ _ hj, upd_ne _ _ hj]
    exact (h.wk j x hx).move m (by show ¬ (_ ∨ _); omega)
theorem cs_put (h : CS base col f p g N M cf bz xs logs ks ns hs lv w W) (hM : M < 90000) (v : FiringV) :
    Calls Try.prog 13 #[.pointer (some ⟨p, 0, none⟩), v.v] W fun e w' => e = .returned (.tuple #[.bool (decide (N ≤ xs.length)), .int .i64 0]) ∧ ∃ col', Move MS col col' W w' ∧ CS base col' f p g N (M + 1) cf bz (xs ++ [v]) logs ks ns hs lv w w' := by
  refine (cf_put h.st hM v).mono ?_
  rintro e w1 ⟨rfl, col', m, h'⟩
  exact ⟨rfl, col', m.mono (fun c h => by subst h; exact ⟨by omega, by omega⟩), h.fr.move m (by omega), h', fun i x hx => (h.wk i x hx).move m (by omega), vrow_move h.row m (by omega)⟩
theorem cs_may (h : CS base col f p g N M cf bz xs logs ks ns hs lv w W) (hM : M < 100000) {i k : Nat} (hk : ks[i]? = some k) :
    Calls Try.prog 11 #[.pointer (some ⟨k, 0, none⟩)] W fun e w' => e = .returned (.bool ((hs i).isSome || decide (0 < xs.length))) ∧ CS base col f p g N M cf bz xs logs ks ns hs lv w w' :=
  (cw_may h.st hM (h.wk i k hk)).mono fun e w' h9 => ⟨h9.1, h.still h9.2⟩
theorem cs_holds (h : CS base col f p g N M cf bz xs logs ks ns hs lv w W) {i k : Nat} (hk : ks[i]? = some k) :
    Calls Try.prog 19 #[.pointer (some ⟨k, 0, none⟩)] W fun e w' => e = .returned (.tuple #[((hs i).getD zF).v, .bool (hs i).isSome]) ∧ Still W w' := cw_holds (h.wk i k hk)
theorem cs_take (h : CS base col f p g N M cf bz xs logs ks ns hs lv w W) (hM : M < 100000) (hbz : 0 ≤ bz ∧ bz < 100000) {i k : Nat} (hk : ks[i]? = some k) (hh : hs i = none) {x : FiringV} {rest : List FiringV} (hx : xs = x :: rest) :
    Calls Try.prog 14 #[.pointer (some ⟨k, 0, none⟩)] W fun e w' => e = .returned (.bool true) ∧ ∃ col', Move MS col col' W w' ∧ CS base col' f p g N M cf (bz + 1) rest logs ks ns (upd hs i (some x)) lv w w' := by
  subst hx
  have hw := h.wk i k hk
  rw [hh] at hw
  refine (cw_take h.st hM hbz hw).mono ?_
  rintro e w1 ⟨rfl, col', m, h1, h2⟩
  have h9 := h.step hk m h1 h2
  rw [upd_id] at h9
  exact ⟨rfl, col', m.mono (fun c h => sts_ms h), h9⟩
theorem cs_log (h : CS base col f p g N M cf bz xs logs ks ns hs lv w W) (hM : logs.length < 1000000) (hbz : 1 ≤ bz ∧ bz < 100000) {i k : Nat} (hn : 0 ≤ ns i ∧ ns i < 1000000) (hk : ks[i]? = some k) {x : FiringV} (hh : hs i = some x) :
    Calls Try.prog 14 #[.pointer (some ⟨k, 0, none⟩)] W fun e w' => e = .returned (.bool true) ∧ ∃ col', Move MS col col' W w' ∧ CS base col' f p g N M cf (bz - 1) xs (logs ++ [x]) ks (upd ns i (ns i + 1)) (upd hs i none) lv w w' := by
  have hw := h.wk i k hk
  rw [hh] at hw
  refine (cw_put h.st hM hbz hn hw).mono ?_
  rintro e w1 ⟨rfl, col', m, h1, h2⟩
  exact ⟨rfl, col', m.mono (fun c h => sts_ms h), h.step hk m h1 h2⟩
theorem cs_no (h : CS base col f p g N M cf bz xs logs ks ns hs lv w W) (hM : M < 100000) {i k : Nat} (hk : ks[i]? = some k) (hh : hs i = none) (hx : xs = []) :
    Calls Try.prog 14 #[.pointer (some ⟨k, 0, none⟩)] W fun e w' => e = .returned (.bool false) ∧ CS base col f p g N M cf bz xs logs ks ns hs lv w w' := by
  subst hx
  have hw := h.wk i k hk
  rw [hh] at hw
  exact (cw_no h.st hM hw).mono fun e w' h9 => ⟨h9.1, h.still h9.2⟩
end
end Go.Proofs.Ytbikganlloopbaa
