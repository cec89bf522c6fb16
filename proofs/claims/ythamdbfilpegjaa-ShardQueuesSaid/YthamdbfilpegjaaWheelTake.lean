/-
  What stands here: how a wheel's state goes on when a place is emptied, when its own cells are turned, when an entry is let go: plain laws. Under no condition.
-/
import Derived.Test.YthamdbfilpegjaaWheelNode
import Derived.Test.YthamdbfilpegjaaTimesZeros
namespace Go.Proofs.Ythamdbfilpegjaa
set_option linter.unusedVariables false
set_option linter.unusedSimpArgs false
open Go.RowKit Go.Proofs
theorem tkp_dg (n : Nat) {l : Nat} (hl : l < 4) : tkp n l = l * 64 + (dg n l).toNat := by
  obtain rfl | rfl | rfl | rfl : l = 0 ∨ l = 1 ∨ l = 2 ∨ l = 3 := by omega
  · simp only [tkp, dg]; omega
  · simp only [tkp, dg, Int.pow_one]; omega
  · simp only [tkp, dg]; rw [div_nest2]; omega
  · simp only [tkp, dg]; rw [div_nest3]; omega
theorem dg_nat0 (n : Nat) : dg (n : Int) 0 = ((n % 64 : Nat) : Int) := by unfold dg; rw [Int.pow_zero, Int.ediv_one]; omega
theorem dg_nat1 (n : Nat) : dg (n : Int) 1 = ((n / 64 % 64 : Nat) : Int) := by unfold dg; rw [Int.pow_one]; omega
theorem dg_nat2 (n : Nat) : dg (n : Int) 2 = ((n / 64 / 64 % 64 : Nat) : Int) := by unfold dg; rw [div_nest2]; omega
theorem dg_nat3 (n : Nat) : dg (n : Int) 3 = ((n / 64 / 64 / 64 % 64 : Nat) : Int) := by unfold dg; rw [div_nest3]; omega
/-- what is taken at an advance: the levels below the lowest digit that isn't 0 -/
theorem zeros_tkd {n z : Nat} (h : ZerosIs (n : Int) z) {l : Nat} (h1 : 1 ≤ l) (h4 : l ≤ 4) : tkd n l = decide (l ≤ z) := by
  obtain ⟨_, h2, h3⟩ := h
  have e0 := h2 0
  have e1 := h2 1
  have e2 := h2 2
  have e3 := h2 3
  rw [dg_nat0] at e0
  rw [dg_nat1] at e1
  rw [dg_nat2] at e2
  rw [dg_nat3] at e3
  rw [Bool.eq_iff_iff, decide_eq_true_eq]
  have hz : z = 0 ∨ z = 1 ∨ z = 2 ∨ z = 3 ∨ 4 ≤ z := by omega
  obtain rfl | rfl | rfl | rfl : l = 1 ∨ l = 2 ∨ l = 3 ∨ l = 4 := by omega
  all_goals
    simp only [tkd, decide_eq_true_eq]
    rcases hz with rfl | rfl | rfl | rfl | hz
    · have := h3 (by omega); rw [dg_nat0] at this; omega
    · have := h3 (by omega); rw [dg_nat1] at this; omega
    · have := h3 (by omega); rw [dg_nat2] at this; omega
    · have := h3 (by omega); rw [dg_nat3] at this; omega
    · omega
section
variable {s : LS} {v : Nat} {lv : Nat → Nat} {sl : Nat → Nat → Nat} {bd : Nat} {S : WSt} {L : List Nat} {n : Nat} {W W' : World}
/-- a place is emptied: what stood there hangs -/
theorem WB_t.taken (h : WB_t s v lv sl bd S L n W) {s' : LS} {q0 : Nat} {T : Nat → Prop} (hq0 : q0 < 257) (hs : LW_t s' W') (hkd : s'.kd = s.kd) (hlv : LV s' = LV s) (hsq : s'.sq = upd s.sq (lq sl bd q0) []) (k : Kept T W W') (hT : ∀ y, s.kd y = 5 ∨ s.kd y = 6 → ¬ T y) (hlevs : ∀ i, i < 4 → LvB_t s' (lv i) (sl i) W') :
    WB_t s' v lv sl bd { S with pl := upd S.pl q0 [] } (S.pl q0 ++ L) n W' ∧ ∀ e, e ∈ S.pl q0 → s'.kd (S.node e) = 2 ∧ LV s' (S.node e) = ptrN e := by
  have hvv : ∀ x, (s'.nd x).val = (s.nd x).val := fun x => congrFun hlv x
  have mem : ∀ q y, y ∈ upd S.pl q0 [] q → q ≠ q0 ∧ y ∈ S.pl q := fun q y hy => by
    by_cases hq : q = q0
    · rw [hq, upd_same] at hy; cases hy
    · rw [upd_ne _ _ hq] at hy; exact ⟨hq, hy⟩
  have keep : ∀ y H, s.kd y = 6 → EB_t S W y H → EB_t S W' y H := fun y H h6 hb => Blk.kept hb k (hT y (.inr h6))
  refine ⟨{
    kv := by rw [hkd]; exact h.kv
    blk := h.blk.kept k (hT v (.inl h.kv))
    now := h.now
    lw := hs
    lev := hlevs
    linj := h.linj
    kl := fun q hq => by rw [hkd]; exact h.kl q hq
    inj := h.inj
    sq := fun q hq => by
      show s'.sq (lq sl bd q) = (upd S.pl q0 [] q).map S.node
      rw [hsq]
      by_cases hqq : q = q0
      · subst hqq; rw [upd_same, upd_same]; rfl
      · rw [upd_ne _ _ hqq, upd_ne _ _ (fun e9 => hqq (h.inj q q0 hq hq0 e9))]; exact h.sq q hq
    ent := fun q y hq hy => by
      obtain ⟨_, hy⟩ := mem q y hy
      obtain ⟨g1, g2, g3, g4, g5⟩ := h.ent q y hq hy
      exact ⟨by rw [hkd]; exact g1, keep y _ g1 g2, by rw [hkd]; exact g3, (hvv _).trans g4, g5⟩
    one := fun q r y hq hr h1 h2 => h.one q r y hq hr (mem q y h1).2 (mem r y h2).2
    nodup := fun q hq => by
      show (upd S.pl q0 [] q).Nodup
      by_cases hqq : q = q0
      · rw [hqq, upd_same]; exact List.nodup_nil
      · rw [upd_ne _ _ hqq]; exact h.nodup q hq
    hang := fun y hy => by
      rcases List.mem_append.1 hy with hy | hy
      · obtain ⟨g1, g2, g3, g4, g5, g6, g7, g8, _⟩ := h.ent q0 y hq0 hy
        refine ⟨by rw [hkd]; exact g1, keep y _ g1 g2, g8, fun q hq h9 => ?_⟩
        obtain ⟨h8, h9⟩ := mem q y h9
        exact h8 (h.one q q0 y hq hq0 h9 hy)
      · obtain ⟨g1, g2, g3, g4⟩ := h.hang y hy
        exact ⟨by rw [hkd]; exact g1, keep y _ g1 g2, g3, fun q hq h9 => g4 q hq (mem q y h9).2⟩
    hnd := by
      rw [List.nodup_append]
      exact ⟨h.nodup q0 hq0, h.hnd, fun a ha b hb e9 => (h.hang b hb).2.2.2 q0 hq0 (e9 ▸ ha)⟩
    out := fun y hy => by
      rw [hkd] at hy
      rcases h.out y hy with ⟨q, hq, h1⟩ | h1 | h1
      · by_cases hqq : q = q0
        · exact .inr (.inl (List.mem_append.2 (.inl (hqq ▸ h1))))
        · exact .inl ⟨q, hq, by show y ∈ upd S.pl q0 [] q; rw [upd_ne _ _ hqq]; exact h1⟩
      · exact .inr (.inl (List.mem_append.2 (.inr h1)))
      · exact .inr (.inr (keep y _ hy h1)) }, fun e he => ?_⟩
  obtain ⟨g1, g2, g3, g4, _⟩ := h.ent q0 e hq0 he
  exact ⟨by rw [hkd]; exact g3, (hvv _).trans g4⟩
/-- the wheel's own cells are turned -/
theorem WB_t.reblk (h : WB_t s v lv sl bd S L n W) {a m : Nat} (k : Kept (fun y => y = v) W W') (hb : Blk W' v #[.int .u64 a, ptrN (lv 0), ptrN (lv 1), ptrN (lv 2), ptrN (lv 3), ptrN bd, .int .i64 m] 101) (ha : a < 18446744073709551616) : WB_t s v lv sl bd { S with now := a } L m W' :=
  have hne : ∀ y j, s.kd y = j → j ≠ 5 → ¬ (y = v) := fun y j hy hj e => by rw [e, h.kv] at hy; exact hj hy.symm
  { kv := h.kv
    blk := hb
    now := ha
    lw := h.lw.kept3 k (fun y hy e => by rw [e, h.kv] at hy; omega)
    lev := fun i hi => (h.lev i hi).carry k (hne _ _ (h.lev i hi).kv (by decide)) rfl (fun _ _ => rfl) (fun _ _ => rfl)
    linj := h.linj
    kl := h.kl
    inj := h.inj
    sq := h.sq
    ent := fun q e hq he => by
      obtain ⟨h1, h2, h3⟩ := h.ent q e hq he
      exact ⟨h1, Blk.kept h2 k (hne _ _ h1 (by decide)), h3⟩
    one := h.one
    nodup := h.nodup
    hang := fun e he => by
      obtain ⟨h1, h2, h3⟩ := h.hang e he
      exact ⟨h1, Blk.kept h2 k (hne _ _ h1 (by decide)), h3⟩
    hnd := h.hnd
    out := fun e he => by
      rcases h.out e he with h1 | h1 | h1
      · exact .inl h1
      · exact .inr (.inl h1)
      · exact .inr (.inr (Blk.kept h1 k (hne _ _ he (by decide)))) }
theorem WB_t.setNow (h : WB_t s v lv sl bd S L n W) {a : Nat} (ha : a < 18446744073709551616) (hw : W' = W.setCell ⟨v, 0, none⟩ (.int .u64 a)) : WB_t s v lv sl bd { S with now := a } L n W' := by
  subst hw
  exact h.reblk (Kept.setCell (S := fun y => y = v) (Kept.refl _ _) (fun _ => rfl) _) (Blk.set' h.blk rfl) ha
theorem WB_t.setN (h : WB_t s v lv sl bd S L n W) {m : Nat} (hw : W' = W.setCell ⟨v, 6, none⟩ (.int .i64 m)) : WB_t s v lv sl bd S L m W' := by
  subst hw
  exact h.reblk (a := S.now) (Kept.setCell (S := fun y => y = v) (Kept.refl _ _) (fun _ => rfl) _) (Blk.set' h.blk rfl) h.now
/-- a hanging entry is let go -/
theorem WB_t.gone {e : Nat} (h : WB_t s v lv sl bd S (e :: L) n W) (hw : W' = W.setCell ⟨e, 7, none⟩ (.pointer none)) : WB_t s v lv sl bd S L n W' := by
  subst hw
  obtain ⟨ke, be, hdue, hnot⟩ := h.hang e (by simp)
  have heL : e ∉ L := (List.nodup_cons.1 h.hnd).1
  have k : Kept (fun y => y = e) W (W.setCell ⟨e, 7, none⟩ (.pointer none)) := Kept.setCell (S := fun y => y = e) (Kept.refl _ _) (fun _ => rfl) _
  have hne : ∀ y j, s.kd y = j → j ≠ 6 → ¬ (y = e) := fun y j hy hj e9 => by rw [e9, ke] at hy; exact hj hy.symm
  exact {
    kv := h.kv
    blk := h.blk.kept k (hne _ _ h.kv (by decide))
    now := h.now
    lw := h.lw.kept3 k (fun y hy e9 => by rw [e9, ke] at hy; omega)
    lev := fun i hi => (h.lev i hi).carry k (hne _ _ (h.lev i hi).kv (by decide)) rfl (fun _ _ => rfl) (fun _ _ => rfl)
    linj := h.linj
    kl := h.kl
    inj := h.inj
    sq := h.sq
    ent := fun q y hq hy => by
      obtain ⟨h1, h2, h3⟩ := h.ent q y hq hy
      exact ⟨h1, Blk.kept h2 k (fun e9 => hnot q hq (e9 ▸ hy)), h3⟩
    one := h.one
    nodup := h.nodup
    hang := fun y hy => by
      obtain ⟨h1, h2, h3⟩ := h.hang y (List.mem_cons_of_mem _ hy)
      exact ⟨h1, Blk.kept h2 k (fun e9 => heL (e9 ▸ hy)), h3⟩
    hnd := (List.nodup_cons.1 h.hnd).2
    out := fun y hy => by
      by_cases hye : y = e
      · refine .inr (.inr ?_)
        subst hye
        exact Blk.set' (Blk.cast be rfl) rfl
      · rcases h.out y hy with h1 | h1 | h1
        · exact .inl h1
        · rcases List.mem_cons.1 h1 with h1 | h1
          · exact absurd h1 hye
          · exact .inr (.inl h1)
        · exact .inr (.inr (Blk.kept h1 k hye)) }
end

end Go.Proofs.Ythamdbfilpegjaa
