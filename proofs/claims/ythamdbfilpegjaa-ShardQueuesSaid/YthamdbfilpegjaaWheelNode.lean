/-
  What stands here: how a wheel's state goes on when a node is made, and when an entry comes to stand: plain laws. Under no condition.
-/
import Derived.Test.YthamdbfilpegjaaWheelState
namespace Go.Proofs.Ythamdbfilpegjaa
set_option linter.unusedVariables false
set_option linter.unusedSimpArgs false
open Go.RowKit Go.Proofs
/-- what of a wheel's entries a call leaves alone -/
structure WSame (S S' : WSt) : Prop where
  now : S'.now = S.now
  due : S'.due = S.due
  dl : S'.dl = S.dl
  val : S'.val = S.val
theorem LvB_t.node {s : LS} {v : Nat} {sl : Nat → Nat} {W : World} {x : Nat} {o : Obj} (h : LvB_t s v sl W) (hl : LW_t s W) (hx : W.heap.size = x) (u : Value) : LvB_t (s.node x u) v sl (W.alloc o) := by
  have hv := h.lt
  refine h.carry ((still_refl W).alloc o) (fun f => f) (upd_ne _ _ (by omega)) (fun k hk => upd_ne _ _ ?_) (fun _ _ => rfl)
  have := (hl.lists _ (h.kl k hk)).lt
  omega
/-- a node of a hanging entry is made, and told to it, with a level -/
theorem WB_t.made {s : LS} {v : Nat} {lv : Nat → Nat} {sl : Nat → Nat → Nat} {bd : Nat} {S : WSt} {L : List Nat} {n : Nat} {W W2 W3 : World} {e x : Nat} {a : Int} (h : WB_t s v lv sl bd S (e :: L) n W)
    (h2 : W2 = (W.setCell ⟨e, 8, none⟩ (.int .i64 a)).alloc (.cells #[ptrN e, .pointer none, .pointer none, .pointer none] 114)) (hx : W.heap.size = x) (h3 : W3 = W2.setCell ⟨e, 10, none⟩ (ptrN x)) :
    WB_t (s.node x (ptrN e)) v lv sl bd { S with node := upd S.node e x, lev := upd S.lev e a, nv := upd S.nv e (ptrN x) } (e :: L) n W3 := by
  obtain ⟨ke, be, hdue, hnot⟩ := h.hang e (by simp)
  have be' : Blk W e _ _ := be
  have hel := be'.lt
  have kx : s.kd x = 0 := h.lw.fresh x (by omega)
  have hex : e ≠ x := by omega
  have k1 : Kept (fun y => y = e) W (W.setCell ⟨e, 8, none⟩ (.int .i64 a)) := Kept.setCell (S := fun y => y = e) (Kept.refl _ _) (fun _ => rfl) _
  have k2 : Kept (fun y => y = e) W W2 := h2 ▸ k1.alloc _
  have k3 : Kept (fun y => y = e) W W3 := h3 ▸ Kept.setCell (S := fun y => y = e) k2 (fun _ => rfl) _
  have hz1 : (W.setCell ⟨e, 8, none⟩ (.int .i64 a)).heap.size = x := (World.size_setCell ..).trans hx
  have kd : ∀ y, s.kd y ≠ 0 → (s.node x (ptrN e)).kd y = s.kd y := fun y hy => upd_ne _ _ (fun e9 => hy (by rw [e9]; exact kx))
  have ne : ∀ y, s.kd y ≠ 6 → y ≠ e := fun y hy e9 => hy (by rw [e9]; exact ke)
  have ndn : ∀ y, s.kd y ≠ 0 → (s.node x (ptrN e)).nd y = s.nd y := fun y hy => upd_ne _ _ (fun e9 => hy (by rw [e9]; exact kx))
  have b1 : Blk W3 e (ecl_t (S.dl e) (S.val e) (S.due e) (ptrN v) a (S.slot e) (ptrN x)) 105 := by
    rw [h3, h2]
    refine Blk.set' (c := (ecl_t (S.dl e) (S.val e) (S.due e) (ptrN v) a (S.slot e) (S.nv e))) (Blk.alloc (Blk.set' be' rfl) _) rfl
  have lw2 : LW_t (s.node x (ptrN e)) W2 := by
    rw [h2]
    exact LW_t.node (h.lw.kept3 k1 (fun y hy => ne y (by omega))) (ptrN e) hz1
  have hn : ∀ y, y ≠ e → upd S.node e x y = S.node y := fun y hy => upd_ne _ _ hy
  have hl9 : ∀ y, y ≠ e → upd S.lev e a y = S.lev y := fun y hy => upd_ne _ _ hy
  have other : ∀ y H, y ≠ e → EB_t S W y H → EB_t { S with node := upd S.node e x, lev := upd S.lev e a, nv := upd S.nv e (ptrN x) } W3 y H := fun y H hy hb => by
    unfold EB_t
    show Blk W3 y (ecl_t (S.dl y) (S.val y) (S.due y) H (upd S.lev e a y) (S.slot y) (upd S.nv e (ptrN x) y)) _
    rw [upd_ne S.nv _ hy, hl9 y hy]
    exact Blk.kept hb k3 hy
  exact {
    kv := (kd v (by rw [h.kv]; decide)).trans h.kv
    blk := h.blk.kept k3 (ne v (by rw [h.kv]; decide))
    now := h.now
    lw := by
      rw [h3]
      exact lw2.kept3 (S := fun y => y = e) (Kept.setCell (S := fun y => y = e) (Kept.refl _ _) (fun _ => rfl) _) (fun y hy e9 => by
        rw [e9, kd e (by rw [ke]; decide), ke] at hy; omega)
    lev := fun i hi => (h.lev i hi).carry k3 (ne _ (by rw [(h.lev i hi).kv]; decide)) (kd _ (by rw [(h.lev i hi).kv]; decide)) (fun k hk => kd _ (by rw [(h.lev i hi).kl k hk]; decide)) (fun _ _ => rfl)
    linj := h.linj
    kl := fun q hq => (kd _ (by rw [h.kl q hq]; decide)).trans (h.kl q hq)
    inj := h.inj
    sq := fun q hq => by
      show s.sq (lq sl bd q) = (S.pl q).map (upd S.node e x)
      rw [h.sq q hq]
      exact List.map_congr_left fun y hy => (hn y (fun e9 => hnot q hq (e9 ▸ hy))).symm
    ent := fun q y hq hy => by
      have hye : y ≠ e := fun e9 => hnot q hq (e9 ▸ hy)
      obtain ⟨g1, g2, g3, g4, g5⟩ := h.ent q y hq hy
      refine ⟨(kd y (by rw [g1]; decide)).trans g1, other y _ hye g2, ?_, ?_, ?_⟩
      · show (s.node x (ptrN e)).kd (upd S.node e x y) = 2
        rw [hn y hye]; exact (kd _ (by rw [g3]; decide)).trans g3
      · show ((s.node x (ptrN e)).nd (upd S.node e x y)).val = _
        rw [hn y hye, ndn _ (by rw [g3]; decide)]; exact g4
      · show 0 ≤ upd S.lev e a y ∧ (q = 256 → 4 ≤ upd S.lev e a y) ∧ (q < 256 → (q : Int) = upd S.lev e a y * 64 + S.slot y ∧ 0 ≤ S.slot y ∧ S.slot y < 64) ∧ S.due y < 18446744073709551616 ∧ upd S.nv e (ptrN x) y = ptrN (upd S.node e x y)
        rw [hl9 y hye, upd_ne S.nv _ hye, hn y hye]; exact g5
    one := h.one
    nodup := h.nodup
    hang := fun y hy => by
      obtain ⟨g1, g2, g3⟩ := h.hang y hy
      refine ⟨(kd y (by rw [g1]; decide)).trans g1, ?_, g3⟩
      by_cases hye : y = e
      · subst hye
        unfold EB_t
        show Blk W3 y (ecl_t (S.dl y) (S.val y) (S.due y) (ptrN v) (upd S.lev y a y) (S.slot y) (upd S.nv y (ptrN x) y)) _
        rw [upd_same, upd_same]; exact b1
      · exact other y _ hye g2
    hnd := h.hnd
    out := fun y hy => by
      have hy6 : s.kd y = 6 := by
        by_cases e9 : y = x
        · rw [e9] at hy
          have : (s.node x (ptrN e)).kd x = 2 := upd_same _ _ _
          rw [this] at hy; cases hy
        · have : (s.node x (ptrN e)).kd y = s.kd y := upd_ne _ _ e9
          rw [this] at hy; exact hy
      rcases h.out y hy6 with g1 | g1 | g1
      · exact .inl g1
      · exact .inr (.inl g1)
      · by_cases hye : y = e
        · exact .inr (.inl (by rw [hye]; simp))
        · exact .inr (.inr (other y _ hye g1)) }

/-- an entry that hung has come to stand at a place -/
theorem WB_t.turn {s s' : LS} {v : Nat} {lv : Nat → Nat} {sl : Nat → Nat → Nat} {bd : Nat} {S : WSt} {L : List Nat} {n : Nat} {W W' : World} {e q0 : Nat} {sn : Int} {T : Nat → Prop} (h : WB_t s v lv sl bd S (e :: L) n W) (hq0 : q0 < 257) (hs : LW_t s' W') (hkd : s'.kd = s.kd) (hlv : LV s' = LV s)
    (hsq : s'.sq = upd s.sq (lq sl bd q0) (s.sq (lq sl bd q0) ++ [S.node e])) (k : Kept T W W') (hT : ∀ y, s.kd y = 5 ∨ (s.kd y = 6 ∧ y ≠ e) → ¬ T y) (hlevs : ∀ i, i < 4 → LvB_t s' (lv i) (sl i) W')
    (he : EB_t { S with slot := upd S.slot e sn } W' e (ptrN v)) (hnode : s.kd (S.node e) = 2) (hval : LV s (S.node e) = ptrN e) (hnv : S.nv e = ptrN (S.node e)) (hl0 : 0 ≤ S.lev e) (hl1 : q0 = 256 → 4 ≤ S.lev e) (hl2 : q0 < 256 → (q0 : Int) = S.lev e * 64 + sn ∧ 0 ≤ sn ∧ sn < 64) :
    WB_t s' v lv sl bd { S with pl := putAt S.pl q0 e, slot := upd S.slot e sn } L n W' := by
  obtain ⟨ke, be, hdue, hnot⟩ := h.hang e (by simp)
  have heL : e ∉ L := (List.nodup_cons.1 h.hnd).1
  have mem : ∀ q y, y ∈ putAt S.pl q0 e q ↔ y ∈ S.pl q ∨ (q = q0 ∧ y = e) := fun q y => by
    unfold putAt
    by_cases hq : q = q0
    · subst hq; rw [upd_same]; simp
    · rw [upd_ne _ _ hq]; simp [hq]
  have hvv : ∀ x, (s'.nd x).val = (s.nd x).val := fun x => congrFun hlv x
  have other : ∀ y H, s.kd y = 6 → y ≠ e → EB_t S W y H → EB_t { S with pl := putAt S.pl q0 e, slot := upd S.slot e sn } W' y H := fun y H hy6 hy hb => by
    unfold EB_t
    show Blk W' y (ecl_t (S.dl y) (S.val y) (S.due y) H (S.lev y) (upd S.slot e sn y) (S.nv y)) _
    rw [upd_ne _ _ hy]
    exact Blk.kept hb k (hT y (.inr ⟨hy6, hy⟩))
  exact {
    kv := by rw [hkd]; exact h.kv
    blk := h.blk.kept k (hT v (.inl h.kv))
    now := h.now
    lw := hs
    lev := hlevs
    linj := h.linj
    kl := fun q hq => by rw [hkd]; exact h.kl q hq
    inj := h.inj
    sq := fun q hq => by
      show s'.sq (lq sl bd q) = (putAt S.pl q0 e q).map S.node
      unfold putAt
      rw [hsq]
      by_cases hqq : q = q0
      · subst hqq; rw [upd_same, upd_same, h.sq q hq, List.map_append]; rfl
      · rw [upd_ne _ _ hqq, upd_ne _ _ (fun e9 => hqq (h.inj q q0 hq hq0 e9))]; exact h.sq q hq
    ent := fun q y hq hy => by
      rcases (mem q y).1 hy with hy | ⟨rfl, rfl⟩
      · have hye : y ≠ e := fun e9 => hnot q hq (e9 ▸ hy)
        obtain ⟨g1, g2, g3, g4, g5⟩ := h.ent q y hq hy
        refine ⟨by rw [hkd]; exact g1, other y _ g1 hye g2, by rw [hkd]; exact g3, (hvv _).trans g4, ?_⟩
        show 0 ≤ S.lev y ∧ (q = 256 → 4 ≤ S.lev y) ∧ (q < 256 → (q : Int) = S.lev y * 64 + upd S.slot e sn y ∧ 0 ≤ upd S.slot e sn y ∧ upd S.slot e sn y < 64) ∧ S.due y < 18446744073709551616 ∧ S.nv y = ptrN (S.node y)
        rw [upd_ne _ _ hye]; exact g5
      · refine ⟨by rw [hkd]; exact ke, he, by rw [hkd]; exact hnode, (hvv _).trans hval, hl0, hl1, ?_, hdue, hnv⟩
        show q < 256 → (q : Int) = S.lev y * 64 + upd S.slot y sn y ∧ 0 ≤ upd S.slot y sn y ∧ upd S.slot y sn y < 64
        rw [upd_same]; exact hl2
    one := fun q r y hq hr h1 h2 => by
      rcases (mem q y).1 h1 with g1 | ⟨e1, e2⟩
      · rcases (mem r y).1 h2 with g2 | ⟨_, e2⟩
        · exact h.one q r y hq hr g1 g2
        · exact absurd (e2 ▸ g1) (hnot q hq)
      · rcases (mem r y).1 h2 with g2 | ⟨e3, _⟩
        · exact absurd (e2 ▸ g2) (hnot r hr)
        · rw [e1, e3]
    nodup := fun q hq => by
      show (putAt S.pl q0 e q).Nodup
      unfold putAt
      by_cases hqq : q = q0
      · subst hqq
        rw [upd_same, List.nodup_append]
        refine ⟨h.nodup q hq, by simp, fun a ha b hb e9 => ?_⟩
        rw [List.mem_singleton.1 hb] at e9
        exact hnot q hq (e9 ▸ ha)
      · rw [upd_ne _ _ hqq]; exact h.nodup q hq
    hang := fun y hy => by
      have hye : y ≠ e := fun e9 => heL (e9 ▸ hy)
      obtain ⟨g1, g2, g3, g4⟩ := h.hang y (List.mem_cons_of_mem _ hy)
      refine ⟨by rw [hkd]; exact g1, other y _ g1 hye g2, g3, fun q hq h9 => ?_⟩
      rcases (mem q y).1 h9 with h9 | ⟨_, h9⟩
      · exact g4 q hq h9
      · exact hye h9
    hnd := (List.nodup_cons.1 h.hnd).2
    out := fun y hy => by
      rw [hkd] at hy
      by_cases hye : y = e
      · exact .inl ⟨q0, hq0, (mem q0 y).2 (.inr ⟨rfl, hye⟩)⟩
      · rcases h.out y hy with ⟨q, hq, h1⟩ | h1 | h1
        · exact .inl ⟨q, hq, (mem q y).2 (.inl h1)⟩
        · rcases List.mem_cons.1 h1 with h1 | h1
          · exact absurd h1 hye
          · exact .inr (.inl h1)
        · exact .inr (.inr (other y _ hy hye h1)) }
theorem kPut_t (s : LS) (w : World) (h : LW_t s w) (l x : Nat) (hl : s.kd l = 1) (hx : s.kd x = 2) (hno : ∀ l', s.kd l' = 1 → x ∉ s.sq l') (hbig : (s.sq l).length < 9223372036854775807) :
    Calls Try.prog 59 #[.pointer (some ⟨l, 0, none⟩), .pointer (some ⟨x, 0, none⟩)] w fun e w' => e = .returned (.int .i64 0) ∧ Kept (fun y => s.kd y = 1 ∨ s.kd y = 2) w w' ∧ ∃ s', LW_t s' w' ∧ s'.kd = s.kd ∧ s'.sq = upd s.sq l (s.sq l ++ [x]) ∧ LV s' = LV s := by
  have hh : (s.nd x).home = none := by
    rcases h.inv.own x hx with h1 | ⟨l', h1, h2⟩
    · exact h1
    · exact absurd h2 (hno l' h1)
  refine (lput_t s w h l x hl hx hh hbig).mono ?_
  rintro e w1 ⟨rfl, h1, k1⟩
  exact ⟨rfl, k1, _, h1, rfl, rfl, LS.put_val ..⟩

end Go.Proofs.Ythamdbfilpegjaa
