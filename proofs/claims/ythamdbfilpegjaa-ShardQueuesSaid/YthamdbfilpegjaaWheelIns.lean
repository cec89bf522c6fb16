/-
  What stands here: an entry is inserted. Under no condition but that the world holds the wheel.
-/
import Derived.Test.YthamdbfilpegjaaWheelTake
import Derived.Test.YthamdbfilpegjaaWheelPlace
namespace Go.Proofs.Ythamdbfilpegjaa
set_option linter.unusedVariables false
set_option linter.unusedSimpArgs false
open Go.RowKit Go.Proofs
/-- a task -/
structure TaskV where
  id : Int
  slot : Int
  gen : Int
  dl : Int
  per : Int
abbrev TaskV.v (t : TaskV) : Value := .agg #[.int .u64 t.id, .int .i64 t.slot, .int .u64 t.gen, .int .u64 t.dl, .int .u64 t.per]
abbrev vcell_t (z : TaskV) : Nat → Value := fun i => match i with
  | 0 => .int .u64 z.id
  | 1 => .int .i64 z.slot
  | 2 => .int .u64 z.gen
  | 3 => .int .u64 z.dl
  | _ => .int .u64 z.per
/-- a new entry hangs -/
theorem WB_t.fresh {s : LS} {v : Nat} {lv : Nat → Nat} {sl : Nat → Nat → Nat} {bd : Nat} {S : WSt} {L : List Nat} {n : Nat} {W W' : World} (h : WB_t s v lv sl bd S L n W) {e d : Nat} {xs : Nat → Value} (he : W.heap.size = e) (hd : d < 18446744073709551616) (hw : W' = W.alloc (.cells (ecl_t (.int .u64 d) xs d (ptrN v) 0 0 (.pointer none)) 105)) :
    WB_t (s.mark e 6) v lv sl bd { S with dl := upd S.dl e (.int .u64 d), val := upd S.val e xs, due := upd S.due e d, lev := upd S.lev e 0, slot := upd S.slot e 0, nv := upd S.nv e (.pointer none) } (e :: L) n W' := by
  have k : Still W W' := by rw [hw]; exact (Kept.refl _ _).alloc _
  have ke : s.kd e = 0 := h.lw.fresh e (by omega)
  have kd : ∀ y, s.kd y ≠ 0 → (s.mark e 6).kd y = s.kd y := fun y hy => upd_ne _ _ (fun e9 => hy (by rw [e9]; exact ke))
  have ne6 : ∀ y, s.kd y = 6 → y ≠ e := fun y hy e9 => by rw [e9, ke] at hy; cases hy
  obtain ⟨S1, hS1⟩ : ∃ S1 : WSt, S1 = { S with dl := upd S.dl e (.int .u64 d), val := upd S.val e xs, due := upd S.due e d, lev := upd S.lev e 0, slot := upd S.slot e 0, nv := upd S.nv e (.pointer none) } := ⟨_, rfl⟩
  rw [← hS1]
  have a1 : S1.now = S.now := by rw [hS1]
  have a2 : S1.pl = S.pl := by rw [hS1]
  have a3 : S1.node = S.node := by rw [hS1]
  have a4 : ∀ y, y ≠ e → S1.dl y = S.dl y ∧ S1.val y = S.val y ∧ S1.due y = S.due y ∧ S1.lev y = S.lev y ∧ S1.slot y = S.slot y ∧ S1.nv y = S.nv y := fun y hy => by
    rw [hS1]; exact ⟨upd_ne _ _ hy, upd_ne _ _ hy, upd_ne _ _ hy, upd_ne _ _ hy, upd_ne _ _ hy, upd_ne _ _ hy⟩
  have a5 : S1.dl e = .int .u64 d ∧ S1.val e = xs ∧ S1.due e = d ∧ S1.lev e = 0 ∧ S1.slot e = 0 ∧ S1.nv e = .pointer none := by
    rw [hS1]; exact ⟨upd_same _ _ _, upd_same _ _ _, upd_same _ _ _, upd_same _ _ _, upd_same _ _ _, upd_same _ _ _⟩
  have other : ∀ y H, s.kd y = 6 → EB_t S W y H → EB_t S1 W' y H := fun y H hy hb => by
    obtain ⟨b1, b2, b3, b4, b5, b6⟩ := a4 y (ne6 y hy)
    unfold EB_t
    rw [b1, b2, b3, b4, b5, b6]
    exact Blk.kept hb k (fun f => f)
  exact {
    kv := (kd v (by rw [h.kv]; decide)).trans h.kv
    blk := by rw [a1]; exact h.blk.still k
    now := by rw [a1]; exact h.now
    lw := (h.lw.still k).mark ke (by omega) (by rw [hw]; simp; omega)
    lev := fun i hi => (h.lev i hi).carry k (fun f => f) (kd _ (by rw [(h.lev i hi).kv]; decide)) (fun j hj => kd _ (by rw [(h.lev i hi).kl j hj]; decide)) (fun _ _ => rfl)
    linj := h.linj
    kl := fun q hq => (kd _ (by rw [h.kl q hq]; decide)).trans (h.kl q hq)
    inj := h.inj
    sq := fun q hq => by rw [a2, a3]; exact h.sq q hq
    ent := fun q y hq hy => by
      rw [a2] at hy
      obtain ⟨g1, g2, g3, g4, g5⟩ := h.ent q y hq hy
      obtain ⟨b1, b2, b3, b4, b5, b6⟩ := a4 y (ne6 y g1)
      rw [a3, b3, b4, b5, b6]
      exact ⟨(kd y (by rw [g1]; decide)).trans g1, other y _ g1 g2, (kd _ (by rw [g3]; decide)).trans g3, g4, g5⟩
    one := by rw [a2]; exact h.one
    nodup := by rw [a2]; exact h.nodup
    hang := fun y hy => by
      rcases List.mem_cons.1 hy with hy | hy
      · rw [hy, a2]
        refine ⟨upd_same _ _ _, ?_, by rw [a5.2.2.1]; exact hd, fun q hq h9 => by have := (h.ent q e hq h9).1; rw [ke] at this; cases this⟩
        unfold EB_t
        rw [a5.1, a5.2.1, a5.2.2.1, a5.2.2.2.1, a5.2.2.2.2.1, a5.2.2.2.2.2, hw]
        exact Blk.newAt _ _ _ he
      · obtain ⟨g1, g2, g3, g4⟩ := h.hang y hy
        rw [a2, (a4 y (ne6 y g1)).2.2.1]
        exact ⟨(kd y (by rw [g1]; decide)).trans g1, other y _ g1 g2, g3, g4⟩
    hnd := List.nodup_cons.2 ⟨(fun h9 => by have := (h.hang e h9).1; rw [ke] at this; cases this), h.hnd⟩
    out := fun y hy => by
      by_cases hye : y = e
      · exact .inr (.inl (by rw [hye]; simp))
      · have hy6 : s.kd y = 6 := (upd_ne _ _ hye).symm.trans hy
        rcases h.out y hy6 with h1 | h1 | h1
        · rw [a2]; exact .inl h1
        · exact .inr (.inl (List.mem_cons_of_mem _ h1))
        · exact .inr (.inr (other y _ hy6 h1)) }
/-- what an insert leaves -/
structure WIns_t (s s' : LS) (S S' : WSt) (e d : Nat) (xs : Nat → Value) (w w' : World) : Prop where
  now : S'.now = S.now
  pl : S'.pl = putAt S.pl (plc d S.now) e
  due : S'.due = upd S.due e d
  dl : S'.dl = upd S.dl e (.int .u64 d)
  val : S'.val = upd S.val e xs
  kd : ∀ y, y < w.heap.size → s'.kd y = s.kd y
  ke : s'.kd e = 6
  kept : Kept (fun y => s.kd y ≠ 0) w w'

set_option maxHeartbeats 1000000 in
theorem wins_no_t {s : LS} {v : Nat} {lv : Nat → Nat} {sl : Nat → Nat → Nat} {bd : Nat} {S : WSt} {L : List Nat} {n : Nat} (w : World) (h : WB_t s v lv sl bd S L n w) (d : Nat) (hle : d ≤ S.now) (z : TaskV) :
    Calls Try.prog 27 #[.pointer (some ⟨v, 0, none⟩), .int .u64 (d : Int), .agg #[.int .u64 z.id, .int .i64 z.slot, .int .u64 z.gen, .int .u64 z.dl, .int .u64 z.per]] w fun r w' => r = .returned (.tuple #[.pointer none, .int .i64 1]) ∧ Still w w' := by
  have c0 : (w.alloc (.cells #[.int .u64 z.id, .int .i64 z.slot, .int .u64 z.gen, .int .u64 z.dl, .int .u64 z.per] 31)).cell? ⟨v, 0, none⟩ = some (.int .u64 S.now) := (h.blk.alloc _).cell 0
  have hle' : decide ((d : Int) ≤ (S.now : Int)) = true := decide_eq_true (by omega)
  clear h
  go_enter Try.func27, Try.ntmps27
  go_wp2_with fail
  go_ret2
  exact ⟨rfl, (still_refl w).alloc _⟩
set_option maxHeartbeats 1000000 in
theorem wins_t {s : LS} {v : Nat} {lv : Nat → Nat} {sl : Nat → Nat → Nat} {bd : Nat} {S : WSt} {n : Nat} (w : World) (h : WB_t s v lv sl bd S [] n w) (hbig : nAll S.pl < 80000) (hn : n < 80000) (d : Nat) (hlt : S.now < d) (hd : d < 18446744073709551616) (z : TaskV) :
    Calls Try.prog 27 #[.pointer (some ⟨v, 0, none⟩), .int .u64 (d : Int), .agg #[.int .u64 z.id, .int .i64 z.slot, .int .u64 z.gen, .int .u64 z.dl, .int .u64 z.per]] w fun r w' => r = .returned (.tuple #[.pointer (some ⟨w.heap.size + 1, 0, none⟩), .int .i64 0]) ∧ ∃ s' S', WB_t s' v lv sl bd S' [] (n + 1) w' ∧ WIns_t s s' S S' (w.heap.size + 1) d (vcell_t z) w w' := by
  have h00 := h
  obtain ⟨W0, hW0⟩ : ∃ W0, W0 = w.alloc (.cells #[.int .u64 z.id, .int .i64 z.slot, .int .u64 z.gen, .int .u64 z.dl, .int .u64 z.per] 31) := ⟨_, rfl⟩
  have kW : Still w W0 := by rw [hW0]; exact (still_refl w).alloc _
  have bT := Blk.new w #[.int .u64 z.id, .int .i64 z.slot, .int .u64 z.gen, .int .u64 z.dl, .int .u64 z.per] 31
  have hsz0 : W0.heap.size = w.heap.size + 1 := by rw [hW0]; simp
  have HSZ0 := Lib.hid hsz0
  clear hsz0
  have h := h00.still kW
  have c0 : (w.alloc (.cells #[.int .u64 z.id, .int .i64 z.slot, .int .u64 z.gen, .int .u64 z.dl, .int .u64 z.per] 31)).cell? ⟨v, 0, none⟩ = some (.int .u64 S.now) := (h00.blk.alloc _).cell 0
  clear h00
  have H := Lib.hid h
  have H1 := Lib.hid (h.fresh (xs := vcell_t z) rfl hd rfl)
  have KE := Lib.hid (show (s.mark W0.heap.size 6).kd W0.heap.size = 6 from upd_same _ _ _)
  have KD := Lib.hid (show ∀ y, y < W0.heap.size → (s.mark W0.heap.size 6).kd y = s.kd y from fun y hy => upd_ne _ _ (by omega))
  have HB := Lib.hid hbig
  clear h hbig
  go_enter Try.func27, Try.ntmps27
  go_upto_region 6 with fail
  rw [← hW0]
  have hez := HSZ0.out
  rw [← hez]
  clear hez
  generalize he : W0.heap.size = e at *
  obtain ⟨w1, hw1⟩ : ∃ w1, w1 = W0.alloc (.cells (ecl_t (.int .u64 d) (vcell_t z) d (ptrN v) 0 0 (.pointer none)) 105) := ⟨_, rfl⟩
  rw [← hw1] at H1
  have K1 := Lib.hid (show Still w w1 by rw [hw1]; exact kW.alloc _)
  have hs1 : w1.heap.size = e + 1 := by rw [hw1]; simp [he]
  have hnv : nAll S.pl < 90000 := by have := HB.out; omega
  simp only [ecl_t, vcell_t, ptrN] at hw1
  rw [← hw1]
  clear hw1
  go_wp2_with fail
  refine (wplace_t w1 H1.out (by exact hnv)).mono ?_
  rintro r w2 ⟨rfl, s2, S2, b2, sm2, p2, kd2, lv2, k2⟩
  have c6 : w2.cell? ⟨v, 6, none⟩ = some (.int .i64 n) := b2.blk.cell 6
  have f6 := b2.blk.free 6
  obtain ⟨w3, hw3⟩ : ∃ w3, w3 = w2.setCell ⟨v, 6, none⟩ (.int .i64 ((n : Int) + 1)) := ⟨_, rfl⟩
  have B3 := Lib.hid (b2.setN (m := n + 1) hw3)
  have hkd : ∀ y, y < e → s2.kd y = s.kd y := fun y hy => (kd2 y (by omega)).trans (KD.out y (by omega))
  have hv0 : s.kd v ≠ 0 := by rw [H.out.kv]; decide
  have F := Lib.hid (show WIns_t s s2 S S2 e d (vcell_t z) w w3 from ⟨sm2.now, by rw [p2]; show putAt S.pl (plc (upd S.due e d e) S.now) e = _; rw [upd_same], sm2.due, sm2.dl, sm2.val, fun y hy => hkd y (by have := HSZ0.out; omega), (kd2 e (by omega)).trans KE.out, by
    rw [hw3]
    refine Kept.setCell ((lstill_kept K1.out).step k2 (fun y hy h9 => ?_)) (fun _ => hv0) _
    rw [KD.out y (by have := HSZ0.out; omega)] at h9; exact h9⟩)
  have HW3 := Lib.hid hw3
  clear b2 sm2 p2 kd2 lv2 k2 hw3 hkd hv0
  go_upto_region 8 with fail
  rw [← HW3.out]
  clear H H1 HB K1 c0 c6 f6 hs1 hnv
  go_wp2_with fail
  have he2 := HSZ0.out
  clear he
  subst he2
  go_ret2
  exact ⟨rfl, s2, S2, B3.out, F.out⟩

end Go.Proofs.Ythamdbfilpegjaa
