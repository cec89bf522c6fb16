/-
  What stands here: the document's example of a shard. Under no condition.
-/
import Derived.Test.YthamdbfilpegjaaShardRef
namespace Go.Proofs.Ythamdbfilpegjaa
set_option linter.unusedVariables false
set_option linter.unusedSimpArgs false
open Go.RowKit Go.Proofs
theorem trow_one {w : World} {g : Nat} {z : TaskV} {t : TypeId} (h : Blk w g #[.int .u64 z.id, .int .i64 z.slot, .int .u64 z.gen, .int .u64 z.dl, .int .u64 z.per] t) : TRow (fun _ => True) w (.slice (some ⟨g, 0, none⟩) 1 1) [z] :=
  ⟨some ⟨g, 0, none⟩, 1, rfl, Nat.le_refl _, by unfold maxLen; omega, fun _ => ⟨g, rfl, h.lt, trivial, fun j t hj i hi => by
    match j, hj with
    | 0, hj =>
      simp at hj
      subst hj
      rw [Nat.mul_zero, Nat.zero_add]
      match i, hi with
      | 0, _ => exact h.cell 0
      | 1, _ => exact h.cell 1
      | 2, _ => exact h.cell 2
      | 3, _ => exact h.cell 3
      | 4, _ => exact h.cell 4⟩⟩
set_option maxHeartbeats 4000000 in
set_option maxRecDepth 100000 in
theorem alive_any (w : World) : Calls Try.prog 5 #[] w fun e w' => e = .returned (.bool true) ∧ Below w.heap.size w w' := by
  go_enter Try.func5, Try.ntmps5
  go_wp2_with fail
  refine (shnew 4 (by omega) (by omega) w w (Below.refl _ _)).mono ?_
  rintro e w1 ⟨s, r, l, v, ls, lv, sl, bd, S, rfl, x1, n1, p1, y1, sh1, ks1, hs1⟩
  have X1 := Lib.hid (show SX ls v lv sl bd S s r l w w1 from ⟨x1, sh1, ks1, hs1⟩)
  have c1 : nAll S.pl = 0 := nAll_none p1
  have st1 : ∀ e, ¬ Stands S.pl e := fun e ⟨q, _, he⟩ => by rw [p1 q] at he; cases he
  have HF := Lib.hid (And.intro n1 (And.intro c1 st1))
  clear x1 sh1 ks1 hs1 n1 p1 y1 c1 st1
  go_wp2_with fail
  refine (arm_ok X1.out ⟨64, 0, 0, 0, 0⟩ (by decide) ⟨by decide⟩ (by have := HF.out.1; omega) (by have := HF.out.2.1; omega)).mono ?_
  rintro e w2 ⟨d, en, ls2, S2, hd, rfl, x2, i2⟩
  have hd1 : d = 1 := by rw [hd, HF.out.1]; rfl
  subst hd1
  have X2 := Lib.hid x2
  have hst2 : ∀ y, Stands S2.pl y ↔ y = en := fun y => by
    rw [i2.st]; exact ⟨fun h9 => h9.elim (fun h8 => absurd h8 (HF.out.2.2 y)) id, .inr⟩
  have hn2 : S2.now = 0 := i2.now.trans HF.out.1
  have hc2 : nAll S2.pl = 1 := by rw [i2.cnt, HF.out.2.1]
  have hv2 : S2.val en = vcell_t ⟨64, 0, 0, 1, 0⟩ := by rw [i2.val, upd_same]; rfl
  have hdu : S2.due en = 1 := by rw [i2.due, upd_same]
  have HG := Lib.hid (And.intro hst2 (And.intro hn2 (And.intro hc2 (And.intro hv2 hdu))))
  clear x2 i2 hd hst2 hn2 hc2 hv2 hdu
  go_wp2_with fail
  refine (shturn X2.out (fun _ => ⟨64, 0, 0, 1, 0⟩) (fun e he => by rw [(HG.out.1 e).1 he]; exact HG.out.2.2.2.1) (by have := HG.out.2.1; omega) (by have := HG.out.2.2.1; omega)).mono ?_
  rintro e w3 ⟨ls3, S3, es, R, rfl, x3, t3, r3⟩
  have hes : es = [en] := only_one t3.nodup (fun e => by
    rw [t3.mem, HG.out.1, HG.out.2.1]
    exact ⟨fun h9 => h9.1, fun h9 => ⟨h9, by rw [h9]; exact HG.out.2.2.2.2⟩⟩)
  subst hes
  have X3 := Lib.hid x3
  have R3 := Lib.hid r3
  obtain ⟨a, cap, rfl, -⟩ := r3
  clear x3 t3
  go_wp2_with fail
  have b4 := Blk.new w3 #[.int .u64 64, .int .i64 0, .int .u64 0, .int .u64 1, .int .u64 0] 31
  have k4 : Still w3 (w3.alloc (.cells #[.int .u64 64, .int .i64 0, .int .u64 0, .int .u64 1, .int .u64 0] 31)) := (still_refl w3).alloc _
  refine (rtasks _ _ _ _ _ _ _ (R3.out.keep k4 (fun _ _ _ f => f)) (trow_one (z := ⟨64, 0, 0, 1, 0⟩) b4) (by simp)).mono ?_
  rintro e w5 ⟨rfl, k5⟩
  rw [decide_eq_true (show List.map (fun _ => (⟨64, 0, 0, 1, 0⟩ : TaskV)) [en] = [⟨64, 0, 0, 1, 0⟩] from rfl)]
  go_wp2_with fail
  go_ret
  exact ⟨rfl, below_still (below_still X3.out.x.bel k4 (Nat.le_refl _)) k5 (Nat.le_refl _)⟩
end Go.Proofs.Ythamdbfilpegjaa
