/-
  What stands here: a shard's ring and lock. Under no condition but that the world holds them.
-/
import Derived.Test.YthamdbfilpegjaaShardAlive
import Derived.Test.YthamdbfilpegjaaRingKPop
import Derived.Test.YthamdbfilpegjaaRingKFill
import Derived.Test.YthamdbfilpegjaaRingKStep
import Derived.Test.YthamdbfilpegjaaLockFns
namespace Go.Proofs.Ythamdbfilpegjaa
set_option linter.unusedVariables false
set_option linter.unusedSimpArgs false
open Go.RowKit Go.Proofs
theorem made_slotk {n j : Nat} (h : j < n) : SlotK (madeCells #[.int .i64 0, .int .i64 0, .int .i64 0, .int .i64 0, .int .u64 0, .int .i64 0, .int .u64 0, .int .u64 0, .int .u64 0] (n * 9)) j 0 zT := by
  have hg : ∀ i, i < 9 → (madeCells #[.int .i64 0, .int .i64 0, .int .i64 0, .int .i64 0, .int .u64 0, .int .i64 0, .int .u64 0, .int .u64 0, .int .u64 0] (n * 9))[j * 9 + i]? = (#[.int .i64 0, .int .i64 0, .int .i64 0, .int .i64 0, .int .u64 0, .int .i64 0, .int .u64 0, .int .u64 0, .int .u64 0] : Array Value)[i]? := fun i hi => made_at rfl hi h
  refine ⟨hg 0 (by omega), ⟨0, hg 1 (by omega)⟩, ⟨0, hg 2 (by omega)⟩, ⟨0, hg 3 (by omega)⟩, ⟨0, 0, 0, 0, 0⟩, rfl, fun i hi => ?_⟩
  rw [Nat.add_assoc]
  match i, hi with
  | 0, _ => exact hg 4 (by omega)
  | 1, _ => exact hg 5 (by omega)
  | 2, _ => exact hg 6 (by omega)
  | 3, _ => exact hg 7 (by omega)
  | 4, _ => exact hg 8 (by omega)
set_option maxHeartbeats 2000000 in
set_option maxRecDepth 100000 in
theorem rknew_t (n : Nat) (h1 : 1 ≤ n) (h64 : n ≤ 64) (w : World) :
    Calls Try.prog 21 #[.int .i64 n] w fun e w' => ∃ b sb, e = .returned (.tuple #[.pointer (some ⟨b, 0, none⟩), .int .i64 0]) ∧ RingK b sb 95 86 ⟨n, 0, 0, fun _ => false, fun _ => zT⟩ w' ∧ Still w w' ∧ w.heap.size ≤ b ∧ w.heap.size ≤ sb := by
  obtain ⟨i0, hi, hz0, hz1, hz2⟩ := info_parts infoSlot_t
  go_enter Try.func21, Try.ntmps21
  go_wp2_with (first | (at_make; refine wpList_make_full _ rfl _ _ 93 rfl w.heap.size 86 i0 (.agg #[.int .i64 0, .int .i64 0, .int .i64 0, .int .i64 0, .int .u64 0, .int .i64 0, .int .u64 0, .int .u64 0, .int .u64 0]) 9 Try.underlying93 hi hz0 hz1 _ _ _ _ n rfl rfl rfl rfl (by rw [hz2]; omega) (by unfold maxLen; omega) (Nat.le_refl _) ?_) | fail)
  intro w1 how hgr
  have bS := blk_of_made how
  have k1 : Still w w1 := (Kept.refl (fun _ => False) w).grown hgr (fun k e _ => by cases e)
  have hz : w.heap.size < w1.heap.size := bS.lt
  have hsl : ∀ j, j < n → SlotK (madeCells #[.int .i64 0, .int .i64 0, .int .i64 0, .int .i64 0, .int .u64 0, .int .i64 0, .int .u64 0, .int .u64 0, .int .u64 0] (n * 9)) j 0 zT := fun j hj => made_slotk hj
  have HSL := Lib.hid hsl
  clear how hgr hsl
  go_wp2_with fail
  have bB : Blk (w1.alloc (.cells #[.slice (some ⟨w.heap.size, 0, none⟩) n n, .int .i64 0, .int .i64 0, .int .i64 0, .int .i64 0, .int .i64 0] 95)) w1.heap.size (ringC w.heap.size ⟨n, 0, 0, fun _ => false, fun _ => zT⟩ 0 0 0) 95 := Blk.new w1 _ _
  have bS2 := bS.alloc (.cells #[.slice (some ⟨w.heap.size, 0, none⟩) n n, .int .i64 0, .int .i64 0, .int .i64 0, .int .i64 0, .int .i64 0] 95)
  have hk2 : Below w.heap.size w (w1.alloc (.cells #[.slice (some ⟨w.heap.size, 0, none⟩) n n, .int .i64 0, .int .i64 0, .int .i64 0, .int .i64 0, .int .i64 0] 95)) := below_still (Below.refl _ w) (k1.alloc _) (Nat.le_refl _)
  go_loopw [5, 21] (fun _ i wr => ∃ k : Nat, k ≤ n ∧ i = .int .i64 k ∧ Blk wr w1.heap.size (ringC w.heap.size ⟨n, 0, 0, fun _ => false, fun _ => zT⟩ 0 0 0) 95 ∧
    (∃ c, Blk wr w.heap.size c 86 ∧ ∀ j, j < n → SlotK c j (if j < k then 2 * (j : Int) else 0) zT) ∧ Below w.heap.size w wr) (fun _ i _ => n - (intOf i).toNat)
  case atStart => exact ⟨0, by omega, rfl, bB, ⟨_, bS2, fun j hj => by rw [if_neg (by omega)]; exact HSL.out j hj⟩, hk2⟩
  case round =>
    obtain ⟨k, hk, rfl, bR, ⟨c, bC, hs⟩, hbel⟩ := hrel
    have HS := Lib.hid hs
    clear hs
    have c0 : wr.cell? ⟨w1.heap.size, 0, none⟩ = some (.slice (some ⟨w.heap.size, 0, none⟩) n n) := bR.cell 0
    by_cases hlt : k < n
    · go_wp2_with fail
      refine (store_any w.heap.size (k * 9) c 0 (2 * (k : Int)) _ _ bC (by have := (HS.out k hlt).1; rwa [if_neg (by omega)] at this)).mono ?_
      rintro e w2 ⟨rfl, k2, bC2⟩
      have hR2 := Lib.hid (bR.only k2 (by omega))
      have hb2 := Lib.hid (below_only hbel k2 (Nat.le_refl _) (Nat.le_refl _))
      have HS2 : Hid (∀ j, j < n → SlotK (c.setIfInBounds (k * 9) (.int .i64 (2 * (k : Int)))) j (if j < k + 1 then 2 * (j : Int) else 0) zT) := Lib.hid (fun j hj => by
        by_cases e : j = k
        · subst e
          rw [if_pos (by omega)]
          exact slotk_seq (HS.out j hj)
        · have := slotk_other (HS.out j hj) 0 (by omega) (.int .i64 (2 * (k : Int))) e
          rw [Nat.add_zero] at this
          by_cases h2 : j < k
          · rw [if_pos (by omega)]; rwa [if_pos h2] at this
          · rw [if_neg (by omega)]; rwa [if_neg h2] at this)
      have HC2 := Lib.hid bC2
      clear bC2 k2
      go_wp2_with fail
      go_roundw
      case rel => exact ⟨k + 1, by omega, by go_num, hR2.out, ⟨_, HC2.out, HS2.out⟩, hb2.out⟩
      case measure => simp [intOf]; omega
    · obtain rfl : k = n := by omega
      have hI : RingK w1.heap.size w.heap.size 95 86 ⟨k, 0, 0, fun _ => false, fun _ => zT⟩ wr := by
        refine ⟨⟨h1, h64, Nat.le_refl _, Nat.zero_le _, (by show (0 : Nat) < 1000000000000; omega), fun _ _ => rfl⟩, by omega, ⟨0, 0, 0, bR⟩, ⟨c, bC, fun q _ h2 => ?_⟩⟩
        have h2' : q < k := by simpa using h2
        have := HS.out q h2'
        rw [if_pos h2'] at this
        show SlotK c (q % k) _ _
        rw [Nat.mod_eq_of_lt h2']
        simpa [RS.seq, RS.at_] using this
      have HI := Lib.hid hI
      clear hI
      go_wp2_with fail
      go_ret2
      exact ⟨_, _, rfl, HI.out, ⟨hbel.os, hbel.tape, hbel.output, hbel.size, fun k hk _ => hbel.block k hk⟩, by omega, Nat.le_refl _⟩
theorem fieldq (a b c : Option Addr) (W : World) : (Instr.field 62 (.agg #[.pointer a, .pointer b, .pointer c]) 0).run Try.prog W = .ok (.pointer a) W ∧ (Instr.field 62 (.agg #[.pointer a, .pointer b, .pointer c]) 1).run Try.prog W = .ok (.pointer b) W := ⟨by kernel_rfl, by kernel_rfl⟩
abbrev TRg : TypeId := 95
abbrev TSl : TypeId := 86
/-- a shard, its ring and its lock -/
structure QX (ls : LS) (v : Nat) (lv : Nat → Nat) (sl : Nat → Nat → Nat) (bd : Nat) (S : WSt) (s r sb l : Nat) (rs : RS) (o : Option Int) (n9 : Int) (w W : World) : Prop where
  x : SX ls v lv sl bd S s r l w W
  rk : RingK r sb TRg TSl rs W
  lk : LockAt W l o n9
  k : ls.kd r = 0 ∧ ls.kd sb = 0 ∧ ls.kd l = 0
  g : w.heap.size ≤ r ∧ w.heap.size ≤ sb ∧ w.heap.size ≤ l
  ne : s ≠ r ∧ s ≠ sb ∧ s ≠ l ∧ l ≠ r ∧ l ≠ sb
section
variable {ls : LS} {v : Nat} {lv : Nat → Nat} {sl : Nat → Nat → Nat} {bd : Nat} {S : WSt} {s r sb l : Nat} {rs rs' : RS} {o o' : Option Int} {n9 n8 : Int} {w W W' : World}
theorem QX.still (h : QX ls v lv sl bd S s r sb l rs o n9 w W) (k : Still W W') : QX ls v lv sl bd S s r sb l rs o n9 w W' := ⟨h.x.still k, h.rk.still k, h.lk.still k, h.k, h.g, h.ne⟩
theorem QX.step (h : QX ls v lv sl bd S s r sb l rs o n9 w W) {T : Nat → Prop} (k : Kept T W W') (hT : ∀ y, T y → ls.kd y = 0 ∧ w.heap.size ≤ y ∧ y ≠ s ∧ y ≠ l) (rk : RingK r sb TRg TSl rs' W') : QX ls v lv sl bd S s r sb l rs' o n9 w W' :=
  ⟨⟨h.x.x.keep k (fun y hy => ⟨(hT y hy).1, (hT y hy).2.1⟩), Blk.kept h.x.sh k (fun h9 => (hT s h9).2.2.1 rfl), h.x.ks, h.x.hs⟩, rk, by
    obtain ⟨a, b, c, hb⟩ := h.lk
    exact ⟨a, b, c, hb.kept k (fun h9 => (hT l h9).2.2.2 rfl)⟩, h.k, h.g, h.ne⟩
theorem QX.lock (h : QX ls v lv sl bd S s r sb l rs o n9 w W) (k : Only l W W') (lk : LockAt W' l o' n8) : QX ls v lv sl bd S s r sb l rs o' n8 w W' :=
  ⟨⟨h.x.x.keep k (fun y hy => by rw [hy]; exact ⟨h.k.2.2, h.g.2.2⟩), Blk.kept h.x.sh k (fun h9 => h.ne.2.2.1 h9), h.x.ks, h.x.hs⟩, h.rk.kept k (fun h9 => h.ne.2.2.2.1 h9.symm) (fun h9 => h.ne.2.2.2.2 h9.symm), lk, h.k, h.g, h.ne⟩
theorem QX.rings (h : QX ls v lv sl bd S s r sb l rs o n9 w W) : ∀ y, (y = r ∨ y = sb) → ls.kd y = 0 ∧ w.heap.size ≤ y ∧ y ≠ s ∧ y ≠ l := fun y hy => by
  rcases hy with rfl | rfl
  · exact ⟨h.k.1, h.g.1, fun e => h.ne.1 e.symm, fun e => h.ne.2.2.2.1 e.symm⟩
  · exact ⟨h.k.2.1, h.g.2.1, fun e => h.ne.2.1 e.symm, fun e => h.ne.2.2.2.2 e.symm⟩
theorem qlock (h : QX ls v lv sl bd S s r sb l rs o n9 w W) : Calls Try.prog 11 #[.pointer (some ⟨s, 0, none⟩)] W fun e w' => e = .returned (.pointer (some ⟨l, 0, none⟩)) ∧ Still W w' := by
  have hf := fun W => (fieldq (some ⟨r, 0, none⟩) (some ⟨l, 0, none⟩) (some ⟨v, 0, none⟩) W).2
  go_enter Try.func11, Try.ntmps11
  go_wp2_with fail
  refine (parts_any s r l v W h.x.sh).mono ?_
  rintro e w1 ⟨rfl, k1⟩
  go_wp2_with fail
  go_ret
  exact ⟨rfl, k1⟩
theorem qbegin (h : QX ls v lv sl bd S s r sb l rs o n9 w W) : Calls Try.prog 12 #[.pointer (some ⟨s, 0, none⟩)] W fun e w' => ∃ tk, W.heap.size ≤ tk ∧ e = .returned (.pointer (some ⟨tk, 0, none⟩)) ∧ Still W w' ∧ Blk w' tk (tickC r ⟨0, 0, 0, false⟩) 80 := by
  have hf := fun W => (fieldq (some ⟨r, 0, none⟩) (some ⟨l, 0, none⟩) (some ⟨v, 0, none⟩) W).1
  go_enter Try.func12, Try.ntmps12
  go_wp2_with fail
  refine (parts_any s r l v W h.x.sh).mono ?_
  rintro e w1 ⟨rfl, k1⟩
  go_wp2_with fail
  refine (kbegin_t r w1).mono ?_
  rintro e w2 ⟨rfl, k2, b2⟩
  go_wp2_with fail
  go_ret
  exact ⟨_, k1.size, rfl, k1.trans k2, b2⟩
theorem qready (h : QX ls v lv sl bd S s r sb l rs o n9 w W) : Calls Try.prog 14 #[.pointer (some ⟨s, 0, none⟩)] W fun e w' => e = .returned (.bool rs.ready) ∧ Kept (fun y => y = r ∨ y = sb) W w' ∧ QX ls v lv sl bd S s r sb l rs o n9 w w' := by
  have hf := fun W => (fieldq (some ⟨r, 0, none⟩) (some ⟨l, 0, none⟩) (some ⟨v, 0, none⟩) W).1
  have H := Lib.hid h
  clear h
  go_enter Try.func14, Try.ntmps14
  go_wp2_with fail
  refine (parts_any s r l v W H.out.x.sh).mono ?_
  rintro e w1 ⟨rfl, k1⟩
  have h1 := H.out.still k1
  go_wp2_with fail
  refine (kready_t w1 h1.rk).mono ?_
  rintro e w2 ⟨rfl, r2, k2⟩
  have k2' : Kept (fun y => y = r ∨ y = sb) w1 w2 := k2.mono (fun _ _ e => .inr e)
  have h2 := h1.step k2' h1.rings r2
  have H2 := Lib.hid h2
  clear h1 h2
  go_wp2_with fail
  go_ret
  exact ⟨rfl, (k1.mono (fun _ _ f => f.elim)).trans k2', H2.out⟩
theorem qwaiting (h : QX ls v lv sl bd S s r sb l rs o n9 w W) : Calls Try.prog 16 #[.pointer (some ⟨s, 0, none⟩)] W fun e w' => e = .returned (.int .i64 ((rs.t : Int) - rs.h)) ∧ QX ls v lv sl bd S s r sb l rs o n9 w w' := by
  have hf := fun W => (fieldq (some ⟨r, 0, none⟩) (some ⟨l, 0, none⟩) (some ⟨v, 0, none⟩) W).1
  have H := Lib.hid h
  clear h
  go_enter Try.func16, Try.ntmps16
  go_wp2_with fail
  refine (parts_any s r l v W H.out.x.sh).mono ?_
  rintro e w1 ⟨rfl, k1⟩
  have h1 := H.out.still k1
  go_wp2_with fail
  refine (klen_t w1 h1.rk).mono ?_
  rintro e w2 ⟨rfl, r2, k2⟩
  have h2 := h1.step k2 (fun y hy => h1.rings y (.inl hy)) r2
  have H2 := Lib.hid h2
  clear h1 h2
  go_wp2_with fail
  go_ret
  exact ⟨rfl, H2.out⟩
set_option maxHeartbeats 1000000 in
theorem qpop (h : QX ls v lv sl bd S s r sb l rs o n9 w W) (t9 : TaskV) (er : Int) (hp : ∀ W', Still W W' → Calls Try.prog 40 #[.pointer (some ⟨r, 0, none⟩)] W' fun e w' => e = .returned (.tuple #[t9.v, .int .i64 er]) ∧ RingK r sb TRg TSl rs' w' ∧ Kept (fun x => x = r ∨ x = sb) W' w') :
    Calls Try.prog 17 #[.pointer (some ⟨s, 0, none⟩)] W fun e w' => e = .returned (.tuple #[t9.v, .int .i64 er]) ∧ QX ls v lv sl bd S s r sb l rs' o n9 w w' := by
  have hf := fun W => (fieldq (some ⟨r, 0, none⟩) (some ⟨l, 0, none⟩) (some ⟨v, 0, none⟩) W).1
  have H := Lib.hid h
  have HP := Lib.hid hp
  obtain ⟨W0, hW0⟩ : ∃ W0, W0 = W.alloc (.cells #[.int .u64 0, .int .i64 0, .int .u64 0, .int .u64 0, .int .u64 0] 31) := ⟨_, rfl⟩
  have k0 : Still W W0 := by rw [hW0]; exact (still_refl W).alloc _
  have b0 : Blk W0 W.heap.size #[.int .u64 0, .int .i64 0, .int .u64 0, .int .u64 0, .int .u64 0] 31 := by rw [hW0]; exact Blk.new _ _ _
  have hA : ls.kd W.heap.size = 0 := h.x.x.fr (Nat.le_refl _)
  have hB : w.heap.size ≤ W.heap.size := h.x.x.bel.size
  have hsA : W.heap.size ≠ s := fun e => by have := Blk.lt h.x.sh; omega
  have hlA : W.heap.size ≠ l := fun e => by have := h.lk.lt; omega
  have hrA : ¬ (W.heap.size = r ∨ W.heap.size = sb) := fun e => by have := h.rk.lt; omega
  have HW0 := Lib.hid hW0
  clear h hp hW0
  go_enter Try.func17, Try.ntmps17
  go_wp2_with fail
  rw [← HW0.out]
  have h0 := H.out.still k0
  refine (parts_any s r l v W0 h0.x.sh).mono ?_
  rintro e w1 ⟨rfl, k1⟩
  have h1 := h0.still k1
  have b1 := b0.still k1
  go_wp2_with fail
  refine (HP.out w1 (k0.trans k1)).mono ?_
  rintro e w2 ⟨rfl, r2, k2⟩
  have h2 := h1.step k2 h1.rings r2
  have b2 := b1.kept k2 hrA
  obtain ⟨c0, c1, c2, c3, c4⟩ := box_cells (t := ⟨0, 0, 0, 0, 0⟩) b2
  obtain ⟨f0, f1, f2, f3, f4⟩ := box_free b2
  dsimp only at c0 c1 c2 c3 c4
  have H2 := Lib.hid h2
  clear h0 h1 h2 r2
  simp only [TaskV.v]
  go_wp2_with fail
  obtain ⟨w3, hw3, e3, b3⟩ := box_set (t := ⟨0, 0, 0, 0, 0⟩) (z := t9) b2
  rw [← hw3]
  obtain ⟨p0, p1, p2, p3, p4⟩ := box_cells b3
  refine bodyPost_ret (v := .tuple #[t9.v, .int .i64 er]) (by simp [results, Try.f17, go_sem, p0, p1, p2, p3, p4]) rfl ?_
  exact ⟨rfl, H2.out.step e3 (fun y hy => by rw [hy]; exact ⟨hA, hB, hsA, hlA⟩) (H2.out.rk.kept e3 (fun e => hrA (.inl e.symm)) (fun e => hrA (.inr e.symm)))⟩
end
/-- a ring of which t were put, and h of them popped -/
def RSq (N h t : Nat) (f : Nat → TaskV) : RS := ⟨N, h, t, fun q => decide (q < t), fun q => (f q).v⟩
theorem rsq_next (N h t : Nat) (f : Nat → TaskV) : (RSq N h t f).more.publish t (f t).v = RSq N h (t + 1) f := by
  unfold RSq RS.more RS.publish
  congr 1
  · funext q
    by_cases e : q = t
    · rw [if_pos e, e]; simp
    · rw [if_neg e]; simp only [decide_eq_decide]; omega
  · funext q
    by_cases e : q = t
    · rw [if_pos e, e]
    · rw [if_neg e]
theorem ringk_zero {b sb : Nat} {T Ts : TypeId} {n : Nat} {W : World} (h : RingK b sb T Ts ⟨n, 0, 0, fun _ => false, fun _ => zT⟩ W) (f : Nat → TaskV) : RingK b sb T Ts (RSq n 0 0 f) W := by
  have e : RSq n 0 0 f = ⟨n, 0, 0, fun _ => false, fun q => (f q).v⟩ := by unfold RSq; congr 1
  rw [e]
  exact ⟨⟨h.ok.n1, h.ok.n64, h.ok.ht, h.ok.room, h.ok.big, h.ok.pubs⟩, h.ne, h.ring, h.slots⟩
set_option maxHeartbeats 1000000 in
theorem qnew (n : Nat) (h1 : 1 ≤ n) (h64 : n ≤ 64) (f : Nat → TaskV) (w W : World) (hb : Below w.heap.size w W) :
    Calls Try.prog 6 #[.int .i64 n] W fun e w' => ∃ s r sb l v ls lv sl bd S, e = .returned (.tuple #[.pointer (some ⟨s, 0, none⟩), .int .i64 0]) ∧ QX ls v lv sl bd S s r sb l (RSq n 0 0 f) none 0 w w' ∧ S.now = 0 ∧ (∀ q, S.pl q = []) := by
  go_enter Try.func6, Try.ntmps6
  go_wp2_with fail
  refine (rknew_t n h1 h64 W).mono ?_
  rintro e w1 ⟨r, sb, rfl, r1, k1, g1, g2⟩
  have b1 := below_still hb k1 (Nat.le_refl _)
  have R1 := Lib.hid r1
  have hr1 := r1.lt
  have hne1 := r1.ne
  clear r1
  go_wp2_with fail
  refine (lockNew w1).mono ?_
  rintro e w2 ⟨rfl, k2, l2⟩
  have b2 := below_still b1 k2 (Nat.le_refl _)
  have hl2 := l2.lt
  have L2 := Lib.hid l2
  have R2 := Lib.hid (R1.out.still k2)
  have hlr : w1.heap.size ≠ r := by omega
  have hls : w1.heap.size ≠ sb := by omega
  have hz2 := k2.size
  have hz1 := k1.size
  obtain ⟨l, hl⟩ : ∃ l, l = w1.heap.size := ⟨_, rfl⟩
  have hlg : W.heap.size ≤ l := by omega
  have hrw : r < w2.heap.size ∧ sb < w2.heap.size := by omega
  rw [← hl] at L2 hl2 hlr hls hz2 ⊢
  clear l2 hl
  go_wp2_with fail
  refine (xnew_t 0 (by omega) w w2 b2).mono ?_
  rintro e w3 ⟨v, ls, lv, sl, bd, S, rfl, x3, n3, p3, k3, z3, y3⟩
  have X3 := Lib.hid x3
  have P3 := Lib.hid (show S.now = 0 ∧ (∀ q, S.pl q = []) from ⟨n3, p3⟩)
  have Z3 := Lib.hid z3
  have hsz := x3.bel.size
  have hsz3 := k3.size
  have hwW := hb.size
  clear x3 n3 p3 y3 z3
  go_wp2_with fail
  go_ret2
  have k4 : Still w3 (w3.alloc (.cells #[ptrN r, ptrN l, ptrN v] 64)) := (still_refl w3).alloc _
  refine ⟨_, r, sb, l, v, ls, lv, sl, bd, S, rfl, ⟨⟨X3.out.still k4, Blk.new _ _ _, X3.out.fr (Nat.le_refl _), hsz⟩, ringk_zero (R2.out.still (k3.trans k4)) f, (L2.out.still k3).still k4, ⟨Z3.out r (by omega), Z3.out sb (by omega), Z3.out l (by omega)⟩, ⟨by omega, by omega, by omega⟩, ⟨by omega, by omega, by omega, hlr, hls⟩⟩, P3.out.1, P3.out.2⟩
/-- where a ticket lies -/
def TG (ls : LS) (s r sb l tk : Nat) (w : World) : Prop := ls.kd tk = 0 ∧ w.heap.size ≤ tk ∧ tk ≠ s ∧ tk ≠ l ∧ tk ≠ r ∧ tk ≠ sb
abbrev TTk : TypeId := 80
section
variable {ls : LS} {v : Nat} {lv : Nat → Nat} {sl : Nat → Nat → Nat} {bd : Nat} {S : WSt} {s r sb l tk : Nat} {rs rs' : RS} {k k' : TS} {o o' : Option Int} {n9 n8 : Int} {w W W' : World}
theorem QX.tg (h : QX ls v lv sl bd S s r sb l rs o n9 w W) (ht : W.heap.size ≤ tk) : TG ls s r sb l tk w := by
  have h1 := Blk.lt h.x.sh
  have h2 := h.lk.lt
  have h3 := h.rk.lt
  exact ⟨h.x.x.fr ht, Nat.le_trans h.x.x.bel.size ht, by omega, by omega, by omega, by omega⟩
theorem qstep (h : QX ls v lv sl bd S s r sb l rs o n9 w W) (hg : TG ls s r sb l tk w) (ht : Blk W tk (tickC r k) TTk) (hk : TickOk rs k) (hbig : rs.t + 1 < 1000000000000) (he : stepK rs k = (rs', k')) :
    Calls Try.prog 13 #[.pointer (some ⟨tk, 0, none⟩)] W fun e w' => e = .returned (.int .i64 k'.status) ∧ QX ls v lv sl bd S s r sb l rs' o n9 w w' ∧ Blk w' tk (tickC r k') TTk := by
  refine (kstepped_t W h.rk ht hg.2.2.2.2.1 hg.2.2.2.2.2 hk hbig).mono ?_
  rintro e w1 ⟨rfl, r1, b1, k1⟩
  rw [he] at r1 b1 ⊢
  exact ⟨rfl, h.step k1 (fun y hy => by
    rcases hy with h9 | h9 | h9
    · exact h.rings y (.inl h9)
    · exact h.rings y (.inr h9)
    · rw [h9]; exact ⟨hg.1, hg.2.1, hg.2.2.1, hg.2.2.2.1⟩) r1, b1⟩
theorem qfill (t : TaskV) (h : QX ls v lv sl bd S s r sb l rs o n9 w W) (hg : TG ls s r sb l tk w) (ht : Blk W tk (tickC r k) TTk) (hst : k.status = 2) (hf : k.filled = false) (hp : rs.h ≤ k.pos) (hp2 : k.pos < rs.t) (he : rs.publish k.pos t.v = rs') :
    Calls Try.prog 15 #[.pointer (some ⟨tk, 0, none⟩), t.v] W fun e w' => e = .returned (.int .i64 0) ∧ QX ls v lv sl bd S s r sb l rs' o n9 w w' := by
  refine (kfill_t t W h.rk ht hg.2.2.2.2.1 hg.2.2.2.2.2 hst hf hp hp2).mono ?_
  rintro e w1 ⟨rfl, r1, b1, k1⟩
  rw [he] at r1
  exact ⟨rfl, h.step k1 (fun y hy => by
    rcases hy with h9 | h9
    · exact h.rings y (.inr h9)
    · rw [h9]; exact ⟨hg.1, hg.2.1, hg.2.2.1, hg.2.2.2.1⟩) r1⟩
theorem qtry (who : Int) (h : QX ls v lv sl bd S s r sb l rs o n9 w W) (ho : OwnOk o) (hw : who ≤ 1099511627776) (hn : 0 ≤ n9 ∧ n9 < 1000000) :
    Calls Try.prog 18 #[.pointer (some ⟨l, 0, none⟩), .int .i64 who] W fun e w' => e = .returned (.bool (tryB o who)) ∧ QX ls v lv sl bd S s r sb l rs (tryO o who) (tryN o who n9) w w' := by
  refine (try_any l who n9 o W h.lk ho hw hn).mono ?_
  rintro e w1 ⟨rfl, k1, l1⟩
  exact ⟨rfl, h.lock k1 l1⟩
theorem qleave (who : Int) (h : QX ls v lv sl bd S s r sb l rs o n9 w W) (ho : OwnOk o) (hw : who ≤ 1099511627776) :
    Calls Try.prog 19 #[.pointer (some ⟨l, 0, none⟩), .int .i64 who] W fun e w' => e = .returned (.int .i64 (leaveV o who)) ∧ QX ls v lv sl bd S s r sb l rs (leaveO o who) n9 w w' := by
  refine (leave_any l who n9 o W h.lk ho hw).mono ?_
  rintro e w1 ⟨rfl, k1, l1⟩
  exact ⟨rfl, h.lock k1 l1⟩
end
theorem step1 (r : RS) : stepK r ⟨0, 0, 0, false⟩ = (r, ⟨r.t, 1, 0, false⟩) := by simp [stepK]
theorem step2_full (N : Nat) (f : Nat → TaskV) : stepK (RSq N 0 N f) ⟨N, 1, 0, false⟩ = (RSq N 0 N f, ⟨N, 1, 1, false⟩) := by simp [stepK, weighK, RSq]
theorem step2_room {N p : Nat} (f : Nat → TaskV) (hp : p < N) : stepK (RSq N 0 p f) ⟨p, 1, 0, false⟩ = (RSq N 0 p f, ⟨p, 2, 0, false⟩) := by simp [stepK, weighK, RSq, hp]
theorem step3 (N p : Nat) (f : Nat → TaskV) : stepK (RSq N 0 p f) ⟨p, 2, 0, false⟩ = ((RSq N 0 p f).more, ⟨p, 0, 2, false⟩) := by simp [stepK, RSq]
theorem neq_tsame (t : TaskV) (W : World) : (binOp .neq 31 t.v t.v).run Try.prog W = .ok (.bool false) W := by
  have hp : Try.prog.stoodInHeld 31 = false := by kernel_rfl
  have ht : Try.prog.underlying 31 = some (.struct (Try.prog.fieldsOf 31)) := by kernel_rfl
  rw [run_neq_struct, run_equalIn_agg W 9999 _ _ _ ht hp]
  clear hp ht
  simp [go_sem, Op.eqFields]
end Go.Proofs.Ythamdbfilpegjaa
