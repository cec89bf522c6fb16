/-
  What stands here: what pops and tells a ring of tasks. Under no condition but that the ring's blocks hold it.
-/
import Derived.Test.YthamdbfilpegjaaRingK
import Derived.Laws.EntriesVeiled
import Derived.Deep.CutBlock
import Derived.Deep.CutRange
namespace Go.Proofs.Ythamdbfilpegjaa
set_option linter.unusedVariables false
set_option linter.unusedSimpArgs false
open Go.RowKit Go.Proofs

theorem kready_none_t (w : World) : Calls Try.prog 36 #[.pointer none] w fun e w' => e = .returned (.bool false) ∧ Still w w' := by
  go_enter Try.func36, Try.ntmps36
  go_wp2_with fail
  go_quiet (fail)
  go_wp2_with fail
  go_ret
  exact ⟨rfl, (still_refl w).drewN _⟩

set_option maxHeartbeats 1000000 in
theorem kready_t {b sb : Nat} {T Ts : TypeId} {r : RS} (w : World) (h : RingK b sb T Ts r w) :
    Calls Try.prog 36 #[.pointer (some ⟨b, 0, none⟩)] w fun e w' => e = .returned (.bool r.ready) ∧ RingK b sb T Ts r w' ∧ Only sb w w' := by
  have ok := h.ok
  have hbig := ok.big
  have hht := ok.ht
  obtain ⟨x, y, u, hr⟩ := h.ring
  have c5 : w.cell? ⟨b, 5, none⟩ = some (.int .i64 r.h) := hr.cell 5
  have H := Lib.hid h
  clear h
  go_enter Try.func36, Try.ntmps36
  go_wp2_with fail
  refine wp_region_text ([4], [45, 56, 81]) [b] (by kernel_rfl) (by kernel_rfl) (cellsB_cons hr.cells cellsB_nil) (by simp [segs, isEff, isLoad, askOps, asks, ptrEq, eqOrNe, isNil]; rfl) ?_
  refine segs_go stay_drew (by simp [isLoad]) ?_
  go_wp2_with fail
  refine segs_load stay_drew (fun _ => (by exact ⟨b, _, rfl, by simp⟩)) ?_
  go_wp2_with fail
  refine (kat_t r.h (by omega) _ (H.out.still ((still_refl _).drewN 1))).mono ?_
  rintro e w1 ⟨rfl, k1⟩
  have k01 : Still w w1 := ((still_refl w).drewN 1).trans k1
  have hst1 : StayB [b] w w1 := StayB.kept (fun _ _ => rfl) k01 (fun x hx => ⟨by simp only [List.mem_singleton] at hx; subst hx; exact hr.lt, fun f => f⟩)
  go_wp2_with fail
  refine segs_go hst1 (by simp [isLoad]) ?_
  go_wp2_with fail
  refine (kseqload_t r.h w1 (H.out.still k01)).mono ?_
  rintro e w2 ⟨⟨q, ⟨q1, q2, q3⟩, rfl⟩, h2, k2⟩
  obtain rfl : q = r.h := window_one ok q1 q2 q3 (Nat.le_refl _) (by have := ok.n1; omega)
  have hr2 := (hr.still k01).only k2 H.out.ne
  have hst2 : StayB [b] w w2 := fun x hx => by
    simp only [List.mem_singleton] at hx; subst hx
    exact hr2.trans hr.symm
  have e5 : w2.cell? ⟨b, 5, none⟩ = some (.int .i64 r.h) := hr2.cell 5
  have hK : Only sb w w2 := ((k01.mono (fun _ _ f => f.elim)) : Only sb w w1).trans k2
  have H2 := Lib.hid h2
  have HK := Lib.hid hK
  clear h2 hK k2 q1 q2 q3 c5 hr2
  cases hp : r.ready with
  | false =>
    have hsq : r.seq r.h = 2 * (r.h : Int) := by unfold RS.seq; unfold RS.ready at hp; rw [hp]; simp
    rw [hsq]
    have hne : ((2 * (r.h : Int)) == 2 * (r.h : Int) + 1) = false := by rw [beq_eq_false_iff_ne]; omega
    have HP := Lib.hid hp
    clear hsq hp
    go_wp2_with fail
    refine segs_go hst2 (by simp [isLoad]) ?_
    go_wp2_with fail
    refine segs_load hst2 (fun _ => (by exact ⟨b, _, rfl, by simp⟩)) ?_
    go_wp2_with fail
    refine segs_nil ?_
    go_wp2_with fail
    go_ret
    exact ⟨by rw [HP.out]; rfl, H2.out, HK.out⟩
  | true =>
    have hsq : r.seq r.h = 2 * (r.h : Int) + 1 := by unfold RS.seq; unfold RS.ready at hp; rw [hp]; simp
    rw [hsq]
    have HP := Lib.hid hp
    clear hsq hp
    go_wp2_with fail
    refine segs_go hst2 (by simp [isLoad]) ?_
    go_wp2_with fail
    refine segs_load hst2 (fun _ => (by exact ⟨b, _, rfl, by simp⟩)) ?_
    go_wp2_with fail
    refine segs_nil ?_
    go_wp2_with fail
    go_ret
    exact ⟨by rw [HP.out]; rfl, H2.out, HK.out⟩

/-- the slot of the first position, popped -/
theorem kpopped_t {b sb : Nat} {T Ts : TypeId} {r : RS} {W : World} {c : Array Value} (h : RingK b sb T Ts r W) (hrd : r.ready = true) (hs : ∀ q, r.h ≤ q → q < r.h + r.N → SlotK c (q % r.N) (r.seq q) (r.at_ zT q)) {W' : World} {c' : Array Value} {x y u : Int} (hb' : Blk W' b (ringC sb r.pop x y u) T) (hc' : Blk W' sb c' Ts)
    (e : c' = (set5 c (r.h % r.N * 9 + 4) ⟨0, 0, 0, 0, 0⟩).setIfInBounds (r.h % r.N * 9) (.int .i64 (2 * ((r.h : Int) + r.N)))) : RingK b sb T Ts r.pop W' := by
  have ok := h.ok
  subst e
  refine ⟨ok.pop hrd, h.ne, ⟨x, y, u, hb'⟩, ⟨_, hc', fun q h1 h2 => ?_⟩⟩
  have h1' : r.h + 1 ≤ q := h1
  have h2' : q < r.h + 1 + r.N := h2
  show SlotK _ (q % r.N) (r.seq q) (r.at_ zT q)
  by_cases he : q = r.h + r.N
  · subst he
    have hpub : r.pub (r.h + r.N) = false := ok.pubs _ ok.room
    have hm : (r.h + r.N) % r.N = r.h % r.N := Nat.add_mod_right _ _
    rw [hm]
    have := slotk_seq (s' := 2 * ((r.h : Int) + r.N)) (slotk_val ⟨0, 0, 0, 0, 0⟩ (hs r.h (Nat.le_refl _) (by have := ok.n1; omega)))
    have e1 : r.seq (r.h + r.N) = 2 * ((r.h : Int) + r.N) := by simp [RS.seq, hpub]
    have e2 : r.at_ zT (r.h + r.N) = zT := by simp [RS.at_, hpub]
    rw [e1, e2]
    exact this
  · have hne := mod_ne ok.n1 (p := q) (q := r.h) (h := r.h) (by omega) (by omega) (Nat.le_refl _) (by have := ok.n1; omega) (by omega)
    have := slotk_other (slotk_other5 (hs q (by omega) (by omega)) ⟨0, 0, 0, 0, 0⟩ hne) 0 (by omega) (.int .i64 (2 * ((r.h : Int) + r.N))) hne
    rw [Nat.add_zero] at this
    exact this
/-- a box of a task, told by its cells -/
theorem box_cells {w : World} {B : Nat} {t : TaskV} {T : TypeId} (b : Blk w B #[.int .u64 t.id, .int .i64 t.slot, .int .u64 t.gen, .int .u64 t.dl, .int .u64 t.per] T) : w.cell? ⟨B, 0, none⟩ = some (.int .u64 t.id) ∧ w.cell? ⟨B, 1, none⟩ = some (.int .i64 t.slot) ∧ w.cell? ⟨B, 2, none⟩ = some (.int .u64 t.gen) ∧ w.cell? ⟨B, 3, none⟩ = some (.int .u64 t.dl) ∧ w.cell? ⟨B, 4, none⟩ = some (.int .u64 t.per) := ⟨b.cell 0, b.cell 1, b.cell 2, b.cell 3, b.cell 4⟩
theorem box_free {w : World} {B : Nat} {c : Array Value} {T : TypeId} (b : Blk w B c T) : w.frozen? ⟨B, 0, none⟩ = false ∧ w.frozen? ⟨B, 1, none⟩ = false ∧ w.frozen? ⟨B, 2, none⟩ = false ∧ w.frozen? ⟨B, 3, none⟩ = false ∧ w.frozen? ⟨B, 4, none⟩ = false := ⟨b.free 0, b.free 1, b.free 2, b.free 3, b.free 4⟩
theorem box_set {w : World} {B : Nat} {t z : TaskV} {T : TypeId} (b : Blk w B #[.int .u64 t.id, .int .i64 t.slot, .int .u64 t.gen, .int .u64 t.dl, .int .u64 t.per] T) : ∃ w3, w3 = (((((w.setCell ⟨B, 0, none⟩ (.int .u64 z.id)).setCell ⟨B, 1, none⟩ (.int .i64 z.slot)).setCell ⟨B, 2, none⟩ (.int .u64 z.gen)).setCell ⟨B, 3, none⟩ (.int .u64 z.dl)).setCell ⟨B, 4, none⟩ (.int .u64 z.per)) ∧ Kept (· = B) w w3 ∧ Blk w3 B #[.int .u64 z.id, .int .i64 z.slot, .int .u64 z.gen, .int .u64 z.dl, .int .u64 z.per] T :=
  ⟨_, rfl, (((((Kept.refl _ w).put 0 _).put 1 _).put 2 _).put 3 _).put 4 _, ((((b.set 0 _).set 1 _).set 2 _).set 3 _).set 4 _⟩
set_option maxHeartbeats 2000000 in
set_option maxRecDepth 100000 in
theorem kpop_no_t {b sb : Nat} {T Ts : TypeId} {r : RS} (w : World) (h : RingK b sb T Ts r w) (hrd : r.ready = false) :
    Calls Try.prog 40 #[.pointer (some ⟨b, 0, none⟩)] w fun e w' => e = .returned (.tuple #[zT, .int .i64 6]) ∧ RingK b sb T Ts r w' ∧ Kept (fun x => x = b ∨ x = sb) w w' := by
  obtain ⟨w0, hw0⟩ : ∃ w0, w0 = (w.alloc (.cells #[.int .u64 0, .int .i64 0, .int .u64 0, .int .u64 0, .int .u64 0] 31)).alloc (.cells #[.int .u64 0, .int .i64 0, .int .u64 0, .int .u64 0, .int .u64 0] 31) := ⟨_, rfl⟩
  have k0 : Still w w0 := by rw [hw0]; exact ((still_refl w).alloc _).alloc _
  have bA : Blk w0 w.heap.size #[.int .u64 0, .int .i64 0, .int .u64 0, .int .u64 0, .int .u64 0] 31 := by rw [hw0]; exact (Blk.new w _ _).alloc _
  have bB : Blk w0 (w.heap.size + 1) #[.int .u64 0, .int .i64 0, .int .u64 0, .int .u64 0, .int .u64 0] 31 := by rw [hw0]; exact Blk.newAt _ _ _ (by simp)
  have hlt := h.lt
  have hr := kready_t w0 (h.still k0)
  rw [hrd] at hr
  have HR := Lib.hid hr
  have HW0 := Lib.hid hw0
  clear hr hw0 hrd h
  go_enter Try.func40, Try.ntmps40
  go_upto_region 2 with fail
  rw [← HW0.out]
  go_wp2_with fail
  refine HR.out.mono ?_
  rintro e w1 ⟨rfl, h1, k1⟩
  have bA1 := bA.only k1 (by omega)
  have bB1 := bB.only k1 (by omega)
  obtain ⟨c0, c1, c2, c3, c4⟩ := box_cells (t := ⟨0, 0, 0, 0, 0⟩) bB1
  obtain ⟨a0, a1, a2, a3, a4⟩ := box_cells (t := ⟨0, 0, 0, 0, 0⟩) bA1
  obtain ⟨f0, f1, f2, f3, f4⟩ := box_free bA1
  dsimp only at a0 a1 a2 a3 a4 c0 c1 c2 c3 c4
  have H1 := Lib.hid h1
  clear h1
  go_wp2_with fail
  obtain ⟨w3, hw3, e2, b3⟩ := box_set (t := ⟨0, 0, 0, 0, 0⟩) (z := ⟨0, 0, 0, 0, 0⟩) bA1
  dsimp only at hw3 b3
  rw [← hw3]
  obtain ⟨d0, d1, d2, d3, d4⟩ := box_cells (t := ⟨0, 0, 0, 0, 0⟩) b3
  dsimp only at d0 d1 d2 d3 d4
  refine bodyPost_ret (v := .tuple #[.agg #[.int .u64 0, .int .i64 0, .int .u64 0, .int .u64 0, .int .u64 0], .int .i64 6]) (by simp [results, Try.f40, go_sem, d0, d1, d2, d3, d4]) rfl ?_
  refine ⟨rfl, H1.out.kept e2 (by omega) (by omega), ?_⟩
  exact ((k0.mono (fun _ _ f => f.elim)).trans (k1.mono (fun _ _ e => .inr e)) : Kept (fun x => x = b ∨ x = sb) w w1).step e2 (fun y hy h9 => by omega)
theorem still_c3 {w w' : World} (k : Still w w') {p : Addr} {v : Value} (h : w.cell? p = some v) : w'.cell? p = some v :=
  (World.cell?_of_block (a := p) (k.block p.block (lt_of_cell h) (fun f => f))).trans h
set_option maxHeartbeats 4000000 in
set_option maxRecDepth 100000 in
theorem kpop_yes_t {b sb : Nat} {T Ts : TypeId} {r : RS} (w : World) (h : RingK b sb T Ts r w) (hrd : r.ready = true) (v : TaskV) (hv : r.val r.h = v.v) :
    Calls Try.prog 40 #[.pointer (some ⟨b, 0, none⟩)] w fun e w' => e = .returned (.tuple #[v.v, .int .i64 0]) ∧ RingK b sb T Ts r.pop w' ∧ Kept (fun x => x = b ∨ x = sb) w w' := by
  have ok := h.ok
  have hbig := ok.big
  have hht := ok.ht
  have hn64 := ok.n64
  obtain ⟨w0, hw0⟩ : ∃ w0, w0 = (w.alloc (.cells #[.int .u64 0, .int .i64 0, .int .u64 0, .int .u64 0, .int .u64 0] 31)).alloc (.cells #[.int .u64 0, .int .i64 0, .int .u64 0, .int .u64 0, .int .u64 0] 31) := ⟨_, rfl⟩
  have k0 : Still w w0 := by rw [hw0]; exact ((still_refl w).alloc _).alloc _
  have bA : Blk w0 w.heap.size #[.int .u64 0, .int .i64 0, .int .u64 0, .int .u64 0, .int .u64 0] 31 := by rw [hw0]; exact (Blk.new w _ _).alloc _
  have bB : Blk w0 (w.heap.size + 1) #[.int .u64 0, .int .i64 0, .int .u64 0, .int .u64 0, .int .u64 0] 31 := by rw [hw0]; exact Blk.newAt _ _ _ (by simp)
  have hlt := h.lt
  have hne := h.ne
  have hr := kready_t w0 (h.still k0)
  rw [hrd] at hr
  have HR := Lib.hid hr
  have HW0 := Lib.hid hw0
  have HRD := Lib.hid hrd
  have HV := Lib.hid hv
  clear hr hw0 hrd h hv
  go_enter Try.func40, Try.ntmps40
  go_upto_region 2 with fail
  rw [← HW0.out]
  go_wp2_with fail
  refine HR.out.mono ?_
  rintro e w1 ⟨rfl, h1, k1⟩
  obtain ⟨x, y, u, hrg⟩ := h1.ring
  have c5 : w1.cell? ⟨b, 5, none⟩ = some (.int .i64 r.h) := hrg.cell 5
  have H1 := Lib.hid h1
  have B1 := Lib.hid (And.intro (bA.only k1 (by omega)) (bB.only k1 (by omega)))
  have K1 := Lib.hid (show Kept (fun x => x = b ∨ x = sb) w w1 from (k0.mono (fun _ _ f => f.elim)).trans (k1.mono (fun _ _ e => .inr e)))
  clear h1 bA bB k0 k1
  go_wp2_with fail
  refine (kat_t r.h (by omega) _ H1.out).mono ?_
  rintro e w2 ⟨rfl, k2⟩
  have h2 := H1.out.still k2
  have hr2 := hrg.still k2
  obtain ⟨c, hc, hs⟩ := h2.slots
  have hsp := hs r.h (Nat.le_refl _) (by have := ok.n1; omega)
  have hat : r.at_ zT r.h = v.v := by unfold RS.at_; have := HRD.out; unfold RS.ready at this; rw [this, if_pos rfl, HV.out]
  rw [hat] at hsp
  obtain ⟨s0, _, _, _, t9, ht9, s4⟩ := hsp
  have htv : t9 = v := by
    obtain ⟨i1, i2, i3, i4, i5⟩ := v
    obtain ⟨j1, j2, j3, j4, j5⟩ := t9
    simp only [TaskV.v, Value.agg.injEq, Array.mk.injEq, List.cons.injEq, Value.int.injEq, true_and, and_true] at ht9
    obtain ⟨rfl, rfl, rfl, rfl, rfl⟩ := ht9
    rfl
  subst htv
  obtain ⟨q0, q1, q2, q3, q4⟩ := vcells s4
  have e0 := (hc.cell (r.h % r.N * 9 + 4)).trans q0
  have e1 := (hc.cell (r.h % r.N * 9 + 4 + 1)).trans q1
  have e2 := (hc.cell (r.h % r.N * 9 + 4 + 2)).trans q2
  have e3 := (hc.cell (r.h % r.N * 9 + 4 + 3)).trans q3
  have e4 := (hc.cell (r.h % r.N * 9 + 4 + 4)).trans q4
  have S2 := Lib.hid (And.intro h2 (And.intro hr2 (And.intro hc (And.intro hs s0))))
  have K2 := Lib.hid (K1.out.of_still k2)
  have B2 := Lib.hid (And.intro (B1.out.1.still k2) (B1.out.2.still k2))
  clear c5 hrg h2 hr2 hc hs s0 s4 q0 q1 q2 q3 q4 hat ht9 k2
  go_upto_region 6 with fail
  obtain ⟨C, hC⟩ : ∃ C, C = w2.heap.size := ⟨_, rfl⟩
  obtain ⟨w3, hw3⟩ : ∃ w3, w3 = w2.alloc (.cells #[.int .u64 t9.id, .int .i64 t9.slot, .int .u64 t9.gen, .int .u64 t9.dl, .int .u64 t9.per] 31) := ⟨_, rfl⟩
  have k3 : Still w2 w3 := by rw [hw3]; exact (still_refl w2).alloc _
  have bC : Blk w3 C #[.int .u64 t9.id, .int .i64 t9.slot, .int .u64 t9.gen, .int .u64 t9.dl, .int .u64 t9.per] 31 := by rw [hw3, hC]; exact Blk.new _ _ _
  rw [← hw3, ← hC]
  have hsz2 := K2.out.size
  have hAlt := B2.out.1.lt
  have hBlt := B2.out.2.lt
  have hc3 := S2.out.2.2.1.still k3
  have hr3 := S2.out.2.1.still k3
  have bA3 := B2.out.1.still k3
  have bB3 := B2.out.2.still k3
  obtain ⟨z0, z1, z2, z3, z4⟩ := box_cells (t := ⟨0, 0, 0, 0, 0⟩) bB3
  dsimp only at z0 z1 z2 z3 z4
  have g0 := hc3.free (r.h % r.N * 9 + 4)
  have g1 := hc3.free (r.h % r.N * 9 + 4 + 1)
  have g2 := hc3.free (r.h % r.N * 9 + 4 + 2)
  have g3 := hc3.free (r.h % r.N * 9 + 4 + 3)
  have g4 := hc3.free (r.h % r.N * 9 + 4 + 4)
  have i0 := still_c3 k3 e0
  have i1 := still_c3 k3 e1
  have i2 := still_c3 k3 e2
  have i3 := still_c3 k3 e3
  have i4 := still_c3 k3 e4
  have hCge : w2.heap.size ≤ C := by omega
  have HC9 := Lib.hid hC
  clear e0 e1 e2 e3 e4 hw3 hC
  go_upto_region 7 with fail
  obtain ⟨w4, hw4⟩ : ∃ w4, w4 = put5 w3 sb (r.h % r.N * 9 + 4) ⟨0, 0, 0, 0, 0⟩ := ⟨_, rfl⟩
  have hw4' : ((((w3.setCell ⟨sb, r.h % r.N * 9 + 4, none⟩ (.int .u64 0)).setCell ⟨sb, r.h % r.N * 9 + 4 + 1, none⟩ (.int .i64 0)).setCell ⟨sb, r.h % r.N * 9 + 4 + 2, none⟩ (.int .u64 0)).setCell ⟨sb, r.h % r.N * 9 + 4 + 3, none⟩ (.int .u64 0)).setCell ⟨sb, r.h % r.N * 9 + 4 + 4, none⟩ (.int .u64 0) = w4 := hw4.symm
  rw [hw4']
  have k4 : Only sb w3 w4 := by rw [hw4]; exact only_put5 _ _ _ _
  have hc4 : Blk w4 sb (set5 c (r.h % r.N * 9 + 4) ⟨0, 0, 0, 0, 0⟩) Ts := by rw [hw4]; exact hc3.put5 _
  have hr4 := hr3.only k4 hne
  have d5 : w4.cell? ⟨b, 5, none⟩ = some (.int .i64 r.h) := hr4.cell 5
  have d0 : w4.cell? ⟨b, 0, none⟩ = some (.slice (some ⟨sb, 0, none⟩) r.N r.N) := hr4.cell 0
  have hs0' : (set5 c (r.h % r.N * 9 + 4) ⟨0, 0, 0, 0, 0⟩)[r.h % r.N * 9]? = some (.int .i64 (r.seq r.h)) := by rw [set5_ne (by omega)]; exact S2.out.2.2.2.2
  have HC4 := Lib.hid (And.intro hc4 hs0')
  have bA4 := bA3.only k4 (by omega)
  have bC4 := bC.only k4 (by have := hc3.lt; have := S2.out.2.2.1.lt; omega)
  have K4 := Lib.hid ((K2.out.of_still k3).step k4 (fun _ _ e => .inr e))
  have B4 := Lib.hid (And.intro bA4 bC4)
  clear hw4 hw4' hc4 hs0' bA4 bC4 g0 g1 g2 g3 g4 i0 i1 i2 i3 i4 z0 z1 z2 z3 z4 bA3 bB3 bC hc3 hr3
  refine wp_region_text ([4], [45, 56, 81]) [b] (by kernel_rfl) (by kernel_rfl) (cellsB_cons hr4.cells cellsB_nil) (by simp [segs, isEff, isLoad, askOps, asks, ptrEq, eqOrNe, isNil]; rfl) ?_
  refine segs_go stay_drew (by simp [isLoad]) ?_
  go_wp2_with fail
  refine segs_load stay_drew (fun _ => (by exact ⟨b, _, rfl, by simp⟩)) ?_
  go_wp2_with fail
  refine segs_load stay_drew (fun _ => (by exact ⟨b, _, rfl, by simp⟩)) ?_
  go_wp2_with fail
  refine (store_any sb (r.h % r.N * 9) _ (r.seq r.h) (2 * ((r.h : Int) + r.N)) Ts _ (HC4.out.1.drewN 1) HC4.out.2).mono ?_
  rintro e w5 ⟨rfl, k5, hc5⟩
  have k5' : Only sb w4 w5 := ((only_refl sb w4).drewN 1).trans k5
  have hr5 := hr4.only k5' hne
  have hst5 : StayB [b] w4 w5 := fun x hx => by
    simp only [List.mem_cons, List.not_mem_nil, or_false] at hx; subst hx
    exact hr5.trans hr4.symm
  have f5 := hr5.free 5
  have e5 : w5.cell? ⟨b, 5, none⟩ = some (.int .i64 r.h) := hr5.cell 5
  have kb : Only b w5 (w5.setCell ⟨b, 5, none⟩ (.int .i64 ((r.h : Int) + 1))) := (only_refl b w5).put _ _
  have hb6 : Blk (w5.setCell ⟨b, 5, none⟩ (.int .i64 ((r.h : Int) + 1))) b (ringC sb r.pop x y u) T := (hr5.set 5 (.int .i64 ((r.h : Int) + 1))).cast (by simp [ringC, RS.pop])
  have hI := kpopped_t S2.out.1 HRD.out S2.out.2.2.2.1 hb6 (hc5.only kb (Ne.symm hne)) rfl
  have bA6 := (B4.out.1.only k5' (by omega)).only kb (by omega)
  have bC6 := (B4.out.2.only k5' (by have := S2.out.2.2.1.lt; omega)).only kb (by have := S2.out.2.1.lt; omega)
  obtain ⟨w6, hw6⟩ : ∃ w6, w6 = w5.setCell ⟨b, 5, none⟩ (.int .i64 ((r.h : Int) + 1)) := ⟨_, rfl⟩
  rw [← hw6] at hI bA6 bC6
  have K6 : Kept (fun x => x = b ∨ x = sb) w w6 := by rw [hw6]; exact (K4.out.step k5' (fun _ _ e => .inr e)).step kb (fun _ _ e => .inl e)
  have F6 := Lib.hid (And.intro hI (And.intro K6 (And.intro bA6 bC6)))
  have HW6 := Lib.hid hw6
  clear hI K6 bA6 bC6 hw6 kb hb6 hc5 k5 k5' d5 d0 hr5
  go_wp2_with fail
  refine segs_go hst5 (by simp [isLoad]) ?_
  go_wp2_with fail
  refine segs_nil ?_
  go_upto_region 9 with fail
  rw [← HW6.out]
  obtain ⟨m0, m1, m2, m3, m4⟩ := box_cells F6.out.2.2.2
  obtain ⟨n0, n1, n2, n3, n4⟩ := box_cells (t := ⟨0, 0, 0, 0, 0⟩) F6.out.2.2.1
  dsimp only at n0 n1 n2 n3 n4
  obtain ⟨o0, o1, o2, o3, o4⟩ := box_free F6.out.2.2.1
  clear f5 e5
  go_wp2_with fail
  obtain ⟨w7, hw7, e7, b7⟩ := box_set (t := ⟨0, 0, 0, 0, 0⟩) (z := t9) F6.out.2.2.1
  rw [← hw7]
  obtain ⟨p0, p1, p2, p3, p4⟩ := box_cells b7
  refine bodyPost_ret (v := .tuple #[t9.v, .int .i64 0]) (by simp [results, Try.f40, go_sem, p0, p1, p2, p3, p4]) rfl ?_
  exact ⟨rfl, F6.out.1.kept e7 (by omega) (by omega), F6.out.2.1.step e7 (fun y hy h9 => by omega)⟩
theorem klen_none_t (w : World) : Calls Try.prog 39 #[.pointer none] w fun e w' => e = .returned (.int .i64 0) ∧ w = w' := by
  go_enter Try.func39, Try.ntmps39
  go_wp2
  go_ret
  exact ⟨rfl, rfl⟩

set_option maxHeartbeats 1000000 in
theorem klen_t {b sb : Nat} {T Ts : TypeId} {r : RS} (w : World) (h : RingK b sb T Ts r w) :
    Calls Try.prog 39 #[.pointer (some ⟨b, 0, none⟩)] w fun e w' => e = .returned (.int .i64 ((r.t : Int) - r.h)) ∧ RingK b sb T Ts r w' ∧ Only b w w' := by
  have ok := h.ok
  have hbig := ok.big
  have hht := ok.ht
  obtain ⟨x, y, u, hr⟩ := h.ring
  go_enter Try.func39, Try.ntmps39
  have c5 : w.cell? ⟨b, 5, none⟩ = some (.int .i64 r.h) := hr.cell 5
  have hwr : IntKind.i64.wrap ((r.t : Int) - r.h) = (r.t : Int) - r.h := IntWalk.i64_in _ (by omega)
  have H := Lib.hid h
  clear h
  go_wp2_with fail
  go_region_with (go_at_call 55; refine (load_any b 1 (ringC sb r x y u) r.t x rfl T _ (by exact hr) rfl rfl).mono ?_; rintro e w1 ⟨rfl, k1, hr1⟩; have e5 : w1.cell? ⟨b, 5, none⟩ = some (.int .i64 r.h) := hr1.cell 5)
  all_goals
    go_wp2_with fail
    go_ret
    refine ⟨rfl, ⟨ok, H.out.ne, ⟨wrap64 (x + 1), y, u, ?_⟩, ?_⟩, ?_⟩
    · first | exact hr1 | exact hr1.drewN 1
    · obtain ⟨c, hc, hs⟩ := H.out.slots
      exact ⟨c, Blk.only (w := w) hc (by first | exact k1 | exact ((Kept.refl _ w).drewN 1).trans k1) (Ne.symm H.out.ne), hs⟩
    · first | exact k1 | exact ((Kept.refl _ w).drewN 1).trans k1
end Go.Proofs.Ythamdbfilpegjaa
