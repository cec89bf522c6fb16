/-
  What stands here: what publishes a position of a ring of tasks. Under no condition but that the blocks hold it.
-/
import Derived.Test.YthamdbfilpegjaaRingK
import Derived.Laws.EntriesVeiled
import Derived.Deep.CutBlock
import Derived.Deep.CutRange
namespace Go.Proofs.Ythamdbfilpegjaa
set_option linter.unusedVariables false
set_option linter.unusedSimpArgs false
open Go.RowKit Go.Proofs
/-- the slot of a position, published -/
theorem kpublish_t {b sb : Nat} {T Ts : TypeId} {r : RS} {W : World} {p : Nat} {v : TaskV} {c : Array Value} (h : RingK b sb T Ts r W) (hs : ∀ q, r.h ≤ q → q < r.h + r.N → SlotK c (q % r.N) (r.seq q) (r.at_ zT q)) (hp : r.h ≤ p) (hp2 : p < r.t) {W' : World} {c' : Array Value} (hk : Only sb W W') (hc' : Blk W' sb c' Ts)
    (e : c' = (set5 c (p % r.N * 9 + 4) v).setIfInBounds (p % r.N * 9) (.int .i64 (2 * (p : Int) + 1))) : RingK b sb T Ts (r.publish p v.v) W' := by
  have ok := h.ok
  obtain ⟨x, y, u, hr⟩ := h.ring
  subst e
  refine ⟨ok.publish hp2 v.v, h.ne, ⟨x, y, u, hr.only hk h.ne⟩, ⟨_, hc', fun q h1 h2 => ?_⟩⟩
  have h1' : r.h ≤ q := h1
  have h2' : q < r.h + r.N := h2
  show SlotK _ (q % r.N) _ _
  by_cases he : q = p
  · subst he
    have := slotk_seq (s' := 2 * (q : Int) + 1) (slotk_val v (hs q h1' h2'))
    have e1 : (r.publish q v.v).seq q = 2 * (q : Int) + 1 := by simp [RS.seq, RS.publish]
    have e2 : (r.publish q v.v).at_ zT q = v.v := by simp [RS.at_, RS.publish]
    rw [e1, e2]
    exact this
  · have hne := mod_ne ok.n1 h1' h2' hp (Nat.lt_of_lt_of_le hp2 ok.room) he
    have := slotk_other (slotk_other5 (hs q h1' h2') v hne) 0 (by omega) (.int .i64 (2 * (p : Int) + 1)) hne
    rw [Nat.add_zero] at this
    have e1 : (r.publish p v.v).seq q = r.seq q := by simp [RS.seq, RS.publish, he]
    have e2 : (r.publish p v.v).at_ zT q = r.at_ zT q := by simp only [RS.at_, RS.publish, if_neg he]
    rw [e1, e2]
    exact this

set_option maxHeartbeats 1000000 in
set_option maxRecDepth 100000 in
theorem kfill_t {b sb tk : Nat} {T Ts Tt : TypeId} {r : RS} {k : TS} (v : TaskV) (w : World) (h : RingK b sb T Ts r w) (ht : Blk w tk (tickC b k) Tt) (hb : tk ≠ b) (hsb : tk ≠ sb) (hst : k.status = 2) (hf : k.filled = false) (hp : r.h ≤ k.pos) (hp2 : k.pos < r.t) :
    Calls Try.prog 15 #[.pointer (some ⟨tk, 0, none⟩), v.v] w fun e w' => e = .returned (.int .i64 0) ∧ RingK b sb T Ts (r.publish k.pos v.v) w' ∧ Blk w' tk (tickC b { k with filled := true }) Tt ∧ Kept (fun x => x = sb ∨ x = tk) w w' := by
  have ok := h.ok
  have hbig := ok.big
  obtain ⟨kp, kn, ks, kf⟩ := k
  simp only at hst hf hp hp2
  subst hst hf
  obtain ⟨W0, hW0⟩ : ∃ W0, W0 = w.alloc (.cells #[.int .u64 v.id, .int .i64 v.slot, .int .u64 v.gen, .int .u64 v.dl, .int .u64 v.per] 31) := ⟨_, rfl⟩
  have k0 : Still w W0 := by rw [hW0]; exact (still_refl w).alloc _
  have bV : Blk W0 w.heap.size #[.int .u64 v.id, .int .i64 v.slot, .int .u64 v.gen, .int .u64 v.dl, .int .u64 v.per] 31 := by rw [hW0]; exact Blk.new _ _ _
  obtain ⟨B, hB⟩ : ∃ B, B = w.heap.size := ⟨_, rfl⟩
  have htl := ht.lt
  have hrl := h.lt
  have hBtk : B ≠ tk := by omega
  have hBsb : B ≠ sb := by omega
  have ht0 := ht.still k0
  have h0 := h.still k0
  rw [← hB] at bV
  have c0 : W0.cell? ⟨tk, 0, none⟩ = some (.pointer (some ⟨b, 0, none⟩)) := ht0.cell 0
  have c3 : W0.cell? ⟨tk, 3, none⟩ = some (.int .i64 2) := ht0.cell 3
  have c4 : W0.cell? ⟨tk, 4, none⟩ = some (.bool false) := ht0.cell 4
  have f4 := ht0.free 4
  have ht1 : Blk (W0.setCell ⟨tk, 4, none⟩ (.bool true)) tk (tickC b ⟨kp, kn, 2, true⟩) Tt := ht0.set 4 (.bool true)
  have hk1 : Only tk W0 (W0.setCell ⟨tk, 4, none⟩ (.bool true)) := (only_refl tk W0).put 4 _
  have h1 := h0.kept hk1 (Ne.symm hb) (Ne.symm hsb)
  have bV1 := bV.only hk1 hBtk
  have d0 : (W0.setCell ⟨tk, 4, none⟩ (.bool true)).cell? ⟨tk, 0, none⟩ = some (.pointer (some ⟨b, 0, none⟩)) := ht1.cell 0
  have d1 : (W0.setCell ⟨tk, 4, none⟩ (.bool true)).cell? ⟨tk, 1, none⟩ = some (.int .i64 kp) := ht1.cell 1
  have H1 := Lib.hid h1
  have HW0 := Lib.hid hW0
  have K0 := Lib.hid k0
  have HB := Lib.hid hB
  clear h1 h h0 ht ht0 hW0 k0 bV hB htl hrl
  go_enter Try.func15, Try.ntmps15
  go_upto_region 1 with fail
  rw [← HW0.out, ← HB.out]
  go_wp2_with fail
  refine wp_region_text ([4], [45, 56, 81]) [tk] (by kernel_rfl) (by kernel_rfl) (cellsB_cons ht1.cells cellsB_nil) (by simp [segs, isEff, isLoad, askOps, asks, ptrEq, eqOrNe, isNil]; rfl) ?_
  refine segs_go stay_drew (by simp [isLoad]) ?_
  go_wp2_with fail
  refine segs_load stay_drew (fun _ => (by exact ⟨tk, _, rfl, by simp⟩)) ?_
  go_wp2_with fail
  refine segs_load stay_drew (fun _ => (by exact ⟨tk, _, rfl, by simp⟩)) ?_
  go_wp2_with fail
  refine (kat_t kp (by omega) _ (H1.out.still ((still_refl _).drewN 1))).mono ?_
  rintro e w1 ⟨rfl, k1⟩
  have k1' : Still (W0.setCell ⟨tk, 4, none⟩ (.bool true)) w1 := ((still_refl _).drewN 1).trans k1
  have hst1 : StayB [tk] (W0.setCell ⟨tk, 4, none⟩ (.bool true)) w1 := StayB.kept (w := (W0.setCell ⟨tk, 4, none⟩ (.bool true)).drewN 1) (fun _ _ => rfl) k1 (fun x hx => ⟨by simp only [List.mem_singleton] at hx; subst hx; exact ht1.lt, fun f => f⟩)
  have h2 := H1.out.still k1'
  have ht2 := ht1.still k1'
  have bV2 := bV1.still k1'
  obtain ⟨c, hc, hs⟩ := h2.slots
  have hsp := hs kp hp (Nat.lt_of_lt_of_le hp2 ok.room)
  obtain ⟨s0, _, _, _, t9, ht9, s4⟩ := hsp
  obtain ⟨q0, q1, q2, q3, q4⟩ := vcells s4
  have e0 := (hc.cell (kp % r.N * 9 + 4)).trans q0
  have e1 := (hc.cell (kp % r.N * 9 + 4 + 1)).trans q1
  have e2 := (hc.cell (kp % r.N * 9 + 4 + 2)).trans q2
  have e3 := (hc.cell (kp % r.N * 9 + 4 + 3)).trans q3
  have e4 := (hc.cell (kp % r.N * 9 + 4 + 4)).trans q4
  have g0 := hc.free (kp % r.N * 9 + 4)
  have g1 := hc.free (kp % r.N * 9 + 4 + 1)
  have g2 := hc.free (kp % r.N * 9 + 4 + 2)
  have g3 := hc.free (kp % r.N * 9 + 4 + 3)
  have g4 := hc.free (kp % r.N * 9 + 4 + 4)
  have v0 := bV2.cell 0
  have v1 := bV2.cell 1
  have v2 := bV2.cell 2
  have v3 := bV2.cell 3
  have v4 := bV2.cell 4
  obtain ⟨O, hO⟩ : ∃ O, O = kp % r.N * 9 + 4 := ⟨_, rfl⟩
  have HH2 := Lib.hid h2
  have HS := Lib.hid hs
  have HC := Lib.hid hc
  have HS0 := Lib.hid s0
  clear c0 c3 c4 d0 d1 hs h2 hc s0 s4 q0 q1 q2 q3 q4 ht9
  go_wp2_with fail
  refine segs_go hst1 (by simp [isLoad]) ?_
  go_wp2_with fail
  refine segs_nil ?_
  go_upto_region 6 with fail
  obtain ⟨w2, hw2⟩ : ∃ w2, w2 = put5 w1 sb (kp % r.N * 9 + 4) v := ⟨_, rfl⟩
  have hw2' : ((((w1.setCell ⟨sb, kp % r.N * 9 + 4, none⟩ (.int .u64 v.id)).setCell ⟨sb, kp % r.N * 9 + 4 + 1, none⟩ (.int .i64 v.slot)).setCell ⟨sb, kp % r.N * 9 + 4 + 2, none⟩ (.int .u64 v.gen)).setCell ⟨sb, kp % r.N * 9 + 4 + 3, none⟩ (.int .u64 v.dl)).setCell ⟨sb, kp % r.N * 9 + 4 + 4, none⟩ (.int .u64 v.per) = w2 := hw2.symm
  rw [hw2']
  have k2 : Only sb w1 w2 := by rw [hw2]; exact only_put5 _ _ _ _
  have hc2 : Blk w2 sb (set5 c (kp % r.N * 9 + 4) v) Ts := by rw [hw2]; exact HC.out.put5 v
  have ht3 := ht2.only k2 hsb
  have d1 : w2.cell? ⟨tk, 1, none⟩ = some (.int .i64 kp) := ht3.cell 1
  have hs0' : (set5 c (kp % r.N * 9 + 4) v)[kp % r.N * 9]? = some (.int .i64 (r.seq kp)) := by rw [set5_ne (by omega)]; exact HS0.out
  have HC2 := Lib.hid (And.intro hc2 hs0')
  have K1 := Lib.hid (show Kept (fun x => x = sb ∨ x = tk) w w2 from (K0.out.mono (fun _ _ f => f.elim)).trans (((hk1.mono (fun _ _ e => .inr e)).of_still k1').step k2 (fun _ _ e => .inl e)))
  clear hw2 hw2' hc2 hs0' e0 e1 e2 e3 e4 g0 g1 g2 g3 g4 v0 v1 v2 v3 v4 hst1 k1 k1' bV2 ht2
  refine wp_region_text ([4], [45, 56, 81]) [tk] (by kernel_rfl) (by kernel_rfl) (cellsB_cons ht3.cells cellsB_nil) (by simp [segs, isEff, isLoad, askOps, asks, ptrEq, eqOrNe, isNil]; rfl) ?_
  refine segs_go stay_drew (by simp [isLoad]) ?_
  go_wp2_with fail
  refine segs_load stay_drew (fun _ => (by exact ⟨tk, _, rfl, by simp⟩)) ?_
  go_wp2_with fail
  refine (store_any sb (kp % r.N * 9) _ (r.seq kp) (2 * (kp : Int) + 1) Ts _ (HC2.out.1.drewN 1) HC2.out.2).mono ?_
  rintro e w3 ⟨rfl, k3, hc3⟩
  have k3' : Only sb w2 w3 := ((only_refl sb w2).drewN 1).trans k3
  have hT := ht3.only k3' hsb
  have hst3 : StayB [tk] w2 w3 := fun x hx => by
    simp only [List.mem_singleton] at hx; subst hx
    exact hT.trans ht3.symm
  have hI := kpublish_t (v := v) HH2.out HS.out hp hp2 (k2.trans k3') hc3 rfl
  have HI := Lib.hid hI
  have HT := Lib.hid hT
  have HK := Lib.hid (K1.out.step k3' (fun _ _ e => .inl e))
  clear hI hT d1 hc3 ht3 k3 k3'
  go_wp2_with fail
  refine segs_go hst3 (by simp [isLoad]) ?_
  go_wp2_with fail
  refine segs_nil ?_
  go_wp2_with fail
  go_ret
  exact ⟨rfl, HI.out, HT.out, HK.out⟩
end Go.Proofs.Ythamdbfilpegjaa
