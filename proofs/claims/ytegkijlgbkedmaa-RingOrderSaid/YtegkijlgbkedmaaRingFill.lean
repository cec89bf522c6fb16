/-
  What stands here: what publishes a position. Under no condition but that the ring's blocks hold it.
-/
import Derived.Test.YtegkijlgbkedmaaRing
import Derived.Laws.EntriesVeiled
namespace Go.Proofs.Ytegkijlgbkedmaa
set_option linter.unusedVariables false
set_option linter.unusedSimpArgs false
open Go.RowKit Go.Proofs


/-- the slot of a position, published -/
theorem publish_i {b sb : Nat} {T Ts : TypeId} {r : RS} {W : World} {p : Nat} {v : Value} {c : Array Value} (h : RingI (.int .i64 0) b sb T Ts r W) (hc : Blk W sb c Ts) (hs : ∀ q, r.h ≤ q → q < r.h + r.N → SlotAt c (q % r.N) (r.seq q) (r.at_ (.int .i64 0) q)) (hp : r.h ≤ p) (hp2 : p < r.t) {W' : World} {c' : Array Value} (hk : Only sb W W') (hc' : Blk W' sb c' Ts)
    (e : c' = (c.setIfInBounds (p % r.N * 5 + 4) v).setIfInBounds (p % r.N * 5) (.int .i64 (2 * (p : Int) + 1))) : RingI (.int .i64 0) b sb T Ts (r.publish p v) W' := by
  have ok := h.ok
  obtain ⟨x, y, u, hr⟩ := h.ring
  subst e
  refine ⟨ok.publish hp2 v, h.ne, ⟨x, y, u, hr.only hk h.ne⟩, ⟨_, hc', fun q h1 h2 => ?_⟩⟩
  have h1' : r.h ≤ q := h1
  have h2' : q < r.h + r.N := h2
  show SlotAt _ (q % r.N) _ _
  by_cases he : q = p
  · subst he
    have := slot_seq (s' := 2 * (q : Int) + 1) (slot_val (v' := v) (hs q h1' h2'))
    simpa [RS.seq, RS.at_, RS.publish] using this
  · have hne := mod_ne ok.n1 h1' h2' hp (Nat.lt_of_lt_of_le hp2 ok.room) he
    have := slot_other (slot_other (hs q h1' h2') 4 (by omega) v hne) 0 (by omega) (.int .i64 (2 * (p : Int) + 1)) hne
    rw [Nat.add_zero] at this
    simpa [RS.seq, RS.at_, RS.publish, he] using this

set_option maxHeartbeats 1000000 in
theorem fill_i {b sb tk : Nat} {T Ts Tt : TypeId} {r : RS} {k : TS} (v : Int) (w : World) (h : RingI (.int .i64 0) b sb T Ts r w) (ht : Blk w tk (tickC b k) Tt) (hb : tk ≠ b) (hsb : tk ≠ sb) (hst : k.status = 2) (hf : k.filled = false) (hp : r.h ≤ k.pos) (hp2 : k.pos < r.t) :
    Calls Try.prog 13 #[.pointer (some ⟨tk, 0, none⟩), .int .i64 v] w fun e w' => e = .returned (.int .i64 0) ∧ RingI (.int .i64 0) b sb T Ts (r.publish k.pos (.int .i64 v)) w' ∧ Blk w' tk (tickC b { k with filled := true }) Tt ∧ Kept (fun x => x = sb ∨ x = tk) w w' := by
  have ok := h.ok
  have hbig := ok.big
  obtain ⟨kp, kn, ks, kf⟩ := k
  simp only at hst hf hp hp2
  subst hst hf
  have c0 : w.cell? ⟨tk, 0, none⟩ = some (.pointer (some ⟨b, 0, none⟩)) := ht.cell 0
  have c3 : w.cell? ⟨tk, 3, none⟩ = some (.int .i64 2) := ht.cell 3
  have c4 : w.cell? ⟨tk, 4, none⟩ = some (.bool false) := ht.cell 4
  have f4 := ht.free 4
  have ht1 : Blk (w.setCell ⟨tk, 4, none⟩ (.bool true)) tk (tickC b ⟨kp, kn, 2, true⟩) Tt := ht.set 4 (.bool true)
  have hk1 : Only tk w (w.setCell ⟨tk, 4, none⟩ (.bool true)) := (only_refl tk w).put 4 _
  have h1 := h.kept hk1 (Ne.symm hb) (Ne.symm hsb)
  have d0 : (w.setCell ⟨tk, 4, none⟩ (.bool true)).cell? ⟨tk, 0, none⟩ = some (.pointer (some ⟨b, 0, none⟩)) := ht1.cell 0
  have d1 : (w.setCell ⟨tk, 4, none⟩ (.bool true)).cell? ⟨tk, 1, none⟩ = some (.int .i64 kp) := ht1.cell 1
  have H1 := Lib.hid h1
  clear h1
  go_enter Try.func13, Try.ntmps13
  go_wp2_with fail
  refine wp_region_text ([4], [37, 24, 76]) [tk] (by kernel_rfl) (by kernel_rfl) (cellsB_cons ht1.cells cellsB_nil) (by simp [segs, isEff, isLoad, askOps, asks, ptrEq, eqOrNe, isNil]; rfl) ?_
  refine segs_go stay_drew (by simp [isLoad]) ?_
  go_wp2_with fail
  refine segs_load stay_drew (fun _ => (by exact ⟨tk, _, rfl, by simp⟩)) ?_
  go_wp2_with fail
  refine segs_load stay_drew (fun _ => (by exact ⟨tk, _, rfl, by simp⟩)) ?_
  go_wp2_with fail
  refine (at_i kp (by omega) _ (H1.out.still ((still_refl _).drewN 1))).mono ?_
  rintro e w1 ⟨rfl, k1⟩
  have hst1 : StayB [tk] (w.setCell ⟨tk, 4, none⟩ (.bool true)) w1 := StayB.kept (w := (w.setCell ⟨tk, 4, none⟩ (.bool true)).drewN 1) (fun _ _ => rfl) k1 (fun x hx => ⟨by simp only [List.mem_singleton] at hx; subst hx; exact ht1.lt, fun f => f⟩)
  have h2 := (H1.out.still ((still_refl _).drewN 1)).still k1
  have ht2 := (ht1.drewN 1).still k1
  obtain ⟨c, hc, hs⟩ := h2.slots
  have hsp := hs kp hp (Nat.lt_of_lt_of_le hp2 ok.room)
  obtain ⟨s0, _, _, _, s4⟩ := hsp
  have e4 := (hc.cell (kp % r.N * 5 + 4)).trans s4
  have g4 := hc.free (kp % r.N * 5 + 4)
  have H2 := Lib.hid h2
  have HS := Lib.hid hs
  clear c0 c3 c4 d0 d1 hs h2
  go_wp2_with fail
  refine segs_go hst1 (by simp [isLoad]) ?_
  go_wp2_with fail
  refine segs_nil ?_
  have k2 : Only sb w1 (w1.setCell ⟨sb, kp % r.N * 5 + 4, none⟩ (.int .i64 v)) := (only_refl sb w1).put _ _
  have ht3 := ht2.only k2 hsb
  have d1 : (w1.setCell ⟨sb, kp % r.N * 5 + 4, none⟩ (.int .i64 v)).cell? ⟨tk, 1, none⟩ = some (.int .i64 kp) := ht3.cell 1
  have hc2 := hc.set (kp % r.N * 5 + 4) (.int .i64 v)
  have HC2 := Lib.hid hc2
  have HC := Lib.hid hc
  have HS0 := Lib.hid s0
  clear hc2 hc s0 hst1
  go_wp2_with fail
  refine wp_region_text ([4], [37, 24, 76]) [tk] (by kernel_rfl) (by kernel_rfl) (cellsB_cons ht3.cells cellsB_nil) (by simp [segs, isEff, isLoad, askOps, asks, ptrEq, eqOrNe, isNil]; rfl) ?_
  refine segs_go stay_drew (by simp [isLoad]) ?_
  go_wp2_with fail
  refine segs_load stay_drew (fun _ => (by exact ⟨tk, _, rfl, by simp⟩)) ?_
  go_wp2_with fail
  refine (store_any sb (kp % r.N * 5) _ (r.seq kp) (2 * (kp : Int) + 1) Ts _ (HC2.out.drewN 1) (by rw [Array.getElem?_setIfInBounds_ne (by omega)]; exact HS0.out)).mono ?_
  rintro e w3 ⟨rfl, k3, hc3⟩
  have hst3 : StayB [tk] (w1.setCell ⟨sb, kp % r.N * 5 + 4, none⟩ (.int .i64 v)) w3 := fun x hx => by
    simp only [List.mem_singleton] at hx; subst hx
    exact ((ht3.drewN 1).only k3 hsb).trans ht3.symm
  have k13 : Only sb w1 w3 := (k2.drewN 1).trans k3
  have hI := publish_i (v := .int .i64 v) H2.out HC.out HS.out hp hp2 k13 hc3 rfl
  have hT := (ht3.drewN 1).only k3 hsb
  have hK : Kept (fun x => x = sb ∨ x = tk) w w3 := ((((hk1.mono (fun _ _ e => .inr e)) : Kept (fun x => x = sb ∨ x = tk) w _).drewN 1).of_still k1).step k13 (fun _ _ e => .inl e)
  have HI := Lib.hid hI
  have HT := Lib.hid hT
  have HK := Lib.hid hK
  clear hI hT hK d1 hc3 ht3
  go_wp2_with fail
  refine segs_go hst3 (by simp [isLoad]) ?_
  go_wp2_with fail
  refine segs_nil ?_
  go_wp2_with fail
  go_ret
  exact ⟨rfl, HI.out, HT.out, HK.out⟩

theorem fill_no_i {b tk : Nat} {Tt : TypeId} {k : TS} (v : Int) (w : World) (ht : Blk w tk (tickC b k) Tt) (hst : k.status ≠ 2 ∨ k.filled = true) :
    Calls Try.prog 13 #[.pointer (some ⟨tk, 0, none⟩), .int .i64 v] w fun e w' => e = .returned (.int .i64 7) ∧ w = w' := by
  have c3 : w.cell? ⟨tk, 3, none⟩ = some (.int .i64 k.status) := ht.cell 3
  have c4 : w.cell? ⟨tk, 4, none⟩ = some (.bool k.filled) := ht.cell 4
  by_cases h2 : k.status = 2
  · have hf := hst.resolve_left (fun h => h h2)
    rw [hf] at c4
    rw [h2] at c3
    clear h2 hst hf
    go_enter Try.func13, Try.ntmps13
    go_wp2_with fail
    go_ret
    exact ⟨rfl, rfl⟩
  · have hne : ((k.status : Int) != 2) = true := by rw [bne_iff_ne]; omega
    clear hst
    go_enter Try.func13, Try.ntmps13
    go_wp2_with fail
    go_ret
    exact ⟨rfl, rfl⟩


/-- the slot of a position, published -/
theorem publish_s {b sb : Nat} {T Ts : TypeId} {r : RS} {W : World} {p : Nat} {v : Value} {c : Array Value} (h : RingI (.string ⟨#[]⟩) b sb T Ts r W) (hc : Blk W sb c Ts) (hs : ∀ q, r.h ≤ q → q < r.h + r.N → SlotAt c (q % r.N) (r.seq q) (r.at_ (.string ⟨#[]⟩) q)) (hp : r.h ≤ p) (hp2 : p < r.t) {W' : World} {c' : Array Value} (hk : Only sb W W') (hc' : Blk W' sb c' Ts)
    (e : c' = (c.setIfInBounds (p % r.N * 5 + 4) v).setIfInBounds (p % r.N * 5) (.int .i64 (2 * (p : Int) + 1))) : RingI (.string ⟨#[]⟩) b sb T Ts (r.publish p v) W' := by
  have ok := h.ok
  obtain ⟨x, y, u, hr⟩ := h.ring
  subst e
  refine ⟨ok.publish hp2 v, h.ne, ⟨x, y, u, hr.only hk h.ne⟩, ⟨_, hc', fun q h1 h2 => ?_⟩⟩
  have h1' : r.h ≤ q := h1
  have h2' : q < r.h + r.N := h2
  show SlotAt _ (q % r.N) _ _
  by_cases he : q = p
  · subst he
    have := slot_seq (s' := 2 * (q : Int) + 1) (slot_val (v' := v) (hs q h1' h2'))
    simpa [RS.seq, RS.at_, RS.publish] using this
  · have hne := mod_ne ok.n1 h1' h2' hp (Nat.lt_of_lt_of_le hp2 ok.room) he
    have := slot_other (slot_other (hs q h1' h2') 4 (by omega) v hne) 0 (by omega) (.int .i64 (2 * (p : Int) + 1)) hne
    rw [Nat.add_zero] at this
    simpa [RS.seq, RS.at_, RS.publish, he] using this

set_option maxHeartbeats 1000000 in
theorem fill_s {b sb tk : Nat} {T Ts Tt : TypeId} {r : RS} {k : TS} (v : ByteArray) (w : World) (h : RingI (.string ⟨#[]⟩) b sb T Ts r w) (ht : Blk w tk (tickC b k) Tt) (hb : tk ≠ b) (hsb : tk ≠ sb) (hst : k.status = 2) (hf : k.filled = false) (hp : r.h ≤ k.pos) (hp2 : k.pos < r.t) :
    Calls Try.prog 25 #[.pointer (some ⟨tk, 0, none⟩), .string v] w fun e w' => e = .returned (.int .i64 0) ∧ RingI (.string ⟨#[]⟩) b sb T Ts (r.publish k.pos (.string v)) w' ∧ Blk w' tk (tickC b { k with filled := true }) Tt ∧ Kept (fun x => x = sb ∨ x = tk) w w' := by
  have ok := h.ok
  have hbig := ok.big
  obtain ⟨kp, kn, ks, kf⟩ := k
  simp only at hst hf hp hp2
  subst hst hf
  have c0 : w.cell? ⟨tk, 0, none⟩ = some (.pointer (some ⟨b, 0, none⟩)) := ht.cell 0
  have c3 : w.cell? ⟨tk, 3, none⟩ = some (.int .i64 2) := ht.cell 3
  have c4 : w.cell? ⟨tk, 4, none⟩ = some (.bool false) := ht.cell 4
  have f4 := ht.free 4
  have ht1 : Blk (w.setCell ⟨tk, 4, none⟩ (.bool true)) tk (tickC b ⟨kp, kn, 2, true⟩) Tt := ht.set 4 (.bool true)
  have hk1 : Only tk w (w.setCell ⟨tk, 4, none⟩ (.bool true)) := (only_refl tk w).put 4 _
  have h1 := h.kept hk1 (Ne.symm hb) (Ne.symm hsb)
  have d0 : (w.setCell ⟨tk, 4, none⟩ (.bool true)).cell? ⟨tk, 0, none⟩ = some (.pointer (some ⟨b, 0, none⟩)) := ht1.cell 0
  have d1 : (w.setCell ⟨tk, 4, none⟩ (.bool true)).cell? ⟨tk, 1, none⟩ = some (.int .i64 kp) := ht1.cell 1
  have H1 := Lib.hid h1
  clear h1
  go_enter Try.func25, Try.ntmps25
  go_wp2_with fail
  refine wp_region_text ([4], [60, 55, 83]) [tk] (by kernel_rfl) (by kernel_rfl) (cellsB_cons ht1.cells cellsB_nil) (by simp [segs, isEff, isLoad, askOps, asks, ptrEq, eqOrNe, isNil]; rfl) ?_
  refine segs_go stay_drew (by simp [isLoad]) ?_
  go_wp2_with fail
  refine segs_load stay_drew (fun _ => (by exact ⟨tk, _, rfl, by simp⟩)) ?_
  go_wp2_with fail
  refine segs_load stay_drew (fun _ => (by exact ⟨tk, _, rfl, by simp⟩)) ?_
  go_wp2_with fail
  refine (at_s kp (by omega) _ (H1.out.still ((still_refl _).drewN 1))).mono ?_
  rintro e w1 ⟨rfl, k1⟩
  have hst1 : StayB [tk] (w.setCell ⟨tk, 4, none⟩ (.bool true)) w1 := StayB.kept (w := (w.setCell ⟨tk, 4, none⟩ (.bool true)).drewN 1) (fun _ _ => rfl) k1 (fun x hx => ⟨by simp only [List.mem_singleton] at hx; subst hx; exact ht1.lt, fun f => f⟩)
  have h2 := (H1.out.still ((still_refl _).drewN 1)).still k1
  have ht2 := (ht1.drewN 1).still k1
  obtain ⟨c, hc, hs⟩ := h2.slots
  have hsp := hs kp hp (Nat.lt_of_lt_of_le hp2 ok.room)
  obtain ⟨s0, _, _, _, s4⟩ := hsp
  have e4 := (hc.cell (kp % r.N * 5 + 4)).trans s4
  have g4 := hc.free (kp % r.N * 5 + 4)
  have H2 := Lib.hid h2
  have HS := Lib.hid hs
  clear c0 c3 c4 d0 d1 hs h2
  go_wp2_with fail
  refine segs_go hst1 (by simp [isLoad]) ?_
  go_wp2_with fail
  refine segs_nil ?_
  have k2 : Only sb w1 (w1.setCell ⟨sb, kp % r.N * 5 + 4, none⟩ (.string v)) := (only_refl sb w1).put _ _
  have ht3 := ht2.only k2 hsb
  have d1 : (w1.setCell ⟨sb, kp % r.N * 5 + 4, none⟩ (.string v)).cell? ⟨tk, 1, none⟩ = some (.int .i64 kp) := ht3.cell 1
  have hc2 := hc.set (kp % r.N * 5 + 4) (.string v)
  have HC2 := Lib.hid hc2
  have HC := Lib.hid hc
  have HS0 := Lib.hid s0
  clear hc2 hc s0 hst1
  go_wp2_with fail
  refine wp_region_text ([4], [60, 55, 83]) [tk] (by kernel_rfl) (by kernel_rfl) (cellsB_cons ht3.cells cellsB_nil) (by simp [segs, isEff, isLoad, askOps, asks, ptrEq, eqOrNe, isNil]; rfl) ?_
  refine segs_go stay_drew (by simp [isLoad]) ?_
  go_wp2_with fail
  refine segs_load stay_drew (fun _ => (by exact ⟨tk, _, rfl, by simp⟩)) ?_
  go_wp2_with fail
  refine (store_any sb (kp % r.N * 5) _ (r.seq kp) (2 * (kp : Int) + 1) Ts _ (HC2.out.drewN 1) (by rw [Array.getElem?_setIfInBounds_ne (by omega)]; exact HS0.out)).mono ?_
  rintro e w3 ⟨rfl, k3, hc3⟩
  have hst3 : StayB [tk] (w1.setCell ⟨sb, kp % r.N * 5 + 4, none⟩ (.string v)) w3 := fun x hx => by
    simp only [List.mem_singleton] at hx; subst hx
    exact ((ht3.drewN 1).only k3 hsb).trans ht3.symm
  have k13 : Only sb w1 w3 := (k2.drewN 1).trans k3
  have hI := publish_s (v := .string v) H2.out HC.out HS.out hp hp2 k13 hc3 rfl
  have hT := (ht3.drewN 1).only k3 hsb
  have hK : Kept (fun x => x = sb ∨ x = tk) w w3 := ((((hk1.mono (fun _ _ e => .inr e)) : Kept (fun x => x = sb ∨ x = tk) w _).drewN 1).of_still k1).step k13 (fun _ _ e => .inl e)
  have HI := Lib.hid hI
  have HT := Lib.hid hT
  have HK := Lib.hid hK
  clear hI hT hK d1 hc3 ht3
  go_wp2_with fail
  refine segs_go hst3 (by simp [isLoad]) ?_
  go_wp2_with fail
  refine segs_nil ?_
  go_wp2_with fail
  go_ret
  exact ⟨rfl, HI.out, HT.out, HK.out⟩

theorem fill_no_s {b tk : Nat} {Tt : TypeId} {k : TS} (v : ByteArray) (w : World) (ht : Blk w tk (tickC b k) Tt) (hst : k.status ≠ 2 ∨ k.filled = true) :
    Calls Try.prog 25 #[.pointer (some ⟨tk, 0, none⟩), .string v] w fun e w' => e = .returned (.int .i64 7) ∧ w = w' := by
  have c3 : w.cell? ⟨tk, 3, none⟩ = some (.int .i64 k.status) := ht.cell 3
  have c4 : w.cell? ⟨tk, 4, none⟩ = some (.bool k.filled) := ht.cell 4
  by_cases h2 : k.status = 2
  · have hf := hst.resolve_left (fun h => h h2)
    rw [hf] at c4
    rw [h2] at c3
    clear h2 hst hf
    go_enter Try.func25, Try.ntmps25
    go_wp2_with fail
    go_ret
    exact ⟨rfl, rfl⟩
  · have hne : ((k.status : Int) != 2) = true := by rw [bne_iff_ne]; omega
    clear hst
    go_enter Try.func25, Try.ntmps25
    go_wp2_with fail
    go_ret
    exact ⟨rfl, rfl⟩

end Go.Proofs.Ytegkijlgbkedmaa
