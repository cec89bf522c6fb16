/-
  What stands here: what pops and tells a ring. Under no condition but that the ring's blocks hold it.
-/
import Derived.Test.YtegkijlgbkedmaaRing
import Derived.Laws.EntriesVeiled
namespace Go.Proofs.Ytegkijlgbkedmaa
set_option linter.unusedVariables false
set_option linter.unusedSimpArgs false
open Go.RowKit Go.Proofs


theorem ready_none_i (w : World) : Calls Try.prog 18 #[.pointer none] w fun e w' => e = .returned (.bool false) ∧ Still w w' := by
  go_enter Try.func18, Try.ntmps18
  go_wp2_with fail
  go_quiet (fail)
  go_wp2_with fail
  go_ret
  exact ⟨rfl, (still_refl w).drewN _⟩

set_option maxHeartbeats 1000000 in
theorem ready_i {b sb : Nat} {T Ts : TypeId} {r : RS} (w : World) (h : RingI (.int .i64 0) b sb T Ts r w) :
    Calls Try.prog 18 #[.pointer (some ⟨b, 0, none⟩)] w fun e w' => e = .returned (.bool r.ready) ∧ RingI (.int .i64 0) b sb T Ts r w' ∧ Only sb w w' := by
  have ok := h.ok
  have hbig := ok.big
  have hht := ok.ht
  obtain ⟨x, y, u, hr⟩ := h.ring
  have c5 : w.cell? ⟨b, 5, none⟩ = some (.int .i64 r.h) := hr.cell 5
  have H := Lib.hid h
  clear h
  go_enter Try.func18, Try.ntmps18
  go_wp2_with fail
  refine wp_region_text ([4], [37, 24, 76]) [b] (by kernel_rfl) (by kernel_rfl) (cellsB_cons hr.cells cellsB_nil) (by simp [segs, isEff, isLoad, askOps, asks, ptrEq, eqOrNe, isNil]; rfl) ?_
  refine segs_go stay_drew (by simp [isLoad]) ?_
  go_wp2_with fail
  refine segs_load stay_drew (fun _ => (by exact ⟨b, _, rfl, by simp⟩)) ?_
  go_wp2_with fail
  refine (at_i r.h (by omega) _ (H.out.still ((still_refl _).drewN 1))).mono ?_
  rintro e w1 ⟨rfl, k1⟩
  have k01 : Still w w1 := ((still_refl w).drewN 1).trans k1
  have hst1 : StayB [b] w w1 := StayB.kept (fun _ _ => rfl) k01 (fun x hx => ⟨by simp only [List.mem_singleton] at hx; subst hx; exact hr.lt, fun f => f⟩)
  go_wp2_with fail
  refine segs_go hst1 (by simp [isLoad]) ?_
  go_wp2_with fail
  refine (seqload_i r.h w1 (H.out.still k01)).mono ?_
  rintro e w2 ⟨⟨q, ⟨q1, q2, q3⟩, rfl⟩, h2, k2⟩
  obtain rfl : q = r.h := window_one ok q1 q2 q3 (Nat.le_refl _) (by have := ok.n1; omega)
  have hr2 := (hr.still k01).only k2 H.out.ne
  have hst2 : StayB [b] w w2 := fun x hx => by
    simp only [List.mem_singleton] at hx; subst hx
    exact hr2.trans hr.symm
  have e5 : w2.cell? ⟨b, 5, none⟩ = some (.int .i64 r.h) := hr2.cell 5
  have hK : Only sb w w2 := ((k01.mono (fun _ _ f => f.elim)) : Only sb w w1).trans k2
  have H2 := Lib.hid h2
  have HK := Lib.hid hK
  clear h2 hK k2 q1 q2 q3 c5 hr2
  cases hp : r.ready with
  | false =>
    have hsq : r.seq r.h = 2 * (r.h : Int) := by unfold RS.seq; unfold RS.ready at hp; rw [hp]; simp
    rw [hsq]
    have hne : ((2 * (r.h : Int)) == 2 * (r.h : Int) + 1) = false := by rw [beq_eq_false_iff_ne]; omega
    have HP := Lib.hid hp
    clear hsq hp
    go_wp2_with fail
    refine segs_go hst2 (by simp [isLoad]) ?_
    go_wp2_with fail
    refine segs_load hst2 (fun _ => (by exact ⟨b, _, rfl, by simp⟩)) ?_
    go_wp2_with fail
    refine segs_nil ?_
    go_wp2_with fail
    go_ret
    exact ⟨by rw [HP.out]; rfl, H2.out, HK.out⟩
  | true =>
    have hsq : r.seq r.h = 2 * (r.h : Int) + 1 := by unfold RS.seq; unfold RS.ready at hp; rw [hp]; simp
    rw [hsq]
    have HP := Lib.hid hp
    clear hsq hp
    go_wp2_with fail
    refine segs_go hst2 (by simp [isLoad]) ?_
    go_wp2_with fail
    refine segs_load hst2 (fun _ => (by exact ⟨b, _, rfl, by simp⟩)) ?_
    go_wp2_with fail
    refine segs_nil ?_
    go_wp2_with fail
    go_ret
    exact ⟨by rw [HP.out]; rfl, H2.out, HK.out⟩

/-- the slot of the first position, popped -/
theorem popped_i {b sb : Nat} {T Ts : TypeId} {r : RS} {W : World} {c : Array Value} (h : RingI (.int .i64 0) b sb T Ts r W) (hrd : r.ready = true) (hs : ∀ q, r.h ≤ q → q < r.h + r.N → SlotAt c (q % r.N) (r.seq q) (r.at_ (.int .i64 0) q)) {W' : World} {c' : Array Value} {x y u : Int} (hb' : Blk W' b (ringC sb r.pop x y u) T) (hc' : Blk W' sb c' Ts)
    (e : c' = (c.setIfInBounds (r.h % r.N * 5 + 4) (.int .i64 0)).setIfInBounds (r.h % r.N * 5) (.int .i64 (2 * ((r.h : Int) + r.N)))) : RingI (.int .i64 0) b sb T Ts r.pop W' := by
  have ok := h.ok
  subst e
  refine ⟨ok.pop hrd, h.ne, ⟨x, y, u, hb'⟩, ⟨_, hc', fun q h1 h2 => ?_⟩⟩
  have h1' : r.h + 1 ≤ q := h1
  have h2' : q < r.h + 1 + r.N := h2
  show SlotAt _ (q % r.N) (r.seq q) (r.at_ (.int .i64 0) q)
  by_cases he : q = r.h + r.N
  · subst he
    have hpub : r.pub (r.h + r.N) = false := ok.pubs _ ok.room
    have hm : (r.h + r.N) % r.N = r.h % r.N := Nat.add_mod_right _ _
    rw [hm]
    have := slot_seq (s' := 2 * ((r.h : Int) + r.N)) (slot_val (v' := .int .i64 0) (hs r.h (Nat.le_refl _) (by have := ok.n1; omega)))
    simpa [RS.seq, RS.at_, hpub] using this
  · have hne := mod_ne ok.n1 (p := q) (q := r.h) (h := r.h) (by omega) (by omega) (Nat.le_refl _) (by have := ok.n1; omega) (by omega)
    have := slot_other (slot_other (hs q (by omega) (by omega)) 4 (by omega) (.int .i64 0) hne) 0 (by omega) (.int .i64 (2 * ((r.h : Int) + r.N))) hne
    rw [Nat.add_zero] at this
    exact this

theorem pop_no_i {p : Value} (w : World) (h : Calls Try.prog 18 #[p] w fun e w' => e = .returned (.bool false) ∧ Still w w') :
    Calls Try.prog 15 #[p] w fun e w' => e = .returned (.tuple #[.int .i64 0, .int .i64 6]) ∧ Still w w' := by
  go_enter Try.func15, Try.ntmps15
  go_wp2_with fail
  refine h.mono ?_
  rintro e w1 ⟨rfl, k1⟩
  go_wp2_with fail
  go_ret2
  exact ⟨rfl, k1⟩

set_option maxHeartbeats 1000000 in
theorem pop_i {b sb : Nat} {T Ts : TypeId} {r : RS} (w : World) (h : RingI (.int .i64 0) b sb T Ts r w) (hv : ∀ q, ∃ v, r.val q = .int .i64 v) :
    Calls Try.prog 15 #[.pointer (some ⟨b, 0, none⟩)] w fun e w' => e = .returned (.tuple #[if r.ready then r.val r.h else .int .i64 0, .int .i64 (if r.ready then 0 else 6)]) ∧ RingI (.int .i64 0) b sb T Ts (if r.ready then r.pop else r) w' ∧ Kept (fun x => x = b ∨ x = sb) w w' := by
  have ok := h.ok
  have hbig := ok.big
  have hht := ok.ht
  have hn64 := ok.n64
  cases hrd : r.ready with
  | false =>
    have hc := ready_i w h
    rw [hrd] at hc
    simp only [Bool.false_eq_true, if_false]
    go_enter Try.func15, Try.ntmps15
    go_wp2_with fail
    refine hc.mono ?_
    rintro e w1 ⟨rfl, h1, k1⟩
    go_wp2_with fail
    go_ret2
    exact ⟨rfl, h1, k1.mono (fun _ _ e => .inr e)⟩
  | true =>
    have hc := ready_i w h
    rw [hrd] at hc
    simp only [if_true]
    have HRD := Lib.hid hrd
    obtain ⟨vv, hvv⟩ := hv r.h
    rw [hvv]
    have HV := Lib.hid hvv
    have H := Lib.hid h
    clear hrd hvv hv h
    go_enter Try.func15, Try.ntmps15
    go_wp2_with fail
    refine hc.mono ?_
    rintro e w1 ⟨rfl, h1, k1⟩
    obtain ⟨x, y, u, hr⟩ := h1.ring
    have c5 : w1.cell? ⟨b, 5, none⟩ = some (.int .i64 r.h) := hr.cell 5
    have H1 := Lib.hid h1
    clear h1 hc
    go_wp2_with fail
    refine (at_i r.h (by omega) _ H1.out).mono ?_
    rintro e w2 ⟨rfl, k2⟩
    have h2 := H1.out.still k2
    have hr2 := hr.still k2
    obtain ⟨c, hc, hs⟩ := h2.slots
    have hsp := hs r.h (Nat.le_refl _) (by have := ok.n1; omega)
    have hat : r.at_ (.int .i64 0) r.h = .int .i64 vv := by unfold RS.at_; have := HRD.out; unfold RS.ready at this; rw [this, if_pos rfl, HV.out]
    rw [hat] at hsp
    obtain ⟨s0, _, _, _, s4⟩ := hsp
    have e4 := (hc.cell (r.h % r.N * 5 + 4)).trans s4
    have g4 := hc.free (r.h % r.N * 5 + 4)
    have k3 : Only sb w2 (w2.setCell ⟨sb, r.h % r.N * 5 + 4, none⟩ (.int .i64 0)) := (only_refl sb w2).put _ _
    have hr3 := hr2.only k3 H.out.ne
    have e5 : (w2.setCell ⟨sb, r.h % r.N * 5 + 4, none⟩ (.int .i64 0)).cell? ⟨b, 5, none⟩ = some (.int .i64 r.h) := hr3.cell 5
    have e0 : (w2.setCell ⟨sb, r.h % r.N * 5 + 4, none⟩ (.int .i64 0)).cell? ⟨b, 0, none⟩ = some (.slice (some ⟨sb, 0, none⟩) r.N r.N) := hr3.cell 0
    have HC2 := Lib.hid (hc.set (r.h % r.N * 5 + 4) (.int .i64 0))
    have HC := Lib.hid hc
    have HS0 := Lib.hid s0
    have HS := Lib.hid hs
    have H2 := Lib.hid h2
    clear hc s0 hs h2 c5 hat
    go_wp2_with fail
    refine wp_region_text ([4], [37, 24, 76]) [b] (by kernel_rfl) (by kernel_rfl) (cellsB_cons hr3.cells cellsB_nil) (by simp [segs, isEff, isLoad, askOps, asks, ptrEq, eqOrNe, isNil]; rfl) ?_
    refine segs_go stay_drew (by simp [isLoad]) ?_
    go_wp2_with fail
    refine segs_load stay_drew (fun _ => (by exact ⟨b, _, rfl, by simp⟩)) ?_
    go_wp2_with fail
    refine segs_load stay_drew (fun _ => (by exact ⟨b, _, rfl, by simp⟩)) ?_
    go_wp2_with fail
    refine (store_any sb (r.h % r.N * 5) _ (r.seq r.h) (2 * ((r.h : Int) + r.N)) Ts _ (HC2.out.drewN 1) (by rw [Array.getElem?_setIfInBounds_ne (by omega)]; exact HS0.out)).mono ?_
    rintro e w3 ⟨rfl, k4, hc3⟩
    have hr4 := (hr3.drewN 1).only k4 H.out.ne
    have hst3 : StayB [b] (w2.setCell ⟨sb, r.h % r.N * 5 + 4, none⟩ (.int .i64 0)) w3 := fun x hx => by
      simp only [List.mem_singleton] at hx; subst hx
      exact hr4.trans hr3.symm
    have f5 := hr4.free 5
    have e6 : w3.cell? ⟨b, 5, none⟩ = some (.int .i64 r.h) := hr4.cell 5
    have kb : Only b w3 (w3.setCell ⟨b, 5, none⟩ (.int .i64 ((r.h : Int) + 1))) := (only_refl b w3).put _ _
    have hb5 : Blk (w3.setCell ⟨b, 5, none⟩ (.int .i64 ((r.h : Int) + 1))) b (ringC sb r.pop x y u) T := by
      have := hr4.set 5 (.int .i64 ((r.h : Int) + 1))
      exact this.cast (by simp [ringC, RS.pop])
    have hI := popped_i H2.out HRD.out HS.out hb5 (hc3.only kb (Ne.symm H.out.ne)) rfl
    have hK : Kept (fun x => x = b ∨ x = sb) w (w3.setCell ⟨b, 5, none⟩ (.int .i64 ((r.h : Int) + 1))) :=
      ((((k1.mono (fun _ _ e => .inr e)) : Kept (fun x => x = b ∨ x = sb) w w1).of_still k2).step (((k3.drewN 1).trans k4)) (fun _ _ e => .inr e)).step kb (fun _ _ e => .inl e)
    have HI := Lib.hid hI
    have HK := Lib.hid hK
    clear hI hK hb5 e5 e0 hc3 hr3
    go_wp2_with fail
    refine segs_go hst3 (by simp [isLoad]) ?_
    go_wp2_with fail
    refine segs_nil ?_
    go_wp2_with fail
    go_ret2
    exact ⟨rfl, HI.out, HK.out⟩

theorem len_none_i (w : World) : Calls Try.prog 17 #[.pointer none] w fun e w' => e = .returned (.int .i64 0) ∧ w = w' := by
  go_enter Try.func17, Try.ntmps17
  go_wp2
  go_ret
  exact ⟨rfl, rfl⟩

set_option maxHeartbeats 1000000 in
theorem len_i {b sb : Nat} {T Ts : TypeId} {r : RS} (w : World) (h : RingI (.int .i64 0) b sb T Ts r w) :
    Calls Try.prog 17 #[.pointer (some ⟨b, 0, none⟩)] w fun e w' => e = .returned (.int .i64 ((r.t : Int) - r.h)) ∧ RingI (.int .i64 0) b sb T Ts r w' ∧ Only b w w' := by
  have ok := h.ok
  have hbig := ok.big
  have hht := ok.ht
  obtain ⟨x, y, u, hr⟩ := h.ring
  go_enter Try.func17, Try.ntmps17
  have c5 : w.cell? ⟨b, 5, none⟩ = some (.int .i64 r.h) := hr.cell 5
  have hwr : IntKind.i64.wrap ((r.t : Int) - r.h) = (r.t : Int) - r.h := IntWalk.i64_in _ (by omega)
  have H := Lib.hid h
  clear h
  go_wp2_with fail
  go_region_with (go_at_call 31; refine (load_any b 1 (ringC sb r x y u) r.t x rfl T _ (by exact hr) rfl rfl).mono ?_; rintro e w1 ⟨rfl, k1, hr1⟩; have e5 : w1.cell? ⟨b, 5, none⟩ = some (.int .i64 r.h) := hr1.cell 5)
  all_goals
    go_wp2_with fail
    go_ret
    refine ⟨rfl, ⟨ok, H.out.ne, ⟨wrap64 (x + 1), y, u, ?_⟩, ?_⟩, ?_⟩
    · first | exact hr1 | exact hr1.drewN 1
    · obtain ⟨c, hc, hs⟩ := H.out.slots
      exact ⟨c, Blk.only (w := w) hc (by first | exact k1 | exact ((Kept.refl _ w).drewN 1).trans k1) (Ne.symm H.out.ne), hs⟩
    · first | exact k1 | exact ((Kept.refl _ w).drewN 1).trans k1


theorem ready_none_s (w : World) : Calls Try.prog 32 #[.pointer none] w fun e w' => e = .returned (.bool false) ∧ Still w w' := by
  go_enter Try.func32, Try.ntmps32
  go_wp2_with fail
  go_quiet (fail)
  go_wp2_with fail
  go_ret
  exact ⟨rfl, (still_refl w).drewN _⟩

set_option maxHeartbeats 1000000 in
theorem ready_s {b sb : Nat} {T Ts : TypeId} {r : RS} (w : World) (h : RingI (.string ⟨#[]⟩) b sb T Ts r w) :
    Calls Try.prog 32 #[.pointer (some ⟨b, 0, none⟩)] w fun e w' => e = .returned (.bool r.ready) ∧ RingI (.string ⟨#[]⟩) b sb T Ts r w' ∧ Only sb w w' := by
  have ok := h.ok
  have hbig := ok.big
  have hht := ok.ht
  obtain ⟨x, y, u, hr⟩ := h.ring
  have c5 : w.cell? ⟨b, 5, none⟩ = some (.int .i64 r.h) := hr.cell 5
  have H := Lib.hid h
  clear h
  go_enter Try.func32, Try.ntmps32
  go_wp2_with fail
  refine wp_region_text ([4], [60, 55, 83]) [b] (by kernel_rfl) (by kernel_rfl) (cellsB_cons hr.cells cellsB_nil) (by simp [segs, isEff, isLoad, askOps, asks, ptrEq, eqOrNe, isNil]; rfl) ?_
  refine segs_go stay_drew (by simp [isLoad]) ?_
  go_wp2_with fail
  refine segs_load stay_drew (fun _ => (by exact ⟨b, _, rfl, by simp⟩)) ?_
  go_wp2_with fail
  refine (at_s r.h (by omega) _ (H.out.still ((still_refl _).drewN 1))).mono ?_
  rintro e w1 ⟨rfl, k1⟩
  have k01 : Still w w1 := ((still_refl w).drewN 1).trans k1
  have hst1 : StayB [b] w w1 := StayB.kept (fun _ _ => rfl) k01 (fun x hx => ⟨by simp only [List.mem_singleton] at hx; subst hx; exact hr.lt, fun f => f⟩)
  go_wp2_with fail
  refine segs_go hst1 (by simp [isLoad]) ?_
  go_wp2_with fail
  refine (seqload_s r.h w1 (H.out.still k01)).mono ?_
  rintro e w2 ⟨⟨q, ⟨q1, q2, q3⟩, rfl⟩, h2, k2⟩
  obtain rfl : q = r.h := window_one ok q1 q2 q3 (Nat.le_refl _) (by have := ok.n1; omega)
  have hr2 := (hr.still k01).only k2 H.out.ne
  have hst2 : StayB [b] w w2 := fun x hx => by
    simp only [List.mem_singleton] at hx; subst hx
    exact hr2.trans hr.symm
  have e5 : w2.cell? ⟨b, 5, none⟩ = some (.int .i64 r.h) := hr2.cell 5
  have hK : Only sb w w2 := ((k01.mono (fun _ _ f => f.elim)) : Only sb w w1).trans k2
  have H2 := Lib.hid h2
  have HK := Lib.hid hK
  clear h2 hK k2 q1 q2 q3 c5 hr2
  cases hp : r.ready with
  | false =>
    have hsq : r.seq r.h = 2 * (r.h : Int) := by unfold RS.seq; unfold RS.ready at hp; rw [hp]; simp
    rw [hsq]
    have hne : ((2 * (r.h : Int)) == 2 * (r.h : Int) + 1) = false := by rw [beq_eq_false_iff_ne]; omega
    have HP := Lib.hid hp
    clear hsq hp
    go_wp2_with fail
    refine segs_go hst2 (by simp [isLoad]) ?_
    go_wp2_with fail
    refine segs_load hst2 (fun _ => (by exact ⟨b, _, rfl, by simp⟩)) ?_
    go_wp2_with fail
    refine segs_nil ?_
    go_wp2_with fail
    go_ret
    exact ⟨by rw [HP.out]; rfl, H2.out, HK.out⟩
  | true =>
    have hsq : r.seq r.h = 2 * (r.h : Int) + 1 := by unfold RS.seq; unfold RS.ready at hp; rw [hp]; simp
    rw [hsq]
    have HP := Lib.hid hp
    clear hsq hp
    go_wp2_with fail
    refine segs_go hst2 (by simp [isLoad]) ?_
    go_wp2_with fail
    refine segs_load hst2 (fun _ => (by exact ⟨b, _, rfl, by simp⟩)) ?_
    go_wp2_with fail
    refine segs_nil ?_
    go_wp2_with fail
    go_ret
    exact ⟨by rw [HP.out]; rfl, H2.out, HK.out⟩

/-- the slot of the first position, popped -/
theorem popped_s {b sb : Nat} {T Ts : TypeId} {r : RS} {W : World} {c : Array Value} (h : RingI (.string ⟨#[]⟩) b sb T Ts r W) (hrd : r.ready = true) (hs : ∀ q, r.h ≤ q → q < r.h + r.N → SlotAt c (q % r.N) (r.seq q) (r.at_ (.string ⟨#[]⟩) q)) {W' : World} {c' : Array Value} {x y u : Int} (hb' : Blk W' b (ringC sb r.pop x y u) T) (hc' : Blk W' sb c' Ts)
    (e : c' = (c.setIfInBounds (r.h % r.N * 5 + 4) (.string ⟨#[]⟩)).setIfInBounds (r.h % r.N * 5) (.int .i64 (2 * ((r.h : Int) + r.N)))) : RingI (.string ⟨#[]⟩) b sb T Ts r.pop W' := by
  have ok := h.ok
  subst e
  refine ⟨ok.pop hrd, h.ne, ⟨x, y, u, hb'⟩, ⟨_, hc', fun q h1 h2 => ?_⟩⟩
  have h1' : r.h + 1 ≤ q := h1
  have h2' : q < r.h + 1 + r.N := h2
  show SlotAt _ (q % r.N) (r.seq q) (r.at_ (.string ⟨#[]⟩) q)
  by_cases he : q = r.h + r.N
  · subst he
    have hpub : r.pub (r.h + r.N) = false := ok.pubs _ ok.room
    have hm : (r.h + r.N) % r.N = r.h % r.N := Nat.add_mod_right _ _
    rw [hm]
    have := slot_seq (s' := 2 * ((r.h : Int) + r.N)) (slot_val (v' := .string ⟨#[]⟩) (hs r.h (Nat.le_refl _) (by have := ok.n1; omega)))
    simpa [RS.seq, RS.at_, hpub] using this
  · have hne := mod_ne ok.n1 (p := q) (q := r.h) (h := r.h) (by omega) (by omega) (Nat.le_refl _) (by have := ok.n1; omega) (by omega)
    have := slot_other (slot_other (hs q (by omega) (by omega)) 4 (by omega) (.string ⟨#[]⟩) hne) 0 (by omega) (.int .i64 (2 * ((r.h : Int) + r.N))) hne
    rw [Nat.add_zero] at this
    exact this

theorem pop_no_s {p : Value} (w : World) (h : Calls Try.prog 32 #[p] w fun e w' => e = .returned (.bool false) ∧ Still w w') :
    Calls Try.prog 21 #[p] w fun e w' => e = .returned (.tuple #[.string ⟨#[]⟩, .int .i64 6]) ∧ Still w w' := by
  go_enter Try.func21, Try.ntmps21
  go_wp2_with fail
  refine h.mono ?_
  rintro e w1 ⟨rfl, k1⟩
  go_wp2_with fail
  go_ret2
  exact ⟨rfl, k1⟩

set_option maxHeartbeats 1000000 in
theorem pop_s {b sb : Nat} {T Ts : TypeId} {r : RS} (w : World) (h : RingI (.string ⟨#[]⟩) b sb T Ts r w) (hv : ∀ q, ∃ v, r.val q = .string v) :
    Calls Try.prog 21 #[.pointer (some ⟨b, 0, none⟩)] w fun e w' => e = .returned (.tuple #[if r.ready then r.val r.h else .string ⟨#[]⟩, .int .i64 (if r.ready then 0 else 6)]) ∧ RingI (.string ⟨#[]⟩) b sb T Ts (if r.ready then r.pop else r) w' ∧ Kept (fun x => x = b ∨ x = sb) w w' := by
  have ok := h.ok
  have hbig := ok.big
  have hht := ok.ht
  have hn64 := ok.n64
  cases hrd : r.ready with
  | false =>
    have hc := ready_s w h
    rw [hrd] at hc
    simp only [Bool.false_eq_true, if_false]
    go_enter Try.func21, Try.ntmps21
    go_wp2_with fail
    refine hc.mono ?_
    rintro e w1 ⟨rfl, h1, k1⟩
    go_wp2_with fail
    go_ret2
    exact ⟨rfl, h1, k1.mono (fun _ _ e => .inr e)⟩
  | true =>
    have hc := ready_s w h
    rw [hrd] at hc
    simp only [if_true]
    have HRD := Lib.hid hrd
    obtain ⟨vv, hvv⟩ := hv r.h
    rw [hvv]
    have HV := Lib.hid hvv
    have H := Lib.hid h
    clear hrd hvv hv h
    go_enter Try.func21, Try.ntmps21
    go_wp2_with fail
    refine hc.mono ?_
    rintro e w1 ⟨rfl, h1, k1⟩
    obtain ⟨x, y, u, hr⟩ := h1.ring
    have c5 : w1.cell? ⟨b, 5, none⟩ = some (.int .i64 r.h) := hr.cell 5
    have H1 := Lib.hid h1
    clear h1 hc
    go_wp2_with fail
    refine (at_s r.h (by omega) _ H1.out).mono ?_
    rintro e w2 ⟨rfl, k2⟩
    have h2 := H1.out.still k2
    have hr2 := hr.still k2
    obtain ⟨c, hc, hs⟩ := h2.slots
    have hsp := hs r.h (Nat.le_refl _) (by have := ok.n1; omega)
    have hat : r.at_ (.string ⟨#[]⟩) r.h = .string vv := by unfold RS.at_; have := HRD.out; unfold RS.ready at this; rw [this, if_pos rfl, HV.out]
    rw [hat] at hsp
    obtain ⟨s0, _, _, _, s4⟩ := hsp
    have e4 := (hc.cell (r.h % r.N * 5 + 4)).trans s4
    have g4 := hc.free (r.h % r.N * 5 + 4)
    have k3 : Only sb w2 (w2.setCell ⟨sb, r.h % r.N * 5 + 4, none⟩ (.string ⟨#[]⟩)) := (only_refl sb w2).put _ _
    have hr3 := hr2.only k3 H.out.ne
    have e5 : (w2.setCell ⟨sb, r.h % r.N * 5 + 4, none⟩ (.string ⟨#[]⟩)).cell? ⟨b, 5, none⟩ = some (.int .i64 r.h) := hr3.cell 5
    have e0 : (w2.setCell ⟨sb, r.h % r.N * 5 + 4, none⟩ (.string ⟨#[]⟩)).cell? ⟨b, 0, none⟩ = some (.slice (some ⟨sb, 0, none⟩) r.N r.N) := hr3.cell 0
    have HC2 := Lib.hid (hc.set (r.h % r.N * 5 + 4) (.string ⟨#[]⟩))
    have HC := Lib.hid hc
    have HS0 := Lib.hid s0
    have HS := Lib.hid hs
    have H2 := Lib.hid h2
    clear hc s0 hs h2 c5 hat
    go_wp2_with fail
    refine wp_region_text ([4], [60, 55, 83]) [b] (by kernel_rfl) (by kernel_rfl) (cellsB_cons hr3.cells cellsB_nil) (by simp [segs, isEff, isLoad, askOps, asks, ptrEq, eqOrNe, isNil]; rfl) ?_
    refine segs_go stay_drew (by simp [isLoad]) ?_
    go_wp2_with fail
    refine segs_load stay_drew (fun _ => (by exact ⟨b, _, rfl, by simp⟩)) ?_
    go_wp2_with fail
    refine segs_load stay_drew (fun _ => (by exact ⟨b, _, rfl, by simp⟩)) ?_
    go_wp2_with fail
    refine (store_any sb (r.h % r.N * 5) _ (r.seq r.h) (2 * ((r.h : Int) + r.N)) Ts _ (HC2.out.drewN 1) (by rw [Array.getElem?_setIfInBounds_ne (by omega)]; exact HS0.out)).mono ?_
    rintro e w3 ⟨rfl, k4, hc3⟩
    have hr4 := (hr3.drewN 1).only k4 H.out.ne
    have hst3 : StayB [b] (w2.setCell ⟨sb, r.h % r.N * 5 + 4, none⟩ (.string ⟨#[]⟩)) w3 := fun x hx => by
      simp only [List.mem_singleton] at hx; subst hx
      exact hr4.trans hr3.symm
    have f5 := hr4.free 5
    have e6 : w3.cell? ⟨b, 5, none⟩ = some (.int .i64 r.h) := hr4.cell 5
    have kb : Only b w3 (w3.setCell ⟨b, 5, none⟩ (.int .i64 ((r.h : Int) + 1))) := (only_refl b w3).put _ _
    have hb5 : Blk (w3.setCell ⟨b, 5, none⟩ (.int .i64 ((r.h : Int) + 1))) b (ringC sb r.pop x y u) T := by
      have := hr4.set 5 (.int .i64 ((r.h : Int) + 1))
      exact this.cast (by simp [ringC, RS.pop])
    have hI := popped_s H2.out HRD.out HS.out hb5 (hc3.only kb (Ne.symm H.out.ne)) rfl
    have hK : Kept (fun x => x = b ∨ x = sb) w (w3.setCell ⟨b, 5, none⟩ (.int .i64 ((r.h : Int) + 1))) :=
      ((((k1.mono (fun _ _ e => .inr e)) : Kept (fun x => x = b ∨ x = sb) w w1).of_still k2).step (((k3.drewN 1).trans k4)) (fun _ _ e => .inr e)).step kb (fun _ _ e => .inl e)
    have HI := Lib.hid hI
    have HK := Lib.hid hK
    clear hI hK hb5 e5 e0 hc3 hr3
    go_wp2_with fail
    refine segs_go hst3 (by simp [isLoad]) ?_
    go_wp2_with fail
    refine segs_nil ?_
    go_wp2_with fail
    go_ret2
    exact ⟨rfl, HI.out, HK.out⟩

theorem len_none_s (w : World) : Calls Try.prog 22 #[.pointer none] w fun e w' => e = .returned (.int .i64 0) ∧ w = w' := by
  go_enter Try.func22, Try.ntmps22
  go_wp2
  go_ret
  exact ⟨rfl, rfl⟩

set_option maxHeartbeats 1000000 in
theorem len_s {b sb : Nat} {T Ts : TypeId} {r : RS} (w : World) (h : RingI (.string ⟨#[]⟩) b sb T Ts r w) :
    Calls Try.prog 22 #[.pointer (some ⟨b, 0, none⟩)] w fun e w' => e = .returned (.int .i64 ((r.t : Int) - r.h)) ∧ RingI (.string ⟨#[]⟩) b sb T Ts r w' ∧ Only b w w' := by
  have ok := h.ok
  have hbig := ok.big
  have hht := ok.ht
  obtain ⟨x, y, u, hr⟩ := h.ring
  go_enter Try.func22, Try.ntmps22
  have c5 : w.cell? ⟨b, 5, none⟩ = some (.int .i64 r.h) := hr.cell 5
  have hwr : IntKind.i64.wrap ((r.t : Int) - r.h) = (r.t : Int) - r.h := IntWalk.i64_in _ (by omega)
  have H := Lib.hid h
  clear h
  go_wp2_with fail
  go_region_with (go_at_call 31; refine (load_any b 1 (ringC sb r x y u) r.t x rfl T _ (by exact hr) rfl rfl).mono ?_; rintro e w1 ⟨rfl, k1, hr1⟩; have e5 : w1.cell? ⟨b, 5, none⟩ = some (.int .i64 r.h) := hr1.cell 5)
  all_goals
    go_wp2_with fail
    go_ret
    refine ⟨rfl, ⟨ok, H.out.ne, ⟨wrap64 (x + 1), y, u, ?_⟩, ?_⟩, ?_⟩
    · first | exact hr1 | exact hr1.drewN 1
    · obtain ⟨c, hc, hs⟩ := H.out.slots
      exact ⟨c, Blk.only (w := w) hc (by first | exact k1 | exact ((Kept.refl _ w).drewN 1).trans k1) (Ne.symm H.out.ne), hs⟩
    · first | exact k1 | exact ((Kept.refl _ w).drewN 1).trans k1

end Go.Proofs.Ytegkijlgbkedmaa
