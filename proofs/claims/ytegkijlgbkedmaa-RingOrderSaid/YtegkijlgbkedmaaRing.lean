/-
  What stands here: what a ring's blocks hold, and what its functions do with them. Under no condition but that they hold it.
-/
import Derived.Test.YtegkijlgbkedmaaRow
import Derived.Test.YtegkijlgbkedmaaCell
import Derived.Test.YtegkijlgbkedmaaTextLast
import Derived.RegionCalls
namespace Go.Proofs.Ytegkijlgbkedmaa
set_option linter.unusedVariables false
set_option linter.unusedSimpArgs false
open Go.RowKit Go.Proofs

/-- a ring: its room, the first position, the next one, what is published and what there is -/
structure RS where
  N : Nat
  h : Nat
  t : Nat
  pub : Nat → Bool
  val : Nat → Value
def RS.seq (r : RS) (q : Nat) : Int := if r.pub q then 2 * (q : Int) + 1 else 2 * (q : Int)
def RS.at_ (r : RS) (z : Value) (q : Nat) : Value := if r.pub q then r.val q else z
/-- what the slot j of five cells holds -/
def SlotAt (c : Array Value) (j : Nat) (s : Int) (v : Value) : Prop :=
  c[j * 5]? = some (.int .i64 s) ∧ (∃ x, c[j * 5 + 1]? = some (.int .i64 x)) ∧ (∃ x, c[j * 5 + 2]? = some (.int .i64 x)) ∧ (∃ x, c[j * 5 + 3]? = some (.int .i64 x)) ∧ c[j * 5 + 4]? = some v
/-- the numbers of a ring -/
structure RS.Ok (r : RS) : Prop where
  n1 : 1 ≤ r.N
  n64 : r.N ≤ 64
  ht : r.h ≤ r.t
  room : r.t ≤ r.h + r.N
  big : r.t < 1000000000000
  pubs : ∀ q, r.t ≤ q → r.pub q = false
/-- the ring's block -/
abbrev ringC (sb : Nat) (r : RS) (x y u : Int) : Array Value := #[.slice (some ⟨sb, 0, none⟩) r.N r.N, .int .i64 r.t, .int .i64 x, .int .i64 y, .int .i64 u, .int .i64 r.h]
structure RingI (z : Value) (b sb : Nat) (T Ts : TypeId) (r : RS) (W : World) : Prop where
  ok : r.Ok
  ne : b ≠ sb
  ring : ∃ x y u : Int, Blk W b (ringC sb r x y u) T
  slots : ∃ c, Blk W sb c Ts ∧ ∀ q, r.h ≤ q → q < r.h + r.N → SlotAt c (q % r.N) (r.seq q) (r.at_ z q)

theorem RingI.kept {z : Value} {b sb : Nat} {T Ts : TypeId} {r : RS} {W W' : World} {S : Nat → Prop} (h : RingI z b sb T Ts r W) (k : Kept S W W') (h1 : ¬ S b) (h2 : ¬ S sb) : RingI z b sb T Ts r W' := by
  obtain ⟨ok, ne, ⟨x, y, u, hb⟩, ⟨c, hc, hs⟩⟩ := h
  exact ⟨ok, ne, ⟨x, y, u, hb.kept k h1⟩, ⟨c, hc.kept k h2, hs⟩⟩
theorem RingI.still {z : Value} {b sb : Nat} {T Ts : TypeId} {r : RS} {W W' : World} (h : RingI z b sb T Ts r W) (k : Still W W') : RingI z b sb T Ts r W' := h.kept k (fun f => f) (fun f => f)
theorem RingI.lt {z : Value} {b sb : Nat} {T Ts : TypeId} {r : RS} {W : World} (h : RingI z b sb T Ts r W) : b < W.heap.size ∧ sb < W.heap.size := by
  obtain ⟨ok, ne, ⟨x, y, u, hb⟩, ⟨c, hc, hs⟩⟩ := h
  exact ⟨hb.lt, hc.lt⟩

theorem mod_ne {N p q h : Nat} (hN : 1 ≤ N) (h1 : h ≤ p) (h2 : p < h + N) (h3 : h ≤ q) (h4 : q < h + N) (hne : p ≠ q) : p % N ≠ q % N := by
  intro e
  rcases Nat.lt_or_ge p q with hlt | hge
  · have := Nat.sub_mod_eq_zero_of_mod_eq e.symm
    rw [Nat.mod_eq_of_lt (by omega)] at this; omega
  · have := Nat.sub_mod_eq_zero_of_mod_eq e
    rw [Nat.mod_eq_of_lt (by omega)] at this; omega
/-- a position behind the window or ahead of it, and the position of the window that has its slot -/
theorem mod_same {N p h : Nat} (hN : 1 ≤ N) : ∃ q, h ≤ q ∧ q < h + N ∧ q % N = p % N := by
  refine ⟨h + (p % N + N - h % N) % N, by omega, by have := Nat.mod_lt (p % N + N - h % N) hN; omega, ?_⟩
  have h1 := Nat.mod_lt h hN
  have h2 := Nat.mod_lt p hN
  rw [Nat.add_mod, Nat.mod_mod, ← Nat.add_mod]
  rw [← Nat.mod_add_div h N]
  generalize h % N = a at *
  generalize p % N = d at *
  generalize h / N = m at *
  rw [show a + N * m + (d + N - (a + N * m) % N) = d + N * (m + 1) + (a - (a + N * m) % N) by rw [Nat.add_mul_mod_self_left, Nat.mod_eq_of_lt h1, Nat.mul_add]; omega]
  rw [Nat.add_mul_mod_self_left (x := a), Nat.mod_eq_of_lt h1]
  simp [Nat.add_mul_mod_self_left, Nat.mod_eq_of_lt h2]
theorem slot_other {c : Array Value} {j k : Nat} {s : Int} {v : Value} (h : SlotAt c j s v) (i : Nat) (hi : i < 5) (x : Value) (hne : j ≠ k) : SlotAt (c.setIfInBounds (k * 5 + i) x) j s v := by
  obtain ⟨h0, ⟨a1, h1⟩, ⟨a2, h2⟩, ⟨a3, h3⟩, h4⟩ := h
  refine ⟨?_, ⟨a1, ?_⟩, ⟨a2, ?_⟩, ⟨a3, ?_⟩, ?_⟩ <;> rw [Array.getElem?_setIfInBounds_ne (by omega)] <;> assumption
theorem get_set {c : Array Value} {i : Nat} {x y : Value} (h : c[i]? = some y) : (c.setIfInBounds i x)[i]? = some x := by
  have : i < c.size := (Array.getElem?_eq_some_iff.1 h).1
  simp [this]
theorem slot_seq {c : Array Value} {j : Nat} {s s' : Int} {v : Value} (h : SlotAt c j s v) : SlotAt (c.setIfInBounds (j * 5) (.int .i64 s')) j s' v := by
  obtain ⟨h0, ⟨a1, h1⟩, ⟨a2, h2⟩, ⟨a3, h3⟩, h4⟩ := h
  refine ⟨get_set h0, ⟨a1, ?_⟩, ⟨a2, ?_⟩, ⟨a3, ?_⟩, ?_⟩ <;> rw [Array.getElem?_setIfInBounds_ne (by omega)] <;> assumption
theorem slot_val {c : Array Value} {j : Nat} {s : Int} {v v' : Value} (h : SlotAt c j s v) : SlotAt (c.setIfInBounds (j * 5 + 4) v') j s v' := by
  obtain ⟨h0, ⟨a1, h1⟩, ⟨a2, h2⟩, ⟨a3, h3⟩, h4⟩ := h
  refine ⟨?_, ⟨a1, ?_⟩, ⟨a2, ?_⟩, ⟨a3, ?_⟩, get_set h4⟩ <;> rw [Array.getElem?_setIfInBounds_ne (by omega)] <;> assumption
theorem slot_loads {c : Array Value} {j : Nat} {s : Int} {v : Value} (h : SlotAt c j s v) (x : Int) : SlotAt (c.setIfInBounds (j * 5 + 1) (.int .i64 x)) j s v := by
  obtain ⟨h0, ⟨a1, h1⟩, ⟨a2, h2⟩, ⟨a3, h3⟩, h4⟩ := h
  refine ⟨?_, ⟨x, get_set h1⟩, ⟨a2, ?_⟩, ⟨a3, ?_⟩, ?_⟩ <;> rw [Array.getElem?_setIfInBounds_ne (by omega)] <;> assumption

/-- a ticket -/
structure TS where
  pos : Nat
  next : Nat
  status : Nat
  filled : Bool
abbrev tickC (b : Nat) (k : TS) : Array Value := #[.pointer (some ⟨b, 0, none⟩), .int .i64 k.pos, .int .i64 k.next, .int .i64 k.status, .bool k.filled]

/-- what a ticket is behind a look at its position -/
def weighK (r : RS) (k : TS) : TS := if k.pos < r.h ∨ r.pub k.pos = true then { k with next := 0 } else if r.h + r.N ≤ k.pos then { k with status := 1 } else { k with next := 2 }
theorem window_one {r : RS} (ok : r.Ok) {p q : Nat} (h1 : r.h ≤ q) (h2 : q < r.h + r.N) (he : q % r.N = p % r.N) (hp : r.h ≤ p) (hp2 : p < r.h + r.N) : q = p := by
  by_cases e : q = p
  · exact e
  · exact absurd he (mod_ne ok.n1 h1 h2 hp hp2 e)
/-- what is so of a ticket: its position was the next one once; who is about to take has seen room there -/
structure TickOk (r : RS) (k : TS) : Prop where
  pos : k.pos ≤ r.t
  next : k.next ≤ 2
  room : k.status = 0 → k.next = 2 → k.pos < r.h + r.N
/-- one more position is taken -/
def RS.more (r : RS) : RS := { r with t := r.t + 1 }
/-- a position is published -/
def RS.publish (r : RS) (p : Nat) (v : Value) : RS := { r with pub := fun q => if q = p then true else r.pub q, val := fun q => if q = p then v else r.val q }
theorem RS.Ok.publish {r : RS} (h : r.Ok) {p : Nat} (hp : p < r.t) (v : Value) : (r.publish p v).Ok :=
  ⟨h.n1, h.n64, h.ht, h.room, h.big, fun q hq => by show (if q = p then true else r.pub q) = false; rw [if_neg (by intro e; subst e; exact absurd hp (Nat.not_lt.2 hq))]; exact h.pubs q hq⟩
/-- the first one is popped -/
def RS.pop (r : RS) : RS := { r with h := r.h + 1 }
def RS.ready (r : RS) : Bool := r.pub r.h
theorem RS.Ok.ready_lt {r : RS} (h : r.Ok) (hr : r.ready = true) : r.h < r.t := by
  rcases Nat.lt_or_ge r.h r.t with h1 | h1
  · exact h1
  · have := h.pubs r.h h1; unfold RS.ready at hr; rw [hr] at this; cases this
theorem RS.Ok.pop {r : RS} (h : r.Ok) (hr : r.ready = true) : r.pop.Ok :=
  ⟨h.n1, h.n64, h.ready_lt hr, Nat.le_trans h.room (by show r.h + r.N ≤ r.h + 1 + r.N; omega), h.big, h.pubs⟩
/-- a step: the ring and the ticket behind it -/
def stepK (r : RS) (k : TS) : RS × TS :=
  if k.status = 0 then
    if k.next = 0 then (r, ⟨r.t, 1, k.status, k.filled⟩)
    else if k.next = 1 then (r, weighK r k)
    else (if k.pos = r.t then r.more else r, if k.pos = r.t then { k with next := 0, status := 2 } else { k with next := 0 })
  else (r, k)
theorem RS.Ok.more {r : RS} (h : r.Ok) (h1 : r.t < r.h + r.N) (h2 : r.t + 1 < 1000000000000) : r.more.Ok :=
  ⟨h.n1, h.n64, Nat.le_succ_of_le h.ht, h1, h2, fun q hq => h.pubs q (Nat.le_of_succ_le hq)⟩


set_option maxHeartbeats 1000000 in
theorem at_i {b sb : Nat} {T Ts : TypeId} {r : RS} (pos : Nat) (hp : pos < 2000000000000) (w : World) (h : RingI (.int .i64 0) b sb T Ts r w) :
    Calls Try.prog 30 #[.pointer (some ⟨b, 0, none⟩), .int .i64 pos] w fun e w' => e = .returned (.pointer (some ⟨sb, pos % r.N * 5, none⟩)) ∧ Still w w' := by
  obtain ⟨⟨n1, n64, ht, room, big, pubs⟩, ne, ⟨x, y, u, hb⟩, _⟩ := h
  have c0 : w.cell? ⟨b, 0, none⟩ = some (.slice (some ⟨sb, 0, none⟩) r.N r.N) := hb.cell 0
  have hm := Nat.mod_lt pos n1
  have hmi : ((pos : Int) % (r.N : Int)) = ((pos % r.N : Nat) : Int) := (Int.natCast_emod pos r.N).symm
  obtain ⟨N, hN⟩ : ∃ N, N = r.N := ⟨_, rfl⟩
  rw [← hN] at n1 n64 hm hmi c0 ⊢
  clear hN hb pubs room ht
  obtain ⟨m, hmm⟩ : ∃ m, m = pos % N := ⟨_, rfl⟩
  rw [← hmm] at hm hmi ⊢
  have HM := Lib.hid hmm
  clear hmm
  go_enter Try.func30, Try.ntmps30
  go_wp2_with fail
  go_quiet (fail)
  go_wp2_with fail
  go_ret
  exact ⟨rfl, (still_refl w).drewN _⟩

theorem seqload_i {b sb : Nat} {T Ts : TypeId} {r : RS} (pos : Nat) (w : World) (h : RingI (.int .i64 0) b sb T Ts r w) :
    Calls Try.prog 31 #[.pointer (some ⟨sb, pos % r.N * 5, none⟩)] w fun e w' => (∃ q, (r.h ≤ q ∧ q < r.h + r.N ∧ q % r.N = pos % r.N) ∧ e = .returned (.int .i64 (r.seq q))) ∧ RingI (.int .i64 0) b sb T Ts r w' ∧ Only sb w w' := by
  obtain ⟨ok, ne, hb, ⟨c, hc, hs⟩⟩ := h
  obtain ⟨q, h1, h2, h3⟩ := mod_same (p := pos) (h := r.h) ok.n1
  have hq := hs q h1 h2
  obtain ⟨s0, ⟨x, s1⟩, _⟩ := hq
  rw [h3] at s0 s1
  refine (load_any sb (pos % r.N * 5) c (r.seq q) x rfl Ts w hc s0 s1).mono ?_
  rintro e w' ⟨rfl, k, hb'⟩
  refine ⟨⟨q, ⟨h1, h2, h3⟩, rfl⟩, ⟨ok, ne, ?_, _, hb', fun q' h1' h2' => ?_⟩, k⟩
  · obtain ⟨x', y', u', hb⟩ := hb
    exact ⟨x', y', u', hb.only k ne⟩
  · by_cases e : q' = q
    · subst e
      have := slot_loads (hs q' h1' h2') (wrap64 (x + 1))
      rwa [h3] at this ⊢
    · exact slot_other (hs q' h1' h2') 1 (by omega) _ (by rw [← h3]; exact mod_ne ok.n1 h1' h2' h1 h2 e)

theorem begin_i (b : Nat) (w : World) :
    Calls Try.prog 10 #[.pointer (some ⟨b, 0, none⟩)] w fun e w' => e = .returned (.pointer (some ⟨w.heap.size, 0, none⟩)) ∧ Still w w' ∧ Blk w' w.heap.size (tickC b ⟨0, 0, 0, false⟩) 73 := by
  go_enter Try.func10, Try.ntmps10
  go_wp2
  go_ret
  exact ⟨rfl, by (repeat (first | (with_reducible exact Kept.refl _ _) | (with_reducible refine Kept.drewN ?_ _) | (with_reducible refine Kept.drew ?_) | (with_reducible refine Kept.put ?_ _ _) | (with_reducible refine Kept.alloc ?_ _))), Blk.new _ _ _⟩
theorem begin_none_i (w : World) : Calls Try.prog 10 #[.pointer none] w fun e w' => e = .returned (.pointer none) ∧ w = w' := by
  go_enter Try.func10, Try.ntmps10
  go_wp2
  go_ret
  exact ⟨rfl, rfl⟩

theorem look_i {b sb tk : Nat} {T Ts Tt : TypeId} {r : RS} {k : TS} (w : World) (h : RingI (.int .i64 0) b sb T Ts r w) (ht : Blk w tk (tickC b k) Tt) (hb : tk ≠ b) (hsb : tk ≠ sb) :
    Calls Try.prog 27 #[.pointer (some ⟨tk, 0, none⟩)] w fun e w' => e = .returned (.tuple #[]) ∧ RingI (.int .i64 0) b sb T Ts r w' ∧ Blk w' tk (tickC b ⟨r.t, 1, k.status, k.filled⟩) Tt ∧ Kept (fun x => x = b ∨ x = tk) w w' := by
  obtain ⟨ok, ne, ⟨x, y, u, hr⟩, hs⟩ := h
  have c0 : w.cell? ⟨tk, 0, none⟩ = some (.pointer (some ⟨b, 0, none⟩)) := ht.cell 0
  go_enter Try.func27, Try.ntmps27
  go_wp2_with fail
  refine (load_any b 1 _ r.t x rfl T w hr rfl rfl).mono ?_
  rintro e w1 ⟨rfl, k1, hr1⟩
  have ht1 := ht.only k1 hb
  have f1 := ht1.free 1
  have f2 := ht1.free 2
  have c1 : w1.cell? ⟨tk, 1, none⟩ = some (.int .i64 k.pos) := ht1.cell 1
  have c2 : w1.cell? ⟨tk, 2, none⟩ = some (.int .i64 k.next) := ht1.cell 2
  go_wp2_with fail
  go_end0
  have kw := ((only_refl tk w1).put 1 (.int .i64 r.t)).put 2 (.int .i64 1)
  refine ⟨rfl, ⟨ok, ne, ⟨_, y, u, (hr1.only kw (Ne.symm hb))⟩, ?_⟩, (ht1.set 1 _).set 2 _, (k1.mono (fun _ _ h => .inl h)).step kw (fun _ _ h => .inr h)⟩
  obtain ⟨c, hc, hsl⟩ := hs
  exact ⟨c, (hc.only k1 (Ne.symm ne)).only kw (Ne.symm hsb), hsl⟩

set_option maxHeartbeats 1000000 in
theorem weigh_i {b sb tk : Nat} {T Ts Tt : TypeId} {r : RS} {k : TS} (w : World) (h : RingI (.int .i64 0) b sb T Ts r w) (ht : Blk w tk (tickC b k) Tt) (hb : tk ≠ b) (hsb : tk ≠ sb) (hpt : k.pos ≤ r.t) :
    Calls Try.prog 28 #[.pointer (some ⟨tk, 0, none⟩)] w fun e w' => e = .returned (.tuple #[]) ∧ RingI (.int .i64 0) b sb T Ts r w' ∧ Blk w' tk (tickC b (weighK r k)) Tt ∧ Kept (fun x => x = sb ∨ x = tk) w w' := by
  have ok := h.ok
  have hbig := ok.big
  have c0 : w.cell? ⟨tk, 0, none⟩ = some (.pointer (some ⟨b, 0, none⟩)) := ht.cell 0
  have c1 : w.cell? ⟨tk, 1, none⟩ = some (.int .i64 k.pos) := ht.cell 1
  go_enter Try.func28, Try.ntmps28
  go_wp2_with fail
  refine wp_region_text ([4], [37, 24, 76]) [tk] (by kernel_rfl) (by kernel_rfl) (cellsB_cons ht.cells cellsB_nil) (by simp [segs, isEff, isLoad, askOps, asks, ptrEq, eqOrNe, isNil]; rfl) ?_
  refine segs_go stay_drew (by simp [isLoad]) ?_
  go_wp2_with fail
  refine segs_load stay_drew (fun _ => (by exact ⟨tk, _, rfl, by simp⟩)) ?_
  go_wp2_with fail
  refine segs_load stay_drew (fun _ => (by exact ⟨tk, _, rfl, by simp⟩)) ?_
  go_wp2_with fail
  refine (at_i k.pos (by omega) _ (h.still ((still_refl w).drewN 1))).mono ?_
  rintro e w1 ⟨rfl, k1⟩
  have hst1 : StayB [tk] w w1 := StayB.kept stay_drew k1 (fun x hx => ⟨by simp only [List.mem_singleton] at hx; subst hx; exact ht.lt, fun f => f⟩)
  have h1 := (h.still ((still_refl w).drewN 1)).still k1
  go_wp2_with fail
  refine segs_go hst1 (by simp [isLoad]) ?_
  go_wp2_with fail
  refine (seqload_i k.pos w1 h1).mono ?_
  rintro e w2 ⟨⟨q, ⟨q1, q2, q3⟩, rfl⟩, h2, k2⟩
  have ht2 := (((ht.drewN 1).still k1).only k2 hsb)
  have hst2 : StayB [tk] w w2 := StayB.kept hst1 k2 (fun x hx => ⟨by simp only [List.mem_singleton] at hx; subst hx; exact ((ht.drewN 1).still k1).lt, by simp only [List.mem_singleton] at hx; subst hx; exact hsb⟩)
  have k02 : Kept (fun x => x = sb ∨ x = tk) w w2 := ((((Kept.refl (fun x => x = sb ∨ x = tk) w).drewN 1).of_still k1)).step k2 (fun _ _ e => .inl e)
  have d1 : w2.cell? ⟨tk, 1, none⟩ = some (.int .i64 k.pos) := ht2.cell 1
  have d2 : w2.cell? ⟨tk, 2, none⟩ = some (.int .i64 k.next) := ht2.cell 2
  have d3 : w2.cell? ⟨tk, 3, none⟩ = some (.int .i64 k.status) := ht2.cell 3
  have f2 := ht2.free 2
  have f3 := ht2.free 3
  have hk2 := ((only_refl tk w2).put 2 (.int .i64 0))
  have hroom := ok.room
  have HT := Lib.hid ht
  have H2 := Lib.hid h2
  have HT2 := Lib.hid ht2
  have hN1 := ok.n1
  have fin2 : ∀ (v : Value), RingI (.int .i64 0) b sb T Ts r (w2.setCell ⟨tk, 2, none⟩ v) := fun v => H2.out.kept ((only_refl tk w2).put 2 v) (Ne.symm hb) (Ne.symm hsb)
  have fin3 : ∀ (v : Value), RingI (.int .i64 0) b sb T Ts r (w2.setCell ⟨tk, 3, none⟩ v) := fun v => H2.out.kept ((only_refl tk w2).put 3 v) (Ne.symm hb) (Ne.symm hsb)
  have HF2 := Lib.hid fin2
  have HF3 := Lib.hid fin3
  have kk2 : ∀ (v : Value), Kept (fun x => x = sb ∨ x = tk) w (w2.setCell ⟨tk, 2, none⟩ v) := fun v => k02.step ((only_refl tk w2).put 2 v) (fun _ _ e => .inr e)
  have kk3 : ∀ (v : Value), Kept (fun x => x = sb ∨ x = tk) w (w2.setCell ⟨tk, 3, none⟩ v) := fun v => k02.step ((only_refl tk w2).put 3 v) (fun _ _ e => .inr e)
  have HK2 := Lib.hid kk2
  have HK3 := Lib.hid kk3
  clear ht h2 ht2 h1 c0 c1 fin2 fin3 kk2 kk3 hk2
  rcases Nat.lt_trichotomy q k.pos with hlt | heq | hgt
  · have hpn : r.h + r.N ≤ k.pos := by
      rcases Nat.lt_or_ge k.pos (r.h + r.N) with hl | hl
      · rcases Nat.lt_or_ge k.pos r.h with hl2 | hl2
        · omega
        · exact absurd (window_one ok q1 q2 q3 hl2 hl) (by omega)
      · exact hl
    have hW : weighK r k = { k with status := 1 } := by
      unfold weighK
      rw [if_neg (by rw [ok.pubs k.pos (by omega)]; simp; omega), if_pos hpn]
    have hsq : r.seq q < 2 * (k.pos : Int) := by unfold RS.seq; split <;> omega
    have hs0 : 0 ≤ r.seq q := by unfold RS.seq; split <;> omega
    obtain ⟨s, hs⟩ : ∃ s, s = r.seq q := ⟨_, rfl⟩
    rw [← hs] at hsq hs0 ⊢
    have HW := Lib.hid hW
    clear hs hW
    go_wp2_with fail
    refine segs_go hst2 (by simp [isLoad]) ?_
    go_wp2_with fail
    refine segs_nil ?_
    go_wp2_with fail
    go_end0
    exact ⟨rfl, HF3.out _, by rw [HW.out]; exact HT2.out.set 3 _, HK3.out _⟩
  · cases hp : r.pub k.pos
    · have hW : weighK r k = { k with next := 2 } := by
        unfold weighK
        rw [if_neg (by rw [hp]; simp; omega), if_neg (by omega)]
      have hsq : r.seq q = 2 * (k.pos : Int) := by unfold RS.seq; rw [heq, hp]; simp
      have hsq1 : ¬ r.seq q < 2 * (k.pos : Int) := by omega
      have hsq2 : ¬ 2 * (k.pos : Int) < r.seq q := by omega
      have hs0 : 0 ≤ r.seq q := by unfold RS.seq; split <;> omega
      obtain ⟨s, hs⟩ : ∃ s, s = r.seq q := ⟨_, rfl⟩
      rw [← hs] at hsq1 hsq2 hs0 ⊢
      have HW := Lib.hid hW
      clear hs hW hsq hp
      go_wp2_with fail
      refine segs_go hst2 (by simp [isLoad]) ?_
      go_wp2_with fail
      refine segs_nil ?_
      go_wp2_with fail
      go_end0
      exact ⟨rfl, HF2.out _, by rw [HW.out]; exact HT2.out.set 2 _, HK2.out _⟩
    · have hW : weighK r k = { k with next := 0 } := by
        unfold weighK
        rw [if_pos (.inr hp)]
      have hsq : 2 * (k.pos : Int) < r.seq q := by unfold RS.seq; rw [heq, hp]; simp only [if_true]; omega
      have hs0 : 0 ≤ r.seq q := by unfold RS.seq; split <;> omega
      obtain ⟨s, hs⟩ : ∃ s, s = r.seq q := ⟨_, rfl⟩
      rw [← hs] at hsq hs0 ⊢
      have HW := Lib.hid hW
      clear hs hW hp
      go_wp2_with fail
      refine segs_go hst2 (by simp [isLoad]) ?_
      go_wp2_with fail
      refine segs_nil ?_
      go_wp2_with fail
      go_end0
      exact ⟨rfl, HF2.out _, by rw [HW.out]; exact HT2.out.set 2 _, HK2.out _⟩
  · have hpn : k.pos < r.h := by
      rcases Nat.lt_or_ge k.pos r.h with hl | hl
      · exact hl
      · exact absurd (window_one ok q1 q2 q3 hl (by omega)) (by omega)
    have hW : weighK r k = { k with next := 0 } := by
      unfold weighK
      rw [if_pos (.inl hpn)]
    have hsq : 2 * (k.pos : Int) < r.seq q := by unfold RS.seq; split <;> omega
    have hs0 : 0 ≤ r.seq q := by unfold RS.seq; split <;> omega
    obtain ⟨s, hs⟩ : ∃ s, s = r.seq q := ⟨_, rfl⟩
    rw [← hs] at hsq hs0 ⊢
    have HW := Lib.hid hW
    clear hs hW
    go_wp2_with fail
    refine segs_go hst2 (by simp [isLoad]) ?_
    go_wp2_with fail
    refine segs_nil ?_
    go_wp2_with fail
    go_end0
    exact ⟨rfl, HF2.out _, by rw [HW.out]; exact HT2.out.set 2 _, HK2.out _⟩

set_option maxHeartbeats 1000000 in
theorem take_i {b sb tk : Nat} {T Ts Tt : TypeId} {r : RS} {k : TS} (w : World) (h : RingI (.int .i64 0) b sb T Ts r w) (ht : Blk w tk (tickC b k) Tt) (hb : tk ≠ b) (hsb : tk ≠ sb) (hpt : k.pos ≤ r.t) (hroom : k.pos = r.t → r.t < r.h + r.N ∧ r.t + 1 < 1000000000000) :
    Calls Try.prog 29 #[.pointer (some ⟨tk, 0, none⟩)] w fun e w' => e = .returned (.tuple #[]) ∧ RingI (.int .i64 0) b sb T Ts (if k.pos = r.t then r.more else r) w' ∧ Blk w' tk (tickC b (if k.pos = r.t then { k with next := 0, status := 2 } else { k with next := 0 })) Tt ∧ Kept (fun x => x = b ∨ x = tk) w w' := by
  have ok := h.ok
  have hbig := ok.big
  obtain ⟨x, y, u, hr⟩ := h.ring
  have c2 : w.cell? ⟨tk, 2, none⟩ = some (.int .i64 k.next) := ht.cell 2
  have f2 := ht.free 2
  have hk0 := (only_refl tk w).put 2 (.int .i64 0)
  have ht1 : Blk (w.setCell ⟨tk, 2, none⟩ (.int .i64 0)) tk (tickC b { k with next := 0 }) Tt := ht.set 2 (.int .i64 0)
  have h1 := h.kept hk0 (Ne.symm hb) (Ne.symm hsb)
  have hr1 := hr.only hk0 (Ne.symm hb)
  have d0 : (w.setCell ⟨tk, 2, none⟩ (.int .i64 0)).cell? ⟨tk, 0, none⟩ = some (.pointer (some ⟨b, 0, none⟩)) := ht1.cell 0
  have d1 : (w.setCell ⟨tk, 2, none⟩ (.int .i64 0)).cell? ⟨tk, 1, none⟩ = some (.int .i64 k.pos) := ht1.cell 1
  have H := Lib.hid h
  have H1 := Lib.hid h1
  have HT1 := Lib.hid ht1
  have HR1 := Lib.hid hr1
  clear h h1 hr hr1
  go_enter Try.func29, Try.ntmps29
  go_wp2_with fail
  refine wp_region_text ([4], [37, 24, 76]) [tk] (by kernel_rfl) (by kernel_rfl) (cellsB_cons ht1.cells cellsB_nil) (by simp [segs, isEff, isLoad, askOps, asks, ptrEq, eqOrNe, isNil]; rfl) ?_
  refine segs_go stay_drew (by simp [isLoad]) ?_
  go_wp2_with fail
  refine segs_load stay_drew (fun _ => (by exact ⟨tk, _, rfl, by simp⟩)) ?_
  go_wp2_with fail
  refine segs_load stay_drew (fun _ => (by exact ⟨tk, _, rfl, by simp⟩)) ?_
  go_wp2_with fail
  refine segs_load stay_drew (fun _ => (by exact ⟨tk, _, rfl, by simp⟩)) ?_
  go_wp2_with fail
  by_cases he : k.pos = r.t
  · have hro := hroom he
    refine (swap_yes b 1 (ringC sb r x y u) k.pos (k.pos + 1) y u rfl rfl T _ (HR1.out.drewN 1) (by rw [he]; rfl) rfl rfl).mono ?_
    rintro e w2 ⟨rfl, k2, hr2⟩
    have ht2 := ((HT1.out.drewN 1).only k2 hb)
    have hst2 : StayB [tk] (w.setCell ⟨tk, 2, none⟩ (.int .i64 0)) w2 := fun x hx => by
      simp only [List.mem_singleton] at hx; subst hx
      exact ht2.trans HT1.out.symm
    have c3 : w2.cell? ⟨tk, 3, none⟩ = some (.int .i64 k.status) := ht2.cell 3
    have f3 := ht2.free 3
    have hI : RingI (.int .i64 0) b sb T Ts r.more w2 := by
      refine ⟨ok.more hro.1 hro.2, H.out.ne, ⟨x, wrap64 (y + 1), wrap64 (u + 1), ?_⟩, ?_⟩
      · refine hr2.cast ?_
        simp [ringC, RS.more, he]
      · obtain ⟨c, hc, hs⟩ := H1.out.slots
        exact ⟨c, (hc.drewN 1).only k2 (Ne.symm H.out.ne), hs⟩
    have hfin := hI.kept ((only_refl tk w2).put 3 (.int .i64 2)) (Ne.symm hb) (Ne.symm hsb)
    have hkk : Kept (fun x => x = b ∨ x = tk) w (w2.setCell ⟨tk, 3, none⟩ (.int .i64 2)) := ((((hk0.mono (fun _ _ e => .inr e)) : Kept (fun x => x = b ∨ x = tk) w _).drewN 1).step k2 (fun _ _ e => .inl e)).step ((only_refl tk w2).put 3 (.int .i64 2)) (fun _ _ e => .inr e)
    have HI := Lib.hid hfin
    have HKK := Lib.hid hkk
    have HT2 := Lib.hid ht2
    have HE := Lib.hid he
    clear hI hfin hkk ht2 he hr2 k2 d0 d1 c2 ht1
    go_wp2_with fail
    refine segs_go hst2 (by simp [isLoad]) ?_
    go_wp2_with fail
    refine segs_nil ?_
    go_wp2_with fail
    go_end0
    exact ⟨rfl, HI.out, by rw [← HE.out]; exact HT2.out.set 3 _, HKK.out⟩
  · have hne : (((r.t : Int)) == (k.pos : Int)) = false := by rw [beq_eq_false_iff_ne]; omega
    refine (swap_no b 1 (ringC sb r x y u) r.t k.pos (k.pos + 1) y rfl T _ hne (HR1.out.drewN 1) rfl rfl).mono ?_
    rintro e w2 ⟨rfl, k2, hr2⟩
    have ht2 := ((HT1.out.drewN 1).only k2 hb)
    have hst2 : StayB [tk] (w.setCell ⟨tk, 2, none⟩ (.int .i64 0)) w2 := fun x hx => by
      simp only [List.mem_singleton] at hx; subst hx
      exact ht2.trans HT1.out.symm
    have hI : RingI (.int .i64 0) b sb T Ts r w2 := by
      refine ⟨ok, H.out.ne, ⟨x, wrap64 (y + 1), u, hr2⟩, ?_⟩
      obtain ⟨c, hc, hs⟩ := H1.out.slots
      exact ⟨c, (hc.drewN 1).only k2 (Ne.symm H.out.ne), hs⟩
    have hkk : Kept (fun x => x = b ∨ x = tk) w w2 := (((hk0.mono (fun _ _ e => .inr e)) : Kept (fun x => x = b ∨ x = tk) w _).drewN 1).step k2 (fun _ _ e => .inl e)
    have HI := Lib.hid hI
    have HKK := Lib.hid hkk
    have HT2 := Lib.hid ht2
    clear hI hkk ht2 hr2 k2 d0 d1 c2 ht1
    go_wp2_with fail
    refine segs_go hst2 (by simp [isLoad]) ?_
    go_wp2_with fail
    refine segs_nil ?_
    go_wp2_with fail
    go_end0
    exact ⟨rfl, HI.out, HT2.out, HKK.out⟩


set_option maxHeartbeats 1000000 in
theorem at_s {b sb : Nat} {T Ts : TypeId} {r : RS} (pos : Nat) (hp : pos < 2000000000000) (w : World) (h : RingI (.string ⟨#[]⟩) b sb T Ts r w) :
    Calls Try.prog 33 #[.pointer (some ⟨b, 0, none⟩), .int .i64 pos] w fun e w' => e = .returned (.pointer (some ⟨sb, pos % r.N * 5, none⟩)) ∧ Still w w' := by
  obtain ⟨⟨n1, n64, ht, room, big, pubs⟩, ne, ⟨x, y, u, hb⟩, _⟩ := h
  have c0 : w.cell? ⟨b, 0, none⟩ = some (.slice (some ⟨sb, 0, none⟩) r.N r.N) := hb.cell 0
  have hm := Nat.mod_lt pos n1
  have hmi : ((pos : Int) % (r.N : Int)) = ((pos % r.N : Nat) : Int) := (Int.natCast_emod pos r.N).symm
  obtain ⟨N, hN⟩ : ∃ N, N = r.N := ⟨_, rfl⟩
  rw [← hN] at n1 n64 hm hmi c0 ⊢
  clear hN hb pubs room ht
  obtain ⟨m, hmm⟩ : ∃ m, m = pos % N := ⟨_, rfl⟩
  rw [← hmm] at hm hmi ⊢
  have HM := Lib.hid hmm
  clear hmm
  go_enter Try.func33, Try.ntmps33
  go_wp2_with fail
  go_quiet (fail)
  go_wp2_with fail
  go_ret
  exact ⟨rfl, (still_refl w).drewN _⟩

theorem seqload_s {b sb : Nat} {T Ts : TypeId} {r : RS} (pos : Nat) (w : World) (h : RingI (.string ⟨#[]⟩) b sb T Ts r w) :
    Calls Try.prog 31 #[.pointer (some ⟨sb, pos % r.N * 5, none⟩)] w fun e w' => (∃ q, (r.h ≤ q ∧ q < r.h + r.N ∧ q % r.N = pos % r.N) ∧ e = .returned (.int .i64 (r.seq q))) ∧ RingI (.string ⟨#[]⟩) b sb T Ts r w' ∧ Only sb w w' := by
  obtain ⟨ok, ne, hb, ⟨c, hc, hs⟩⟩ := h
  obtain ⟨q, h1, h2, h3⟩ := mod_same (p := pos) (h := r.h) ok.n1
  have hq := hs q h1 h2
  obtain ⟨s0, ⟨x, s1⟩, _⟩ := hq
  rw [h3] at s0 s1
  refine (load_any sb (pos % r.N * 5) c (r.seq q) x rfl Ts w hc s0 s1).mono ?_
  rintro e w' ⟨rfl, k, hb'⟩
  refine ⟨⟨q, ⟨h1, h2, h3⟩, rfl⟩, ⟨ok, ne, ?_, _, hb', fun q' h1' h2' => ?_⟩, k⟩
  · obtain ⟨x', y', u', hb⟩ := hb
    exact ⟨x', y', u', hb.only k ne⟩
  · by_cases e : q' = q
    · subst e
      have := slot_loads (hs q' h1' h2') (wrap64 (x + 1))
      rwa [h3] at this ⊢
    · exact slot_other (hs q' h1' h2') 1 (by omega) _ (by rw [← h3]; exact mod_ne ok.n1 h1' h2' h1 h2 e)

theorem begin_s (b : Nat) (w : World) :
    Calls Try.prog 23 #[.pointer (some ⟨b, 0, none⟩)] w fun e w' => e = .returned (.pointer (some ⟨w.heap.size, 0, none⟩)) ∧ Still w w' ∧ Blk w' w.heap.size (tickC b ⟨0, 0, 0, false⟩) 86 := by
  go_enter Try.func23, Try.ntmps23
  go_wp2
  go_ret
  exact ⟨rfl, by (repeat (first | (with_reducible exact Kept.refl _ _) | (with_reducible refine Kept.drewN ?_ _) | (with_reducible refine Kept.drew ?_) | (with_reducible refine Kept.put ?_ _ _) | (with_reducible refine Kept.alloc ?_ _))), Blk.new _ _ _⟩
theorem begin_none_s (w : World) : Calls Try.prog 23 #[.pointer none] w fun e w' => e = .returned (.pointer none) ∧ w = w' := by
  go_enter Try.func23, Try.ntmps23
  go_wp2
  go_ret
  exact ⟨rfl, rfl⟩

theorem look_s {b sb tk : Nat} {T Ts Tt : TypeId} {r : RS} {k : TS} (w : World) (h : RingI (.string ⟨#[]⟩) b sb T Ts r w) (ht : Blk w tk (tickC b k) Tt) (hb : tk ≠ b) (hsb : tk ≠ sb) :
    Calls Try.prog 34 #[.pointer (some ⟨tk, 0, none⟩)] w fun e w' => e = .returned (.tuple #[]) ∧ RingI (.string ⟨#[]⟩) b sb T Ts r w' ∧ Blk w' tk (tickC b ⟨r.t, 1, k.status, k.filled⟩) Tt ∧ Kept (fun x => x = b ∨ x = tk) w w' := by
  obtain ⟨ok, ne, ⟨x, y, u, hr⟩, hs⟩ := h
  have c0 : w.cell? ⟨tk, 0, none⟩ = some (.pointer (some ⟨b, 0, none⟩)) := ht.cell 0
  go_enter Try.func34, Try.ntmps34
  go_wp2_with fail
  refine (load_any b 1 _ r.t x rfl T w hr rfl rfl).mono ?_
  rintro e w1 ⟨rfl, k1, hr1⟩
  have ht1 := ht.only k1 hb
  have f1 := ht1.free 1
  have f2 := ht1.free 2
  have c1 : w1.cell? ⟨tk, 1, none⟩ = some (.int .i64 k.pos) := ht1.cell 1
  have c2 : w1.cell? ⟨tk, 2, none⟩ = some (.int .i64 k.next) := ht1.cell 2
  go_wp2_with fail
  go_end0
  have kw := ((only_refl tk w1).put 1 (.int .i64 r.t)).put 2 (.int .i64 1)
  refine ⟨rfl, ⟨ok, ne, ⟨_, y, u, (hr1.only kw (Ne.symm hb))⟩, ?_⟩, (ht1.set 1 _).set 2 _, (k1.mono (fun _ _ h => .inl h)).step kw (fun _ _ h => .inr h)⟩
  obtain ⟨c, hc, hsl⟩ := hs
  exact ⟨c, (hc.only k1 (Ne.symm ne)).only kw (Ne.symm hsb), hsl⟩

set_option maxHeartbeats 1000000 in
theorem weigh_s {b sb tk : Nat} {T Ts Tt : TypeId} {r : RS} {k : TS} (w : World) (h : RingI (.string ⟨#[]⟩) b sb T Ts r w) (ht : Blk w tk (tickC b k) Tt) (hb : tk ≠ b) (hsb : tk ≠ sb) (hpt : k.pos ≤ r.t) :
    Calls Try.prog 35 #[.pointer (some ⟨tk, 0, none⟩)] w fun e w' => e = .returned (.tuple #[]) ∧ RingI (.string ⟨#[]⟩) b sb T Ts r w' ∧ Blk w' tk (tickC b (weighK r k)) Tt ∧ Kept (fun x => x = sb ∨ x = tk) w w' := by
  have ok := h.ok
  have hbig := ok.big
  have c0 : w.cell? ⟨tk, 0, none⟩ = some (.pointer (some ⟨b, 0, none⟩)) := ht.cell 0
  have c1 : w.cell? ⟨tk, 1, none⟩ = some (.int .i64 k.pos) := ht.cell 1
  go_enter Try.func35, Try.ntmps35
  go_wp2_with fail
  refine wp_region_text ([4], [60, 55, 83]) [tk] (by kernel_rfl) (by kernel_rfl) (cellsB_cons ht.cells cellsB_nil) (by simp [segs, isEff, isLoad, askOps, asks, ptrEq, eqOrNe, isNil]; rfl) ?_
  refine segs_go stay_drew (by simp [isLoad]) ?_
  go_wp2_with fail
  refine segs_load stay_drew (fun _ => (by exact ⟨tk, _, rfl, by simp⟩)) ?_
  go_wp2_with fail
  refine segs_load stay_drew (fun _ => (by exact ⟨tk, _, rfl, by simp⟩)) ?_
  go_wp2_with fail
  refine (at_s k.pos (by omega) _ (h.still ((still_refl w).drewN 1))).mono ?_
  rintro e w1 ⟨rfl, k1⟩
  have hst1 : StayB [tk] w w1 := StayB.kept stay_drew k1 (fun x hx => ⟨by simp only [List.mem_singleton] at hx; subst hx; exact ht.lt, fun f => f⟩)
  have h1 := (h.still ((still_refl w).drewN 1)).still k1
  go_wp2_with fail
  refine segs_go hst1 (by simp [isLoad]) ?_
  go_wp2_with fail
  refine (seqload_s k.pos w1 h1).mono ?_
  rintro e w2 ⟨⟨q, ⟨q1, q2, q3⟩, rfl⟩, h2, k2⟩
  have ht2 := (((ht.drewN 1).still k1).only k2 hsb)
  have hst2 : StayB [tk] w w2 := StayB.kept hst1 k2 (fun x hx => ⟨by simp only [List.mem_singleton] at hx; subst hx; exact ((ht.drewN 1).still k1).lt, by simp only [List.mem_singleton] at hx; subst hx; exact hsb⟩)
  have k02 : Kept (fun x => x = sb ∨ x = tk) w w2 := ((((Kept.refl (fun x => x = sb ∨ x = tk) w).drewN 1).of_still k1)).step k2 (fun _ _ e => .inl e)
  have d1 : w2.cell? ⟨tk, 1, none⟩ = some (.int .i64 k.pos) := ht2.cell 1
  have d2 : w2.cell? ⟨tk, 2, none⟩ = some (.int .i64 k.next) := ht2.cell 2
  have d3 : w2.cell? ⟨tk, 3, none⟩ = some (.int .i64 k.status) := ht2.cell 3
  have f2 := ht2.free 2
  have f3 := ht2.free 3
  have hk2 := ((only_refl tk w2).put 2 (.int .i64 0))
  have hroom := ok.room
  have HT := Lib.hid ht
  have H2 := Lib.hid h2
  have HT2 := Lib.hid ht2
  have hN1 := ok.n1
  have fin2 : ∀ (v : Value), RingI (.string ⟨#[]⟩) b sb T Ts r (w2.setCell ⟨tk, 2, none⟩ v) := fun v => H2.out.kept ((only_refl tk w2).put 2 v) (Ne.symm hb) (Ne.symm hsb)
  have fin3 : ∀ (v : Value), RingI (.string ⟨#[]⟩) b sb T Ts r (w2.setCell ⟨tk, 3, none⟩ v) := fun v => H2.out.kept ((only_refl tk w2).put 3 v) (Ne.symm hb) (Ne.symm hsb)
  have HF2 := Lib.hid fin2
  have HF3 := Lib.hid fin3
  have kk2 : ∀ (v : Value), Kept (fun x => x = sb ∨ x = tk) w (w2.setCell ⟨tk, 2, none⟩ v) := fun v => k02.step ((only_refl tk w2).put 2 v) (fun _ _ e => .inr e)
  have kk3 : ∀ (v : Value), Kept (fun x => x = sb ∨ x = tk) w (w2.setCell ⟨tk, 3, none⟩ v) := fun v => k02.step ((only_refl tk w2).put 3 v) (fun _ _ e => .inr e)
  have HK2 := Lib.hid kk2
  have HK3 := Lib.hid kk3
  clear ht h2 ht2 h1 c0 c1 fin2 fin3 kk2 kk3 hk2
  rcases Nat.lt_trichotomy q k.pos with hlt | heq | hgt
  · have hpn : r.h + r.N ≤ k.pos := by
      rcases Nat.lt_or_ge k.pos (r.h + r.N) with hl | hl
      · rcases Nat.lt_or_ge k.pos r.h with hl2 | hl2
        · omega
        · exact absurd (window_one ok q1 q2 q3 hl2 hl) (by omega)
      · exact hl
    have hW : weighK r k = { k with status := 1 } := by
      unfold weighK
      rw [if_neg (by rw [ok.pubs k.pos (by omega)]; simp; omega), if_pos hpn]
    have hsq : r.seq q < 2 * (k.pos : Int) := by unfold RS.seq; split <;> omega
    have hs0 : 0 ≤ r.seq q := by unfold RS.seq; split <;> omega
    obtain ⟨s, hs⟩ : ∃ s, s = r.seq q := ⟨_, rfl⟩
    rw [← hs] at hsq hs0 ⊢
    have HW := Lib.hid hW
    clear hs hW
    go_wp2_with fail
    refine segs_go hst2 (by simp [isLoad]) ?_
    go_wp2_with fail
    refine segs_nil ?_
    go_wp2_with fail
    go_end0
    exact ⟨rfl, HF3.out _, by rw [HW.out]; exact HT2.out.set 3 _, HK3.out _⟩
  · cases hp : r.pub k.pos
    · have hW : weighK r k = { k with next := 2 } := by
        unfold weighK
        rw [if_neg (by rw [hp]; simp; omega), if_neg (by omega)]
      have hsq : r.seq q = 2 * (k.pos : Int) := by unfold RS.seq; rw [heq, hp]; simp
      have hsq1 : ¬ r.seq q < 2 * (k.pos : Int) := by omega
      have hsq2 : ¬ 2 * (k.pos : Int) < r.seq q := by omega
      have hs0 : 0 ≤ r.seq q := by unfold RS.seq; split <;> omega
      obtain ⟨s, hs⟩ : ∃ s, s = r.seq q := ⟨_, rfl⟩
      rw [← hs] at hsq1 hsq2 hs0 ⊢
      have HW := Lib.hid hW
      clear hs hW hsq hp
      go_wp2_with fail
      refine segs_go hst2 (by simp [isLoad]) ?_
      go_wp2_with fail
      refine segs_nil ?_
      go_wp2_with fail
      go_end0
      exact ⟨rfl, HF2.out _, by rw [HW.out]; exact HT2.out.set 2 _, HK2.out _⟩
    · have hW : weighK r k = { k with next := 0 } := by
        unfold weighK
        rw [if_pos (.inr hp)]
      have hsq : 2 * (k.pos : Int) < r.seq q := by unfold RS.seq; rw [heq, hp]; simp only [if_true]; omega
      have hs0 : 0 ≤ r.seq q := by unfold RS.seq; split <;> omega
      obtain ⟨s, hs⟩ : ∃ s, s = r.seq q := ⟨_, rfl⟩
      rw [← hs] at hsq hs0 ⊢
      have HW := Lib.hid hW
      clear hs hW hp
      go_wp2_with fail
      refine segs_go hst2 (by simp [isLoad]) ?_
      go_wp2_with fail
      refine segs_nil ?_
      go_wp2_with fail
      go_end0
      exact ⟨rfl, HF2.out _, by rw [HW.out]; exact HT2.out.set 2 _, HK2.out _⟩
  · have hpn : k.pos < r.h := by
      rcases Nat.lt_or_ge k.pos r.h with hl | hl
      · exact hl
      · exact absurd (window_one ok q1 q2 q3 hl (by omega)) (by omega)
    have hW : weighK r k = { k with next := 0 } := by
      unfold weighK
      rw [if_pos (.inl hpn)]
    have hsq : 2 * (k.pos : Int) < r.seq q := by unfold RS.seq; split <;> omega
    have hs0 : 0 ≤ r.seq q := by unfold RS.seq; split <;> omega
    obtain ⟨s, hs⟩ : ∃ s, s = r.seq q := ⟨_, rfl⟩
    rw [← hs] at hsq hs0 ⊢
    have HW := Lib.hid hW
    clear hs hW
    go_wp2_with fail
    refine segs_go hst2 (by simp [isLoad]) ?_
    go_wp2_with fail
    refine segs_nil ?_
    go_wp2_with fail
    go_end0
    exact ⟨rfl, HF2.out _, by rw [HW.out]; exact HT2.out.set 2 _, HK2.out _⟩

set_option maxHeartbeats 1000000 in
theorem take_s {b sb tk : Nat} {T Ts Tt : TypeId} {r : RS} {k : TS} (w : World) (h : RingI (.string ⟨#[]⟩) b sb T Ts r w) (ht : Blk w tk (tickC b k) Tt) (hb : tk ≠ b) (hsb : tk ≠ sb) (hpt : k.pos ≤ r.t) (hroom : k.pos = r.t → r.t < r.h + r.N ∧ r.t + 1 < 1000000000000) :
    Calls Try.prog 36 #[.pointer (some ⟨tk, 0, none⟩)] w fun e w' => e = .returned (.tuple #[]) ∧ RingI (.string ⟨#[]⟩) b sb T Ts (if k.pos = r.t then r.more else r) w' ∧ Blk w' tk (tickC b (if k.pos = r.t then { k with next := 0, status := 2 } else { k with next := 0 })) Tt ∧ Kept (fun x => x = b ∨ x = tk) w w' := by
  have ok := h.ok
  have hbig := ok.big
  obtain ⟨x, y, u, hr⟩ := h.ring
  have c2 : w.cell? ⟨tk, 2, none⟩ = some (.int .i64 k.next) := ht.cell 2
  have f2 := ht.free 2
  have hk0 := (only_refl tk w).put 2 (.int .i64 0)
  have ht1 : Blk (w.setCell ⟨tk, 2, none⟩ (.int .i64 0)) tk (tickC b { k with next := 0 }) Tt := ht.set 2 (.int .i64 0)
  have h1 := h.kept hk0 (Ne.symm hb) (Ne.symm hsb)
  have hr1 := hr.only hk0 (Ne.symm hb)
  have d0 : (w.setCell ⟨tk, 2, none⟩ (.int .i64 0)).cell? ⟨tk, 0, none⟩ = some (.pointer (some ⟨b, 0, none⟩)) := ht1.cell 0
  have d1 : (w.setCell ⟨tk, 2, none⟩ (.int .i64 0)).cell? ⟨tk, 1, none⟩ = some (.int .i64 k.pos) := ht1.cell 1
  have H := Lib.hid h
  have H1 := Lib.hid h1
  have HT1 := Lib.hid ht1
  have HR1 := Lib.hid hr1
  clear h h1 hr hr1
  go_enter Try.func36, Try.ntmps36
  go_wp2_with fail
  refine wp_region_text ([4], [60, 55, 83]) [tk] (by kernel_rfl) (by kernel_rfl) (cellsB_cons ht1.cells cellsB_nil) (by simp [segs, isEff, isLoad, askOps, asks, ptrEq, eqOrNe, isNil]; rfl) ?_
  refine segs_go stay_drew (by simp [isLoad]) ?_
  go_wp2_with fail
  refine segs_load stay_drew (fun _ => (by exact ⟨tk, _, rfl, by simp⟩)) ?_
  go_wp2_with fail
  refine segs_load stay_drew (fun _ => (by exact ⟨tk, _, rfl, by simp⟩)) ?_
  go_wp2_with fail
  refine segs_load stay_drew (fun _ => (by exact ⟨tk, _, rfl, by simp⟩)) ?_
  go_wp2_with fail
  by_cases he : k.pos = r.t
  · have hro := hroom he
    refine (swap_yes b 1 (ringC sb r x y u) k.pos (k.pos + 1) y u rfl rfl T _ (HR1.out.drewN 1) (by rw [he]; rfl) rfl rfl).mono ?_
    rintro e w2 ⟨rfl, k2, hr2⟩
    have ht2 := ((HT1.out.drewN 1).only k2 hb)
    have hst2 : StayB [tk] (w.setCell ⟨tk, 2, none⟩ (.int .i64 0)) w2 := fun x hx => by
      simp only [List.mem_singleton] at hx; subst hx
      exact ht2.trans HT1.out.symm
    have c3 : w2.cell? ⟨tk, 3, none⟩ = some (.int .i64 k.status) := ht2.cell 3
    have f3 := ht2.free 3
    have hI : RingI (.string ⟨#[]⟩) b sb T Ts r.more w2 := by
      refine ⟨ok.more hro.1 hro.2, H.out.ne, ⟨x, wrap64 (y + 1), wrap64 (u + 1), ?_⟩, ?_⟩
      · refine hr2.cast ?_
        simp [ringC, RS.more, he]
      · obtain ⟨c, hc, hs⟩ := H1.out.slots
        exact ⟨c, (hc.drewN 1).only k2 (Ne.symm H.out.ne), hs⟩
    have hfin := hI.kept ((only_refl tk w2).put 3 (.int .i64 2)) (Ne.symm hb) (Ne.symm hsb)
    have hkk : Kept (fun x => x = b ∨ x = tk) w (w2.setCell ⟨tk, 3, none⟩ (.int .i64 2)) := ((((hk0.mono (fun _ _ e => .inr e)) : Kept (fun x => x = b ∨ x = tk) w _).drewN 1).step k2 (fun _ _ e => .inl e)).step ((only_refl tk w2).put 3 (.int .i64 2)) (fun _ _ e => .inr e)
    have HI := Lib.hid hfin
    have HKK := Lib.hid hkk
    have HT2 := Lib.hid ht2
    have HE := Lib.hid he
    clear hI hfin hkk ht2 he hr2 k2 d0 d1 c2 ht1
    go_wp2_with fail
    refine segs_go hst2 (by simp [isLoad]) ?_
    go_wp2_with fail
    refine segs_nil ?_
    go_wp2_with fail
    go_end0
    exact ⟨rfl, HI.out, by rw [← HE.out]; exact HT2.out.set 3 _, HKK.out⟩
  · have hne : (((r.t : Int)) == (k.pos : Int)) = false := by rw [beq_eq_false_iff_ne]; omega
    refine (swap_no b 1 (ringC sb r x y u) r.t k.pos (k.pos + 1) y rfl T _ hne (HR1.out.drewN 1) rfl rfl).mono ?_
    rintro e w2 ⟨rfl, k2, hr2⟩
    have ht2 := ((HT1.out.drewN 1).only k2 hb)
    have hst2 : StayB [tk] (w.setCell ⟨tk, 2, none⟩ (.int .i64 0)) w2 := fun x hx => by
      simp only [List.mem_singleton] at hx; subst hx
      exact ht2.trans HT1.out.symm
    have hI : RingI (.string ⟨#[]⟩) b sb T Ts r w2 := by
      refine ⟨ok, H.out.ne, ⟨x, wrap64 (y + 1), u, hr2⟩, ?_⟩
      obtain ⟨c, hc, hs⟩ := H1.out.slots
      exact ⟨c, (hc.drewN 1).only k2 (Ne.symm H.out.ne), hs⟩
    have hkk : Kept (fun x => x = b ∨ x = tk) w w2 := (((hk0.mono (fun _ _ e => .inr e)) : Kept (fun x => x = b ∨ x = tk) w _).drewN 1).step k2 (fun _ _ e => .inl e)
    have HI := Lib.hid hI
    have HKK := Lib.hid hkk
    have HT2 := Lib.hid ht2
    clear hI hkk ht2 hr2 k2 d0 d1 c2 ht1
    go_wp2_with fail
    refine segs_go hst2 (by simp [isLoad]) ?_
    go_wp2_with fail
    refine segs_nil ?_
    go_wp2_with fail
    go_end0
    exact ⟨rfl, HI.out, HT2.out, HKK.out⟩

end Go.Proofs.Ytegkijlgbkedmaa
