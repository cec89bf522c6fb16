/-
  What stands here: what a ring's blocks hold, and what its functions do with them. Under no condition but that they hold it.
-/
import Derived.Test.YthamdbfilpegjaaRow
import Derived.Test.YthamdbfilpegjaaCell
import Derived.Test.YthamdbfilpegjaaText
import Derived.RegionCalls
namespace Go.Proofs.Ythamdbfilpegjaa
set_option linter.unusedVariables false
set_option linter.unusedSimpArgs false
open Go.RowKit Go.Proofs

/-- a ring: its room, the first position, the next one, what is published and what there is -/
structure RS where
  N : Nat
  h : Nat
  t : Nat
  pub : Nat → Bool
  val : Nat → Value
def RS.seq (r : RS) (q : Nat) : Int := if r.pub q then 2 * (q : Int) + 1 else 2 * (q : Int)
def RS.at_ (r : RS) (z : Value) (q : Nat) : Value := if r.pub q then r.val q else z
/-- what the slot j of five cells holds -/
def SlotAt (c : Array Value) (j : Nat) (s : Int) (v : Value) : Prop :=
  c[j * 5]? = some (.int .i64 s) ∧ (∃ x, c[j * 5 + 1]? = some (.int .i64 x)) ∧ (∃ x, c[j * 5 + 2]? = some (.int .i64 x)) ∧ (∃ x, c[j * 5 + 3]? = some (.int .i64 x)) ∧ c[j * 5 + 4]? = some v
/-- the numbers of a ring -/
structure RS.Ok (r : RS) : Prop where
  n1 : 1 ≤ r.N
  n64 : r.N ≤ 64
  ht : r.h ≤ r.t
  room : r.t ≤ r.h + r.N
  big : r.t < 1000000000000
  pubs : ∀ q, r.t ≤ q → r.pub q = false
/-- the ring's block -/
abbrev ringC (sb : Nat) (r : RS) (x y u : Int) : Array Value := #[.slice (some ⟨sb, 0, none⟩) r.N r.N, .int .i64 r.t, .int .i64 x, .int .i64 y, .int .i64 u, .int .i64 r.h]
structure RingI (z : Value) (b sb : Nat) (T Ts : TypeId) (r : RS) (W : World) : Prop where
  ok : r.Ok
  ne : b ≠ sb
  ring : ∃ x y u : Int, Blk W b (ringC sb r x y u) T
  slots : ∃ c, Blk W sb c Ts ∧ ∀ q, r.h ≤ q → q < r.h + r.N → SlotAt c (q % r.N) (r.seq q) (r.at_ z q)

theorem RingI.kept {z : Value} {b sb : Nat} {T Ts : TypeId} {r : RS} {W W' : World} {S : Nat → Prop} (h : RingI z b sb T Ts r W) (k : Kept S W W') (h1 : ¬ S b) (h2 : ¬ S sb) : RingI z b sb T Ts r W' := by
  obtain ⟨ok, ne, ⟨x, y, u, hb⟩, ⟨c, hc, hs⟩⟩ := h
  exact ⟨ok, ne, ⟨x, y, u, hb.kept k h1⟩, ⟨c, hc.kept k h2, hs⟩⟩
theorem RingI.still {z : Value} {b sb : Nat} {T Ts : TypeId} {r : RS} {W W' : World} (h : RingI z b sb T Ts r W) (k : Still W W') : RingI z b sb T Ts r W' := h.kept k (fun f => f) (fun f => f)
theorem RingI.lt {z : Value} {b sb : Nat} {T Ts : TypeId} {r : RS} {W : World} (h : RingI z b sb T Ts r W) : b < W.heap.size ∧ sb < W.heap.size := by
  obtain ⟨ok, ne, ⟨x, y, u, hb⟩, ⟨c, hc, hs⟩⟩ := h
  exact ⟨hb.lt, hc.lt⟩

theorem mod_ne {N p q h : Nat} (hN : 1 ≤ N) (h1 : h ≤ p) (h2 : p < h + N) (h3 : h ≤ q) (h4 : q < h + N) (hne : p ≠ q) : p % N ≠ q % N := by
  intro e
  rcases Nat.lt_or_ge p q with hlt | hge
  · have := Nat.sub_mod_eq_zero_of_mod_eq e.symm
    rw [Nat.mod_eq_of_lt (by omega)] at this; omega
  · have := Nat.sub_mod_eq_zero_of_mod_eq e
    rw [Nat.mod_eq_of_lt (by omega)] at this; omega
/-- a position behind the window or ahead of it, and the position of the window that has its slot -/
theorem mod_same {N p h : Nat} (hN : 1 ≤ N) : ∃ q, h ≤ q ∧ q < h + N ∧ q % N = p % N := by
  refine ⟨h + (p % N + N - h % N) % N, by omega, by have := Nat.mod_lt (p % N + N - h % N) hN; omega, ?_⟩
  have h1 := Nat.mod_lt h hN
  have h2 := Nat.mod_lt p hN
  rw [Nat.add_mod, Nat.mod_mod, ← Nat.add_mod]
  rw [← Nat.mod_add_div h N]
  generalize h % N = a at *
  generalize p % N = d at *
  generalize h / N = m at *
  rw [show a + N * m + (d + N - (a + N * m) % N) = d + N * (m + 1) + (a - (a + N * m) % N) by rw [Nat.add_mul_mod_self_left, Nat.mod_eq_of_lt h1, Nat.mul_add]; omega]
  rw [Nat.add_mul_mod_self_left (x := a), Nat.mod_eq_of_lt h1]
  simp [Nat.add_mul_mod_self_left, Nat.mod_eq_of_lt h2]
theorem slot_other {c : Array Value} {j k : Nat} {s : Int} {v : Value} (h : SlotAt c j s v) (i : Nat) (hi : i < 5) (x : Value) (hne : j ≠ k) : SlotAt (c.setIfInBounds (k * 5 + i) x) j s v := by
  obtain ⟨h0, ⟨a1, h1⟩, ⟨a2, h2⟩, ⟨a3, h3⟩, h4⟩ := h
  refine ⟨?_, ⟨a1, ?_⟩, ⟨a2, ?_⟩, ⟨a3, ?_⟩, ?_⟩ <;> rw [Array.getElem?_setIfInBounds_ne (by omega)] <;> assumption
theorem get_set {c : Array Value} {i : Nat} {x y : Value} (h : c[i]? = some y) : (c.setIfInBounds i x)[i]? = some x := by
  have : i < c.size := (Array.getElem?_eq_some_iff.1 h).1
  simp [this]
theorem slot_seq {c : Array Value} {j : Nat} {s s' : Int} {v : Value} (h : SlotAt c j s v) : SlotAt (c.setIfInBounds (j * 5) (.int .i64 s')) j s' v := by
  obtain ⟨h0, ⟨a1, h1⟩, ⟨a2, h2⟩, ⟨a3, h3⟩, h4⟩ := h
  refine ⟨get_set h0, ⟨a1, ?_⟩, ⟨a2, ?_⟩, ⟨a3, ?_⟩, ?_⟩ <;> rw [Array.getElem?_setIfInBounds_ne (by omega)] <;> assumption
theorem slot_val {c : Array Value} {j : Nat} {s : Int} {v v' : Value} (h : SlotAt c j s v) : SlotAt (c.setIfInBounds (j * 5 + 4) v') j s v' := by
  obtain ⟨h0, ⟨a1, h1⟩, ⟨a2, h2⟩, ⟨a3, h3⟩, h4⟩ := h
  refine ⟨?_, ⟨a1, ?_⟩, ⟨a2, ?_⟩, ⟨a3, ?_⟩, get_set h4⟩ <;> rw [Array.getElem?_setIfInBounds_ne (by omega)] <;> assumption
theorem slot_loads {c : Array Value} {j : Nat} {s : Int} {v : Value} (h : SlotAt c j s v) (x : Int) : SlotAt (c.setIfInBounds (j * 5 + 1) (.int .i64 x)) j s v := by
  obtain ⟨h0, ⟨a1, h1⟩, ⟨a2, h2⟩, ⟨a3, h3⟩, h4⟩ := h
  refine ⟨?_, ⟨x, get_set h1⟩, ⟨a2, ?_⟩, ⟨a3, ?_⟩, ?_⟩ <;> rw [Array.getElem?_setIfInBounds_ne (by omega)] <;> assumption

/-- a ticket -/
structure TS where
  pos : Nat
  next : Nat
  status : Nat
  filled : Bool
abbrev tickC (b : Nat) (k : TS) : Array Value := #[.pointer (some ⟨b, 0, none⟩), .int .i64 k.pos, .int .i64 k.next, .int .i64 k.status, .bool k.filled]

/-- what a ticket is behind a look at its position -/
def weighK (r : RS) (k : TS) : TS := if k.pos < r.h ∨ r.pub k.pos = true then { k with next := 0 } else if r.h + r.N ≤ k.pos then { k with status := 1 } else { k with next := 2 }
theorem window_one {r : RS} (ok : r.Ok) {p q : Nat} (h1 : r.h ≤ q) (h2 : q < r.h + r.N) (he : q % r.N = p % r.N) (hp : r.h ≤ p) (hp2 : p < r.h + r.N) : q = p := by
  by_cases e : q = p
  · exact e
  · exact absurd he (mod_ne ok.n1 h1 h2 hp hp2 e)
/-- what is so of a ticket: its position was the next one once; who is about to take has seen room there -/
structure TickOk (r : RS) (k : TS) : Prop where
  pos : k.pos ≤ r.t
  next : k.next ≤ 2
  room : k.status = 0 → k.next = 2 → k.pos < r.h + r.N
/-- one more position is taken -/
def RS.more (r : RS) : RS := { r with t := r.t + 1 }
/-- a position is published -/
def RS.publish (r : RS) (p : Nat) (v : Value) : RS := { r with pub := fun q => if q = p then true else r.pub q, val := fun q => if q = p then v else r.val q }
theorem RS.Ok.publish {r : RS} (h : r.Ok) {p : Nat} (hp : p < r.t) (v : Value) : (r.publish p v).Ok :=
  ⟨h.n1, h.n64, h.ht, h.room, h.big, fun q hq => by show (if q = p then true else r.pub q) = false; rw [if_neg (by intro e; subst e; exact absurd hp (Nat.not_lt.2 hq))]; exact h.pubs q hq⟩
/-- the first one is popped -/
def RS.pop (r : RS) : RS := { r with h := r.h + 1 }
def RS.ready (r : RS) : Bool := r.pub r.h
theorem RS.Ok.ready_lt {r : RS} (h : r.Ok) (hr : r.ready = true) : r.h < r.t := by
  rcases Nat.lt_or_ge r.h r.t with h1 | h1
  · exact h1
  · have := h.pubs r.h h1; unfold RS.ready at hr; rw [hr] at this; cases this
theorem RS.Ok.pop {r : RS} (h : r.Ok) (hr : r.ready = true) : r.pop.Ok :=
  ⟨h.n1, h.n64, h.ready_lt hr, Nat.le_trans h.room (by show r.h + r.N ≤ r.h + 1 + r.N; omega), h.big, h.pubs⟩
/-- a step: the ring and the ticket behind it -/
def stepK (r : RS) (k : TS) : RS × TS :=
  if k.status = 0 then
    if k.next = 0 then (r, ⟨r.t, 1, k.status, k.filled⟩)
    else if k.next = 1 then (r, weighK r k)
    else (if k.pos = r.t then r.more else r, if k.pos = r.t then { k with next := 0, status := 2 } else { k with next := 0 })
  else (r, k)
theorem RS.Ok.more {r : RS} (h : r.Ok) (h1 : r.t < r.h + r.N) (h2 : r.t + 1 < 1000000000000) : r.more.Ok :=
  ⟨h.n1, h.n64, Nat.le_succ_of_le h.ht, h1, h2, fun q hq => h.pubs q (Nat.le_of_succ_le hq)⟩

end Go.Proofs.Ythamdbfilpegjaa
