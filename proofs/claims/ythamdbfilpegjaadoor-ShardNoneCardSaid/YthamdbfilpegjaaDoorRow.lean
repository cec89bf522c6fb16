/-
  What stands here: slices of integers that a call reads or makes: what is known of them, and how two are compared. Under no condition.
-/
import Derived.Test.YthamdbfilpegjaaDoorLib
import Derived.OwnWalk
namespace Go.Proofs.YthamdbfilpegjaaDoor
set_option linter.unusedVariables false
set_option linter.unusedSimpArgs false
open Go.RowKit Go.Proofs

/-- two lists, piece by piece -/
def RelL {α β : Type} (R : α → β → Prop) : List α → List β → Prop
  | [], [] => True
  | a :: l, b :: m => R a b ∧ RelL R l m
  | _, _ => False
theorem relL_snoc {α β : Type} {R : α → β → Prop} {a : α} {b : β} (h1 : R a b) : ∀ {l : List α} {m : List β}, RelL R l m → RelL R (l ++ [a]) (m ++ [b])
  | [], [], _ => ⟨h1, trivial⟩
  | _ :: _, _ :: _, h => ⟨h.1, relL_snoc h1 h.2⟩
  | [], _ :: _, h => h.elim
  | _ :: _, [], h => h.elim
theorem relL_mono {α β : Type} {R S : α → β → Prop} (hm : ∀ a b, R a b → S a b) : ∀ {l : List α} {m : List β}, RelL R l m → RelL S l m
  | [], [], _ => trivial
  | _ :: _, _ :: _, h => ⟨hm _ _ h.1, relL_mono hm h.2⟩
  | [], _ :: _, h => h.elim
  | _ :: _, [], h => h.elim
theorem relL_len {α β : Type} {R : α → β → Prop} : ∀ {l : List α} {m : List β}, RelL R l m → l.length = m.length
  | [], [], _ => rfl
  | _ :: _, _ :: _, h => by simp [relL_len h.2]
  | [], _ :: _, h => h.elim
  | _ :: _, [], h => h.elim

theorem relL_at {α β : Type} {R : α → β → Prop} : ∀ {l : List α} {m : List β} {i : Nat} {a : α}, RelL R l m → l[i]? = some a → ∃ b, m[i]? = some b ∧ R a b
  | _ :: _, b :: _, 0, _, h, hi => ⟨b, rfl, by simp at hi; rw [← hi]; exact h.1⟩
  | _ :: _, _ :: _, i + 1, _, h, hi => relL_at (i := i) h.2 (by simpa using hi)
  | [], [], _, _, _, hi => by simp at hi
  | [], _ :: _, _, _, h, _ => h.elim
  | _ :: _, [], _, _, h, _ => h.elim
theorem relL_drop {α β : Type} {R : α → β → Prop} : ∀ {l : List α} {m : List β} (k : Nat), RelL R l m → RelL R (l.drop k) (m.drop k)
  | _, _, 0, h => h
  | [], [], _ + 1, h => h
  | _ :: _, _ :: _, k + 1, h => relL_drop k h.2
  | [], _ :: _, _ + 1, h => h.elim
  | _ :: _, [], _ + 1, h => h.elim
theorem ret_int {k : IntKind} {a b : Int} (h : a = b) : Ending.returned (.int k a) = .returned (.int k b) := by rw [h]
theorem ret_bool {a b : Bool} (h : a = b) : Ending.returned (.bool a) = .returned (.bool b) := by rw [h]

theorem bd_u64 {a : Int} (h : (Lit.int .u64 a).wf = true) : 0 ≤ a ∧ a < 18446744073709551616 := by
  have h1 : IntKind.u64.min = 0 := by decide
  have h2 : IntKind.u64.max = 18446744073709551615 := by decide
  simp only [Lit.wf, Bool.and_eq_true, decide_eq_true_eq, h1, h2] at h; omega
theorem bd_i64 {a : Int} (h : (Lit.int .i64 a).wf = true) : -9223372036854775808 ≤ a ∧ a ≤ 9223372036854775807 := by
  have h1 : IntKind.i64.min = -9223372036854775808 := by decide
  have h2 : IntKind.i64.max = 9223372036854775807 := by decide
  simp only [Lit.wf, Bool.and_eq_true, decide_eq_true_eq, h1, h2] at h; omega
theorem bd_u8 {a : Int} (h : (Lit.int .u8 a).wf = true) : 0 ≤ a ∧ a < 256 := by
  have h1 : IntKind.u8.min = 0 := by decide
  have h2 : IntKind.u8.max = 255 := by decide
  simp only [Lit.wf, Bool.and_eq_true, decide_eq_true_eq, h1, h2] at h; omega

/-- the value is a slice of the cells xs, in a block that Q tells -/
def VRow (Q : Nat → Prop) (w : World) (v : Value) (xs : List Value) : Prop :=
  ∃ a cap, v = .slice a xs.length cap ∧ xs.length ≤ cap ∧ cap ≤ maxLen ∧ (0 < xs.length → ∃ b o, a = some ⟨b, o, none⟩ ∧ b < w.heap.size ∧ Q b ∧ ∀ j, j < xs.length → w.cell? ⟨b, o + j, none⟩ = xs[j]?)
/-- the same of integers -/
abbrev IRow (Q : Nat → Prop) (w : World) (v : Value) (zs : List Int) : Prop := VRow Q w v (zs.map (.int .i64))

theorem VRow.nil (Q : Nat → Prop) (w : World) (a : Option Addr) (cap : Nat) (hc : cap ≤ maxLen) : VRow Q w (.slice a 0 cap) [] := ⟨a, cap, rfl, Nat.zero_le _, hc, fun h => absurd h (by simp)⟩
theorem VRow.of_owns {w : World} {base : Nat} {e : TypeId} {v : Value} {n : Nat} {xs : List Value} (h : w.ownsRow base e 1 v n xs) : VRow (base ≤ ·) w v xs := by
  obtain ⟨hl, ⟨rfl, rfl⟩ | ⟨g, cap, cur, rfl, hb, hg, hn, hm, hc, ht⟩⟩ := h
  · obtain rfl : xs = [] := List.eq_nil_of_length_eq_zero (by omega)
    exact VRow.nil _ _ _ _ (Nat.zero_le _)
  · rw [Nat.mul_one] at hl ht
    refine ⟨some ⟨g, 0, none⟩, cap, by rw [hl], by omega, hm, fun h0 => ⟨g, 0, rfl, lt_of_block hg, hb, fun j hj => ?_⟩⟩
    simp only [World.cell?, hg, Nat.zero_add, ← ht]
    rw [List.getElem?_take_of_lt (by omega)]
    simp
theorem VRow.keep {Q : Nat → Prop} {S : Nat → Prop} {w w' : World} {v : Value} {xs : List Value} (h : VRow Q w v xs) (k : Kept S w w') (hn : ∀ b, Q b → b < w.heap.size → ¬ S b) : VRow Q w' v xs := by
  obtain ⟨a, cap, hv, hl, hm, h0⟩ := h
  refine ⟨a, cap, hv, hl, hm, fun hp => ?_⟩
  obtain ⟨b, o, ha, hb, hq, hc⟩ := h0 hp
  exact ⟨b, o, ha, Nat.lt_of_lt_of_le hb k.size, hq, fun j hj => (World.cell?_of_block (a := ⟨b, o + j, none⟩) (k.block b hb (hn b hq hb))).trans (hc j hj)⟩
theorem VRow.still {Q : Nat → Prop} {w w' : World} {v : Value} {xs : List Value} (h : VRow Q w v xs) (k : Still w w') : VRow Q w' v xs := h.keep k (fun _ _ _ f => f)
theorem VRow.below {Q : Nat → Prop} {w w' : World} {v : Value} {xs : List Value} (h : VRow Q w v xs) (k : Below w.heap.size w w') : VRow Q w' v xs :=
  h.keep (kept_of_below k) (fun _ _ hb => by omega)
theorem VRow.mono {Q R : Nat → Prop} {w : World} {v : Value} {xs : List Value} (h : VRow Q w v xs) (hq : ∀ b, Q b → R b) : VRow R w v xs := by
  obtain ⟨a, cap, hv, hl, hm, h0⟩ := h
  exact ⟨a, cap, hv, hl, hm, fun hp => by obtain ⟨b, o, ha, hb, h1, hc⟩ := h0 hp; exact ⟨b, o, ha, hb, hq b h1, hc⟩⟩
theorem VRow.inside {Q : Nat → Prop} {w : World} {v : Value} {xs : List Value} (h : VRow Q w v xs) : VRow (fun b => Q b ∧ b < w.heap.size) w v xs := by
  obtain ⟨a, cap, hv, hl, hm, h0⟩ := h
  exact ⟨a, cap, hv, hl, hm, fun hp => by obtain ⟨b, o, ha, hb, h1, hc⟩ := h0 hp; exact ⟨b, o, ha, hb, ⟨h1, hb⟩, hc⟩⟩
theorem VRow.len {Q : Nat → Prop} {w : World} {v : Value} {xs : List Value} (h : VRow Q w v xs) : ∃ a cap, v = .slice a xs.length cap := by
  obtain ⟨a, cap, hv, _⟩ := h; exact ⟨a, cap, hv⟩
theorem VRow.at_ {Q : Nat → Prop} {w : World} {a : Option Addr} {n cap : Nat} {vs : List Value} (h : VRow Q w (.slice a n cap) vs) :
    n = vs.length ∧ vs.length ≤ cap ∧ cap ≤ maxLen ∧ (0 < vs.length → ∃ b o, a = some ⟨b, o, none⟩ ∧ b < w.heap.size ∧ Q b ∧ ∀ j, j < vs.length → w.cell? ⟨b, o + j, none⟩ = vs[j]?) := by
  obtain ⟨a', cap', hv, hl, hm, h0⟩ := h
  simp only [Value.slice.injEq] at hv
  obtain ⟨rfl, rfl, rfl⟩ := hv
  exact ⟨rfl, hl, hm, h0⟩
theorem VRow.drop {Q : Nat → Prop} {w : World} {b o n cap : Nat} {vs : List Value} (h : VRow Q w (.slice (some ⟨b, o, none⟩) n cap) vs) (k : Nat) (hk : k < cap) : VRow Q w (.slice (some ⟨b, o + k, none⟩) (n - k) (cap - k)) (vs.drop k) := by
  obtain ⟨rfl, hl, hm, h0⟩ := h.at_
  refine ⟨some ⟨b, o + k, none⟩, cap - k, by rw [List.length_drop], by rw [List.length_drop]; omega, by omega, fun hp => ?_⟩
  rw [List.length_drop] at hp
  obtain ⟨b', o', ha, hb, hq, hc⟩ := h0 (by omega)
  simp only [Option.some.injEq, Addr.mk.injEq, and_true] at ha
  obtain ⟨rfl, rfl⟩ := ha
  refine ⟨b, o + k, rfl, hb, hq, fun j hj => ?_⟩
  rw [List.length_drop] at hj
  rw [List.getElem?_drop, Nat.add_assoc]
  exact hc (k + j) (by omega)
theorem VRow.take {Q : Nat → Prop} {w : World} {a : Option Addr} {n cap : Nat} {vs : List Value} (h : VRow Q w (.slice a n cap) vs) (k : Nat) (hk : k ≤ n) : VRow Q w (.slice a k cap) (vs.take k) := by
  obtain ⟨rfl, hl, hm, h0⟩ := h.at_
  have hlen : (vs.take k).length = k := by rw [List.length_take]; omega
  refine ⟨a, cap, by rw [hlen], by rw [hlen]; omega, hm, fun hp => ?_⟩
  rw [hlen] at hp
  obtain ⟨b, o, ha, hb, hq, hc⟩ := h0 (by omega)
  refine ⟨b, o, ha, hb, hq, fun j hj => ?_⟩
  rw [hlen] at hj
  rw [List.getElem?_take_of_lt hj]
  exact hc j (by omega)
theorem VRow.drop_all {Q : Nat → Prop} {w : World} {a : Option Addr} {n cap : Nat} {vs : List Value} (h : VRow Q w (.slice a n cap) vs) : VRow Q w (.slice a (n - cap) 0) (vs.drop cap) := by
  obtain ⟨rfl, hl, hm, h0⟩ := h.at_
  rw [List.drop_eq_nil_of_le hl, Nat.sub_eq_zero_of_le hl]
  exact VRow.nil _ _ _ _ (Nat.zero_le _)
theorem IRow.cells {Q : Nat → Prop} {w : World} {a : Option Addr} {n cap : Nat} {zs : List Int} (h : IRow Q w (.slice a n cap) zs) :
    n = zs.length ∧ zs.length ≤ maxLen ∧ (0 < zs.length → ∃ b o, a = some ⟨b, o, none⟩ ∧ b < w.heap.size ∧ Q b ∧ ∀ j, j < zs.length → w.cell? ⟨b, o + j, none⟩ = some (.int .i64 (zs.getD j 0))) := by
  obtain ⟨hv, hl, hm, h0⟩ := h.at_
  simp only [List.length_map] at hv hl h0
  refine ⟨hv, Nat.le_trans hl hm, fun hp => ?_⟩
  obtain ⟨b, o, ha, hb, hq, hc⟩ := h0 hp
  exact ⟨b, o, ha, hb, hq, fun j hj => by rw [hc j hj, List.getElem?_map, List.getD_eq_getElem?_getD, List.getElem?_eq_getElem hj]; rfl⟩
theorem IRow.of_is {w : World} {a : Option Addr} {len cap : Nat} {zs : List Int} (h : IsRow .i64 w a len cap zs) : IRow (fun _ => True) w (.slice a len cap) (zs.take len) := by
  rcases h with ⟨rfl, rfl, rfl, rfl⟩ | ⟨x, rfl, hl, hm, hz, hc, hw⟩
  · exact VRow.nil _ _ _ _ (Nat.zero_le _)
  · refine ⟨some x, cap, by simp; omega, by simp; omega, hm, fun h0 => ?_⟩
    simp only [List.length_map, List.length_take] at h0 ⊢
    have c0 := hc 0 (by omega)
    have hs : x.spot = none := by have := spot_of_cell c0; simpa [Addr.add] using this
    obtain ⟨b, o, s⟩ := x
    obtain rfl : s = none := hs
    refine ⟨b, o, rfl, by simpa [addr_add] using lt_of_cell c0, trivial, fun j hj => ?_⟩
    have := hc j (by omega)
    rw [addr_add] at this
    rw [this, List.getElem?_map, List.getElem?_take_of_lt (by omega), List.getD_eq_getElem?_getD, List.getElem?_eq_getElem (by omega)]
    rfl

theorem owns_block {w : World} {base : Nat} {e : TypeId} {sz : Nat} {v : Value} {n : Nat} {xs : List Value} (h : w.ownsRow base e sz v n xs) : ∀ k, v.ownBlock = some k → base ≤ k := by
  rintro k hk
  obtain ⟨_, ⟨rfl, _⟩ | ⟨g, cap, cur, rfl, hb, _⟩⟩ := h
  · simp [Value.ownBlock] at hk
  · simp only [Value.ownBlock, Option.some.injEq] at hk; omega
theorem owns_kept {S : Nat → Prop} {w w' : World} {base : Nat} {e : TypeId} {sz : Nat} {v : Value} {n : Nat} {xs : List Value} (h : w.ownsRow base e sz v n xs) (k : Kept S w w') (hS : ∀ b, base ≤ b → b < w.heap.size → ¬ S b) : w'.ownsRow base e sz v n xs := by
  obtain ⟨hl, ⟨rfl, h0⟩ | ⟨g, cap, cur, rfl, hb, hg, hr⟩⟩ := h
  · exact ⟨hl, .inl ⟨rfl, h0⟩⟩
  · exact ⟨hl, .inr ⟨g, cap, cur, rfl, hb, (k.block g (lt_of_block hg) (hS g hb (lt_of_block hg))).trans hg, hr⟩⟩
theorem owns_slice {w : World} {base : Nat} {e : TypeId} {sz : Nat} {v : Value} {n : Nat} {xs : List Value} (h : w.ownsRow base e sz v n xs) : ∃ a c, v = .slice a n c := by
  obtain ⟨_, ⟨rfl, rfl⟩ | ⟨g, cap, cur, rfl, hb, _⟩⟩ := h
  · exact ⟨_, _, rfl⟩
  · exact ⟨_, _, rfl⟩
theorem kept_append {S : Nat → Prop} {w wr w1 : World} {o : Obj} {base : Nat} {e : TypeId} {sz : Nat} {v : Value} {n : Nat} {xs : List Value} (h : Kept S w wr) (hown : wr.ownsRow base e sz v n xs)
    (hg : (wr.alloc o).grownBy w1 v.ownBlock) (hS : ∀ k, k < w.heap.size → base ≤ k → S k) : Kept S w w1 :=
  (h.alloc o).grown hg (fun k hk hlt => hS k hlt (owns_block hown k hk))
theorem below_append {w wr w1 : World} {o : Obj} {B base : Nat} {e : TypeId} {sz : Nat} {v : Value} {n : Nat} {xs : List Value} (h : Below B w wr) (hown : wr.ownsRow base e sz v n xs)
    (hg : (wr.alloc o).grownBy w1 v.ownBlock) (hB : B ≤ base) (hw : B ≤ w.heap.size) : Below B w w1 :=
  below_step h (((Kept.refl (fun k => base ≤ k) wr).alloc o).grown hg (fun k hk _ => owns_block hown k hk)) hw (fun i hi hb => by omega)

theorem take_eq_succ {xs ys : List Int} {k : Nat} (h : xs.take k = ys.take k) (hx : k < xs.length) (hy : k < ys.length) (he : xs.getD k 0 = ys.getD k 0) : xs.take (k + 1) = ys.take (k + 1) := by
  rw [List.take_succ_eq_append_getElem hx, List.take_succ_eq_append_getElem hy, h]
  rw [List.getD_eq_getElem?_getD, List.getD_eq_getElem?_getD, List.getElem?_eq_getElem hx, List.getElem?_eq_getElem hy] at he
  rw [show xs[k] = ys[k] by simpa using he]

end Go.Proofs.YthamdbfilpegjaaDoor
