/-
  What stands here: slices of integers that a call reads or makes: what is known of them, and how two are compared. Under no condition.
-/
import Derived.Test.YtbikganlloopbaaLib
import Derived.OwnWalk
import Derived.OwnWalkIn
namespace Go.Proofs.Ytbikganlloopbaa
set_option linter.unusedVariables false
set_option linter.unusedSimpArgs false
open Go.RowKit Go.Proofs

/-- two lists, piece by piece -/
def RelL {α β : Type} (R : α → β → Prop) : List α → List β → Prop
  | [], [] => True
  | a :: l, b :: m => R a b ∧ RelL R l m
  | _, _ => False
theorem relL_snoc {α β : Type} {R : α → β → Prop} {a : α} {b : β} (h1 : R a b) : ∀ {l : List α} {m : List β}, RelL R l m → RelL R (l ++ [a]) (m ++ [b])
  | [], [], _ => ⟨h1, trivial⟩
  | _ :: _, _ :: _, h => ⟨h.1, relL_snoc h1 h.2⟩
  | [], _ :: _, h => h.elim
  | _ :: _, [], h => h.elim
theorem relL_mono {α β : Type} {R S : α → β → Prop} (hm : ∀ a b, R a b → S a b) : ∀ {l : List α} {m : List β}, RelL R l m → RelL S l m
  | [], [], _ => trivial
  | _ :: _, _ :: _, h => ⟨hm _ _ h.1, relL_mono hm h.2⟩
  | [], _ :: _, h => h.elim
  | _ :: _, [], h => h.elim
theorem relL_len {α β : Type} {R : α → β → Prop} : ∀ {l : List α} {m : List β}, RelL R l m → l.length = m.length
  | [], [], _ => rfl
  | _ :: _, _ :: _, h => by simp [relL_len h.2]
  | [], _ :: _, h => h.elim
  | _ :: _, [], h => h.elim

theorem relL_at {α β : Type} {R : α → β → Prop} : ∀ {l : List α} {m : List β} {i : Nat} {a : α}, RelL R l m → l[i]? = some a → ∃ b, m[i]? = some b ∧ R a b
  | _ :: _, b :: _, 0, _, h, hi => ⟨b, rfl, by simp at hi; rw [← hi]; exact h.1⟩
  | _ :: _, _ :: _, i + 1, _, h, hi => relL_at (i := i) h.2 (by simpa using hi)
  | [], [], _, _, _, hi => by simp at hi
  | [], _ :: _, _, _, h, _ => h.elim
  | _ :: _, [], _, _, h, _ => h.elim
theorem relL_drop {α β : Type} {R : α → β → Prop} : ∀ {l : List α} {m : List β} (k : Nat), RelL R l m → RelL R (l.drop k) (m.drop k)
  | _, _, 0, h => h
  | [], [], _ + 1, h => h
  | _ :: _, _ :: _, k + 1, h => relL_drop k h.2
  | [], _ :: _, _ + 1, h => h.elim
  | _ :: _, [], _ + 1, h => h.elim
theorem ret_int {k : IntKind} {a b : Int} (h : a = b) : Ending.returned (.int k a) = .returned (.int k b) := by rw [h]
theorem ret_bool {a b : Bool} (h : a = b) : Ending.returned (.bool a) = .returned (.bool b) := by rw [h]

theorem bd_u64 {a : Int} (h : (Lit.int .u64 a).wf = true) : 0 ≤ a ∧ a < 18446744073709551616 := by
  have h1 : IntKind.u64.min = 0 := by decide
  have h2 : IntKind.u64.max = 18446744073709551615 := by decide
  simp only [Lit.wf, Bool.and_eq_true, decide_eq_true_eq, h1, h2] at h; omega
theorem bd_i64 {a : Int} (h : (Lit.int .i64 a).wf = true) : -9223372036854775808 ≤ a ∧ a ≤ 9223372036854775807 := by
  have h1 : IntKind.i64.min = -9223372036854775808 := by decide
  have h2 : IntKind.i64.max = 9223372036854775807 := by decide
  simp only [Lit.wf, Bool.and_eq_true, decide_eq_true_eq, h1, h2] at h; omega
theorem bd_u8 {a : Int} (h : (Lit.int .u8 a).wf = true) : 0 ≤ a ∧ a < 256 := by
  have h1 : IntKind.u8.min = 0 := by decide
  have h2 : IntKind.u8.max = 255 := by decide
  simp only [Lit.wf, Bool.and_eq_true, decide_eq_true_eq, h1, h2] at h; omega

/-- the value is a slice of the cells xs, in a block that Q tells -/
def VRow (Q : Nat → Prop) (w : World) (v : Value) (xs : List Value) : Prop :=
  ∃ a cap, v = .slice a xs.length cap ∧ xs.length ≤ cap ∧ cap ≤ maxLen ∧ (0 < xs.length → ∃ b o, a = some ⟨b, o, none⟩ ∧ b < w.heap.size ∧ Q b ∧ ∀ j, j < xs.length → w.cell? ⟨b, o + j, none⟩ = xs[j]?)
/-- the same of integers -/
abbrev IRow (Q : Nat → Prop) (w : World) (v : Value) (zs : List Int) : Prop := VRow Q w v (zs.map (.int .i64))

theorem VRow.nil (Q : Nat → Prop) (w : World) (a : Option Addr) (cap : Nat) (hc : cap ≤ maxLen) : VRow Q w (.slice a 0 cap) [] := ⟨a, cap, rfl, Nat.zero_le _, hc, fun h => absurd h (by simp)⟩
theorem VRow.of_owns {w : World} {base : Nat} {e : TypeId} {v : Value} {n : Nat} {xs : List Value} (h : w.ownsRow base e 1 v n xs) : VRow (base ≤ ·) w v xs := by
  obtain ⟨hl, ⟨rfl, rfl⟩ | ⟨g, cap, cur, rfl, hb, hg, hn, hm, hc, ht⟩⟩ := h
  · obtain rfl : xs = [] := List.eq_nil_of_length_eq_zero (by omega)
    exact VRow.nil _ _ _ _ (Nat.zero_le _)
  · rw [Nat.mul_one] at hl ht
    refine ⟨some ⟨g, 0, none⟩, cap, by rw [hl], by omega, hm, fun h0 => ⟨g, 0, rfl, lt_of_block hg, hb, fun j hj => ?_⟩⟩
    simp only [World.cell?, hg, Nat.zero_add, ← ht]
    rw [List.getElem?_take_of_lt (by omega)]
    simp
theorem VRow.keep {Q : Nat → Prop} {S : Nat → Prop} {w w' : World} {v : Value} {xs : List Value} (h : VRow Q w v xs) (k : Kept S w w') (hn : ∀ b, Q b → b < w.heap.size → ¬ S b) : VRow Q w' v xs := by
  obtain ⟨a, cap, hv, hl, hm, h0⟩ := h
  refine ⟨a, cap, hv, hl, hm, fun hp => ?_⟩
  obtain ⟨b, o, ha, hb, hq, hc⟩ := h0 hp
  exact ⟨b, o, ha, Nat.lt_of_lt_of_le hb k.size, hq, fun j hj => (World.cell?_of_block (a := ⟨b, o + j, none⟩) (k.block b hb (hn b hq hb))).trans (hc j hj)⟩
theorem VRow.still {Q : Nat → Prop} {w w' : World} {v : Value} {xs : List Value} (h : VRow Q w v xs) (k : Still w w') : VRow Q w' v xs := h.keep k (fun _ _ _ f => f)
theorem VRow.below {Q : Nat → Prop} {w w' : World} {v : Value} {xs : List Value} (h : VRow Q w v xs) (k : Below w.heap.size w w') : VRow Q w' v xs :=
  h.keep (kept_of_below k) (fun _ _ hb => by omega)
theorem VRow.mono {Q R : Nat → Prop} {w : World} {v : Value} {xs : List Value} (h : VRow Q w v xs) (hq : ∀ b, Q b → R b) : VRow R w v xs := by
  obtain ⟨a, cap, hv, hl, hm, h0⟩ := h
  exact ⟨a, cap, hv, hl, hm, fun hp => by obtain ⟨b, o, ha, hb, h1, hc⟩ := h0 hp; exact ⟨b, o, ha, hb, hq b h1, hc⟩⟩
theorem VRow.inside {Q : Nat → Prop} {w : World} {v : Value} {xs : List Value} (h : VRow Q w v xs) : VRow (fun b => Q b ∧ b < w.heap.size) w v xs := by
  obtain ⟨a, cap, hv, hl, hm, h0⟩ := h
  exact ⟨a, cap, hv, hl, hm, fun hp => by obtain ⟨b, o, ha, hb, h1, hc⟩ := h0 hp; exact ⟨b, o, ha, hb, ⟨h1, hb⟩, hc⟩⟩
theorem VRow.len {Q : Nat → Prop} {w : World} {v : Value} {xs : List Value} (h : VRow Q w v xs) : ∃ a cap, v = .slice a xs.length cap := by
  obtain ⟨a, cap, hv, _⟩ := h; exact ⟨a, cap, hv⟩
theorem VRow.at_ {Q : Nat → Prop} {w : World} {a : Option Addr} {n cap : Nat} {vs : List Value} (h : VRow Q w (.slice a n cap) vs) :
    n = vs.length ∧ vs.length ≤ cap ∧ cap ≤ maxLen ∧ (0 < vs.length → ∃ b o, a = some ⟨b, o, none⟩ ∧ b < w.heap.size ∧ Q b ∧ ∀ j, j < vs.length → w.cell? ⟨b, o + j, none⟩ = vs[j]?) := by
  obtain ⟨a', cap', hv, hl, hm, h0⟩ := h
  simp only [Value.slice.injEq] at hv
  obtain ⟨rfl, rfl, rfl⟩ := hv
  exact ⟨rfl, hl, hm, h0⟩
theorem VRow.drop {Q : Nat → Prop} {w : World} {b o n cap : Nat} {vs : List Value} (h : VRow Q w (.slice (some ⟨b, o, none⟩) n cap) vs) (k : Nat) (hk : k < cap) : VRow Q w (.slice (some ⟨b, o + k, none⟩) (n - k) (cap - k)) (vs.drop k) := by
  obtain ⟨rfl, hl, hm, h0⟩ := h.at_
  refine ⟨some ⟨b, o + k, none⟩, cap - k, by rw [List.length_drop], by rw [List.length_drop]; omega, by omega, fun hp => ?_⟩
  rw [List.length_drop] at hp
  obtain ⟨b', o', ha, hb, hq, hc⟩ := h0 (by omega)
  simp only [Option.some.injEq, Addr.mk.injEq, and_true] at ha
  obtain ⟨rfl, rfl⟩ := ha
  refine ⟨b, o + k, rfl, hb, hq, fun j hj => ?_⟩
  rw [List.length_drop] at hj
  rw [List.getElem?_drop, Nat.add_assoc]
  exact hc (k + j) (by omega)
theorem VRow.take {Q : Nat → Prop} {w : World} {a : Option Addr} {n cap : Nat} {vs : List Value} (h : VRow Q w (.slice a n cap) vs) (k : Nat) (hk : k ≤ n) : VRow Q w (.slice a k cap) (vs.take k) := by
  obtain ⟨rfl, hl, hm, h0⟩ := h.at_
  have hlen : (vs.take k).length = k := by rw [List.length_take]; omega
  refine ⟨a, cap, by rw [hlen], by rw [hlen]; omega, hm, fun hp => ?_⟩
  rw [hlen] at hp
  obtain ⟨b, o, ha, hb, hq, hc⟩ := h0 (by omega)
  refine ⟨b, o, ha, hb, hq, fun j hj => ?_⟩
  rw [hlen] at hj
  rw [List.getElem?_take_of_lt hj]
  exact hc j (by omega)
theorem VRow.drop_all {Q : Nat → Prop} {w : World} {a : Option Addr} {n cap : Nat} {vs : List Value} (h : VRow Q w (.slice a n cap) vs) : VRow Q w (.slice a (n - cap) 0) (vs.drop cap) := by
  obtain ⟨rfl, hl, hm, h0⟩ := h.at_
  rw [List.drop_eq_nil_of_le hl, Nat.sub_eq_zero_of_le hl]
  exact VRow.nil _ _ _ _ (Nat.zero_le _)
theorem IRow.cells {Q : Nat → Prop} {w : World} {a : Option Addr} {n cap : Nat} {zs : List Int} (h : IRow Q w (.slice a n cap) zs) :
    n = zs.length ∧ zs.length ≤ maxLen ∧ (0 < zs.length → ∃ b o, a = some ⟨b, o, none⟩ ∧ b < w.heap.size ∧ Q b ∧ ∀ j, j < zs.length → w.cell? ⟨b, o + j, none⟩ = some (.int .i64 (zs.getD j 0))) := by
  obtain ⟨hv, hl, hm, h0⟩ := h.at_
  simp only [List.length_map] at hv hl h0
  refine ⟨hv, Nat.le_trans hl hm, fun hp => ?_⟩
  obtain ⟨b, o, ha, hb, hq, hc⟩ := h0 hp
  exact ⟨b, o, ha, hb, hq, fun j hj => by rw [hc j hj, List.getElem?_map, List.getD_eq_getElem?_getD, List.getElem?_eq_getElem hj]; rfl⟩
theorem IRow.of_is {w : World} {a : Option Addr} {len cap : Nat} {zs : List Int} (h : IsRow .i64 w a len cap zs) : IRow (fun _ => True) w (.slice a len cap) (zs.take len) := by
  rcases h with ⟨rfl, rfl, rfl, rfl⟩ | ⟨x, rfl, hl, hm, hz, hc, hw⟩
  · exact VRow.nil _ _ _ _ (Nat.zero_le _)
  · refine ⟨some x, cap, by simp; omega, by simp; omega, hm, fun h0 => ?_⟩
    simp only [List.length_map, List.length_take] at h0 ⊢
    have c0 := hc 0 (by omega)
    have hs : x.spot = none := by have := spot_of_cell c0; simpa [Addr.add] using this
    obtain ⟨b, o, s⟩ := x
    obtain rfl : s = none := hs
    refine ⟨b, o, rfl, by simpa [addr_add] using lt_of_cell c0, trivial, fun j hj => ?_⟩
    have := hc j (by omega)
    rw [addr_add] at this
    rw [this, List.getElem?_map, List.getElem?_take_of_lt (by omega), List.getD_eq_getElem?_getD, List.getElem?_eq_getElem (by omega)]
    rfl

theorem owns_block {w : World} {base : Nat} {e : TypeId} {sz : Nat} {v : Value} {n : Nat} {xs : List Value} (h : w.ownsRow base e sz v n xs) : ∀ k, v.ownBlock = some k → base ≤ k := by
  rintro k hk
  obtain ⟨_, ⟨rfl, _⟩ | ⟨g, cap, cur, rfl, hb, _⟩⟩ := h
  · simp [Value.ownBlock] at hk
  · simp only [Value.ownBlock, Option.some.injEq] at hk; omega
theorem owns_kept {S : Nat → Prop} {w w' : World} {base : Nat} {e : TypeId} {sz : Nat} {v : Value} {n : Nat} {xs : List Value} (h : w.ownsRow base e sz v n xs) (k : Kept S w w') (hS : ∀ b, base ≤ b → b < w.heap.size → ¬ S b) : w'.ownsRow base e sz v n xs := by
  obtain ⟨hl, ⟨rfl, h0⟩ | ⟨g, cap, cur, rfl, hb, hg, hr⟩⟩ := h
  · exact ⟨hl, .inl ⟨rfl, h0⟩⟩
  · exact ⟨hl, .inr ⟨g, cap, cur, rfl, hb, (k.block g (lt_of_block hg) (hS g hb (lt_of_block hg))).trans hg, hr⟩⟩
theorem owns_slice {w : World} {base : Nat} {e : TypeId} {sz : Nat} {v : Value} {n : Nat} {xs : List Value} (h : w.ownsRow base e sz v n xs) : ∃ a c, v = .slice a n c := by
  obtain ⟨_, ⟨rfl, rfl⟩ | ⟨g, cap, cur, rfl, hb, _⟩⟩ := h
  · exact ⟨_, _, rfl⟩
  · exact ⟨_, _, rfl⟩
theorem kept_append {S : Nat → Prop} {w wr w1 : World} {o : Obj} {base : Nat} {e : TypeId} {sz : Nat} {v : Value} {n : Nat} {xs : List Value} (h : Kept S w wr) (hown : wr.ownsRow base e sz v n xs)
    (hg : (wr.alloc o).grownBy w1 v.ownBlock) (hS : ∀ k, k < w.heap.size → base ≤ k → S k) : Kept S w w1 :=
  (h.alloc o).grown hg (fun k hk hlt => hS k hlt (owns_block hown k hk))
theorem below_append {w wr w1 : World} {o : Obj} {B base : Nat} {e : TypeId} {sz : Nat} {v : Value} {n : Nat} {xs : List Value} (h : Below B w wr) (hown : wr.ownsRow base e sz v n xs)
    (hg : (wr.alloc o).grownBy w1 v.ownBlock) (hB : B ≤ base) (hw : B ≤ w.heap.size) : Below B w w1 :=
  below_step h (((Kept.refl (fun k => base ≤ k) wr).alloc o).grown hg (fun k hk _ => owns_block hown k hk)) hw (fun i hi hb => by omega)

theorem take_eq_succ {xs ys : List Int} {k : Nat} (h : xs.take k = ys.take k) (hx : k < xs.length) (hy : k < ys.length) (he : xs.getD k 0 = ys.getD k 0) : xs.take (k + 1) = ys.take (k + 1) := by
  rw [List.take_succ_eq_append_getElem hx, List.take_succ_eq_append_getElem hy, h]
  rw [List.getD_eq_getElem?_getD, List.getD_eq_getElem?_getD, List.getElem?_eq_getElem hx, List.getElem?_eq_getElem hy] at he
  rw [show xs[k] = ys[k] by simpa using he]

end Go.Proofs.Ytbikganlloopbaa
namespace Go.Proofs.Ytbikganlloopbaa
set_option linter.unusedVariables false
set_option linter.unusedSimpArgs false
open Go Go.RowKit

/-- what append leaves -/
structure Appended (w w' : World) (base : Nat) (e : TypeId) (size : Nat) (v v' : Value) (n : Nat) (xs : List Value) : Prop where
  owns : w'.ownsRow base e size v' n xs
  grown : w.grownBy w' v.ownBlock
  block : ∀ b, v'.ownBlock = some b → v.ownBlock = some b ∨ w.heap.size ≤ b

theorem appended_run {P : Program} (w : World) (base : Nat) (t ty e : TypeId) (i : TypeInfo) (z : Value) (size bytes : Nat) (ht : P.underlying t = some (.slice e)) (hi : P.info? e = some i) (hz : i.zero = some z)
    (hsize : i.size = size) (hby : i.bytes = bytes) (hzs : z.cells.size = size) (hsz : 0 < size) (v : Value) (n : Nat) (xs : List Value) (hown : w.ownsRow base e size v n xs)
    (a : Addr) (m c : Nat) (news : List Value) (hl : news.length = m * size) (hnews : ∀ j u, news[j]? = some u → w.cell? (a.add j) = some u) (h1 : ∀ u ∈ news, u.oneCell' = true)
    (h63 : n + m ≤ maxLen) (hbytes : (n + m) * bytes ≤ 140737488355328) (hbase : base ≤ w.heap.size) :
    ∃ v' w', (Builtin.append_ #[t, t] ty #[v, .slice (some a) m c]).run P w = .ok v' w' ∧ Appended w w' base e size v v' (n + m) (xs ++ news) := by
  obtain ⟨v', w', hr, ho, hg, _⟩ := run_append_own (P := P) w base t ty e i z size bytes ht hi hz hsize hby hzs hsz v n xs hown a m c news hl hnews h1 h63 hbytes hbase
  refine ⟨v', w', hr, ho, hg, fun b hb => ?_⟩
  rcases hown.2 with ⟨rfl, rfl⟩ | ⟨g, cap, cur, rfl, hbg, hgb, hnc, hcm, hcs, htake⟩
  · obtain ⟨v2, w2, hr2, ho2, _⟩ := run_append_own (P := P) w w.heap.size t ty e i z size bytes ht hi hz hsize hby hzs hsz (.slice none 0 0) 0 xs ⟨hown.1, .inl ⟨rfl, rfl⟩⟩ a m c news hl hnews h1 h63 hbytes (Nat.le_refl _)
    rw [hr] at hr2
    simp only [Result.ok.injEq] at hr2
    obtain ⟨rfl, rfl⟩ := hr2
    exact .inr (owns_block ho2 b hb)
  · by_cases hroom : n + m ≤ cap
    · subst hsize
      have hr2 := run_append_room (P := P) w t ty e i ht hi g n cap cur hgb a m c news hl hnews h1 hroom (by rw [hl, hcs, ← Nat.add_mul]; exact Nat.mul_le_mul_right _ hroom)
      rw [hr] at hr2
      simp only [Result.ok.injEq] at hr2
      obtain ⟨rfl, _⟩ := hr2
      exact .inl hb
    · subst hsize hby
      have hm : n + m ≤ 9223372036854775807 := by unfold maxLen at h63; omega
      have hr2 := run_append_grow (P := P) w t ty e i z ht hi hz ⟨g, 0, none⟩ n cap xs hown.1 (hown.cells (g := g) rfl) a m c news hl hnews (by omega) (by omega) (growslice_fits (by omega) hbytes)
      rw [hr] at hr2
      simp only [Result.ok.injEq] at hr2
      obtain ⟨rfl, _⟩ := hr2
      simp only [Value.ownBlock, Option.some.injEq] at hb
      exact .inr (by omega)

theorem wpList_append {P : Program} (w : World) {ops : Array Oper} {rest : List Oper} {o : Oper} {a : Act} {Q : Exit → Act → World → Prop} (hgd : o.guard = none) (s x : Operand) (t : TypeId)
    (hop : o.op = .call { callee := .builtin .append, args := #[s, x], argTypes := #[t, t] })
    (base : Nat) (e : TypeId) (i : TypeInfo) (z : Value) (size bytes : Nat) (ht : P.underlying t = some (.slice e)) (hi : P.info? e = some i) (hz : i.zero = some z)
    (hsize : i.size = size) (hby : i.bytes = bytes) (hzs : z.cells.size = size) (hsz : 0 < size) (v : Value) (n : Nat) (xs : List Value) (hs : a.eval s = v) (hown : w.ownsRow base e size v n xs)
    (ad : Addr) (m c : Nat) (news : List Value) (hx : a.eval x = .slice (some ad) m c) (hl : news.length = m * size) (hnews : ∀ j u, news[j]? = some u → w.cell? (ad.add j) = some u) (h1 : ∀ u ∈ news, u.oneCell' = true)
    (h63 : n + m ≤ maxLen) (hbytes : (n + m) * bytes ≤ 140737488355328) (hbase : base ≤ w.heap.size)
    (h : ∀ v' w', Appended w w' base e size v v' (n + m) (xs ++ news) → wpList P ops Q rest (a.put o.dst v') w') : wpList P ops Q (o :: rest) a w := by
  refine wpList_plain hgd fun K hK => ?_
  obtain ⟨v', w', hr, ha⟩ := appended_run (P := P) w base t o.type e i z size bytes ht hi hz hsize hby hzs hsz v n xs hown ad m c news hl hnews h1 h63 hbytes hbase
  unfold Oper.wp
  simp [execOp, hop, resolve, invoke, builtin, hs, hx, hr, Result.andThen]
  exact hK _ _ (h v' w' ha)

theorem wpListIn_append {F : Fence} {nF : Nat} {P : Program} (w : World) {ops : Array Oper} {rest : List Oper} {o : Oper} {a : Act} {Q : Exit → Act → World → Prop} (hgd : o.guard = none) (s x : Operand) (t : TypeId)
    (hop : o.op = .call { callee := .builtin .append, args := #[s, x], argTypes := #[t, t] })
    (base : Nat) (e : TypeId) (i : TypeInfo) (z : Value) (size bytes : Nat) (ht : P.underlying t = some (.slice e)) (hi : P.info? e = some i) (hz : i.zero = some z)
    (hsize : i.size = size) (hby : i.bytes = bytes) (hzs : z.cells.size = size) (hsz : 0 < size) (v : Value) (n : Nat) (xs : List Value) (hs : a.eval s = v) (hown : w.ownsRow base e size v n xs)
    (ad : Addr) (m c : Nat) (news : List Value) (hx : a.eval x = .slice (some ad) m c) (hl : news.length = m * size) (hnews : ∀ j u, news[j]? = some u → w.cell? (ad.add j) = some u) (h1 : ∀ u ∈ news, u.oneCell' = true)
    (h63 : n + m ≤ maxLen) (hbytes : (n + m) * bytes ≤ 140737488355328) (hbase : base ≤ w.heap.size)
    (h : ∀ v' w', Appended w w' base e size v v' (n + m) (xs ++ news) → wpListIn F nF P ops Q rest (a.put o.dst v') w') : wpListIn F nF P ops Q (o :: rest) a w := by
  refine wpListIn_plain hgd fun K hK => ?_
  obtain ⟨v', w', hr, ha⟩ := appended_run (P := P) w base t o.type e i z size bytes ht hi hz hsize hby hzs hsz v n xs hown ad m c news hl hnews h1 h63 hbytes hbase
  unfold Oper.wpIn
  refine ⟨by simp [Oper.about, hop, resolve, Target.leads, Sem.run_pure], ?_⟩
  rw [Oper.semAt_plain F _ _ (by rw [hop]; intro c hc; cases hc)]
  simp [execOp, hop, resolve, invoke, builtin, hs, hx, hr, Result.andThen]
  exact hK _ _ (h v' w' ha)

theorem Appended.kept {S : Nat → Prop} {a wr w1 : World} {o : Obj} {base : Nat} {e : TypeId} {sz : Nat} {v v' : Value} {n : Nat} {xs : List Value} (h : Appended (wr.alloc o) w1 base e sz v v' n xs) (k : Kept S a wr) (hS : ∀ b, b < a.heap.size → v.ownBlock = some b → S b) : Kept S a w1 :=
  (k.alloc o).grown h.grown (fun b hb hlt => hS b hlt hb)
end Go.Proofs.Ytbikganlloopbaa
namespace Go.Proofs.Ytbikganlloopbaa
set_option linter.unusedVariables false
set_option linter.unusedSimpArgs false
open Go.RowKit Go.Proofs

/-- the blocks that were keep their colours -/
def Recol (n : Nat) (col col' : Nat → Nat) : Prop := ∀ x, x < n → col' x = col x
def ext (col : Nat → Nat) (n c : Nat) : Nat → Nat := fun x => if x < n then col x else c
theorem recol_ext (col : Nat → Nat) (n c : Nat) : Recol n col (ext col n c) := fun x hx => by unfold ext; rw [if_pos hx]
theorem recol_refl (col : Nat → Nat) (n : Nat) : Recol n col col := fun _ _ => rfl
theorem Recol.trans {n m : Nat} {a b c : Nat → Nat} (h : Recol n a b) (k : Recol m b c) (hm : n ≤ m) : Recol n a c := fun x hx => (k x (Nat.lt_of_lt_of_le hx hm)).trans (h x hx)
theorem ext_new (col : Nat → Nat) {n c x : Nat} (h : n ≤ x) : ext col n c x = c := by unfold ext; rw [if_neg (by omega)]

/-- a slice that owns its block, which has the colour c -/
def Owns (col : Nat → Nat) (c : Nat) (w : World) (e : TypeId) (sz : Nat) (v : Value) (n : Nat) (xs : List Value) : Prop :=
  w.ownsRow 0 e sz v n xs ∧ ∀ g, v.ownBlock = some g → col g = c
theorem Owns.nil (col : Nat → Nat) (c : Nat) (w : World) (e : TypeId) (sz : Nat) : Owns col c w e sz (.slice none 0 0) 0 [] := ⟨World.ownsRow_nil _ _ _ _, by simp [Value.ownBlock]⟩
theorem owns_lt {w : World} {base : Nat} {e : TypeId} {sz : Nat} {v : Value} {n : Nat} {xs : List Value} (h : w.ownsRow base e sz v n xs) : ∀ g, v.ownBlock = some g → g < w.heap.size := by
  intro g hg
  obtain ⟨_, ⟨rfl, _⟩ | ⟨g', cap, cur, rfl, hb, hgb, _⟩⟩ := h
  · simp [Value.ownBlock] at hg
  · simp only [Value.ownBlock, Option.some.injEq] at hg
    rw [← hg]; exact lt_of_block hgb
theorem Owns.recol {col col' : Nat → Nat} {c : Nat} {w : World} {e : TypeId} {sz : Nat} {v : Value} {n : Nat} {xs : List Value} (h : Owns col c w e sz v n xs) (k : Recol w.heap.size col col') : Owns col' c w e sz v n xs :=
  ⟨h.1, fun g hg => (k g (owns_lt h.1 g hg)).trans (h.2 g hg)⟩
theorem Owns.kept {S : Nat → Prop} {col : Nat → Nat} {c : Nat} {w w' : World} {e : TypeId} {sz : Nat} {v : Value} {n : Nat} {xs : List Value} (h : Owns col c w e sz v n xs) (k : Kept S w w') (hS : ∀ x, x < w.heap.size → col x = c → ¬ S x) : Owns col c w' e sz v n xs := by
  refine ⟨?_, h.2⟩
  obtain ⟨⟨hl, hr⟩, h2⟩ := h
  rcases hr with hr | ⟨g, cap, cur, rfl, hb, hgb, hr⟩
  · exact ⟨hl, .inl hr⟩
  · refine ⟨hl, .inr ⟨g, cap, cur, rfl, hb, ?_, hr⟩⟩
    rw [k.block g (lt_of_block hgb) (hS g (lt_of_block hgb) (h2 g rfl))]; exact hgb
theorem Owns.still {col : Nat → Nat} {c : Nat} {w w' : World} {e : TypeId} {sz : Nat} {v : Value} {n : Nat} {xs : List Value} (h : Owns col c w e sz v n xs) (k : Still w w') : Owns col c w' e sz v n xs := h.kept k (fun _ _ _ f => f)
theorem Owns.form {col : Nat → Nat} {c : Nat} {w : World} {e : TypeId} {sz : Nat} {v : Value} {n : Nat} {xs : List Value} (h : Owns col c w e sz v n xs) : ∃ a cap, v = .slice a n cap ∧ n ≤ cap ∧ cap ≤ maxLen := by
  obtain ⟨⟨hl, ⟨rfl, rfl⟩ | ⟨g, cap, cur, rfl, hb, hgb, hn, hm, _⟩⟩, _⟩ := h
  · exact ⟨_, _, rfl, Nat.le_refl _, Nat.zero_le _⟩
  · exact ⟨_, _, rfl, hn, hm⟩
theorem Owns.at_ {col : Nat → Nat} {c : Nat} {w : World} {e : TypeId} {sz : Nat} {a : Option Addr} {n cap : Nat} {xs : List Value} (h : Owns col c w e sz (.slice a n cap) n xs) (h0 : 0 < n) :
    ∃ g cur, a = some ⟨g, 0, none⟩ ∧ col g = c ∧ Blk w g cur e ∧ cur.size = cap * sz ∧ n ≤ cap ∧ cap ≤ maxLen ∧ xs.length = n * sz ∧ ∀ j, j < n * sz → cur[j]? = xs[j]? := by
  obtain ⟨⟨hl, ⟨hv, rfl⟩ | ⟨g, cap', cur, hv, hb, hgb, hn, hm, hc, ht⟩⟩, h2⟩ := h
  · omega
  · simp only [Value.slice.injEq] at hv
    obtain ⟨rfl, -, rfl⟩ := hv
    refine ⟨g, cur, rfl, h2 g rfl, hgb, hc, hn, hm, hl, fun j hj => ?_⟩
    rw [← ht, List.getElem?_take_of_lt hj]; simp
theorem Owns.mk {col : Nat → Nat} {c : Nat} {w : World} {e : TypeId} {sz g n cap : Nat} {cur : Array Value} {xs : List Value} (hc : col g = c) (hb : Blk w g cur e) (hs : cur.size = cap * sz) (hn : n ≤ cap) (hm : cap ≤ maxLen) (hl : xs.length = n * sz) (hx : ∀ j, j < n * sz → cur[j]? = xs[j]?) :
    Owns col c w e sz (.slice (some ⟨g, 0, none⟩) n cap) n xs := by
  refine ⟨⟨hl, .inr ⟨g, cap, cur, rfl, Nat.zero_le _, hb, hn, hm, hs, ?_⟩⟩, fun g' hg' => by simp only [Value.ownBlock, Option.some.injEq] at hg'; rw [← hg']; exact hc⟩
  apply List.ext_getElem?
  intro j
  by_cases hj : j < n * sz
  · rw [List.getElem?_take_of_lt hj]; simpa using hx j hj
  · rw [List.getElem?_eq_none (by rw [List.length_take]; omega), List.getElem?_eq_none (by omega)]
theorem Owns.appended {col : Nat → Nat} {c m : Nat} {w w1 : World} {e : TypeId} {sz n n0 : Nat} {v v' : Value} {xs ys : List Value} (h : Owns col c w e sz v n0 ys) {o : Obj} (ha : Appended (w.alloc o) w1 0 e sz v v' n xs) (hm : m ≤ w.heap.size) (hv : ∀ g, v.ownBlock = some g → g < m) : Owns (ext col m c) c w1 e sz v' n xs := by
  refine ⟨ha.owns, fun g hg => ?_⟩
  rcases ha.block g hg with h1 | h1
  · rw [recol_ext col m c g (hv g h1)]; exact h.2 g h1
  · exact ext_new col (by simp at h1; omega)
theorem cell_set {c : Array Value} {i : Nat} {x y : Value} (h : c[i]? = some y) : (c.setIfInBounds i x)[i]? = some x := by
  have : i < c.size := (Array.getElem?_eq_some_iff.1 h).1
  simp [this]
theorem owns_one {col : Nat → Nat} {c : Nat} {w : World} {e : TypeId} {v : Value} {n : Nat} {xs : List Value} (h : Owns col c w e 1 v n xs) {i : Nat} {x : Value} (hx : xs[i]? = some x) :
    ∃ g cap cur, v = .slice (some ⟨g, 0, none⟩) n cap ∧ col g = c ∧ Blk w g cur e ∧ n ≤ cap ∧ cap ≤ maxLen ∧ i < n ∧ w.cell? ⟨g, i, none⟩ = some x ∧ ∀ y, Owns col c (w.setCell ⟨g, i, none⟩ y) e 1 v n (xs.set i y) := by
  have hi : i < xs.length := (List.getElem?_eq_some_iff.1 hx).1
  have hl := h.1.1
  obtain ⟨a, cap, rfl, hn, hm⟩ := h.form
  obtain ⟨g, cur, rfl, hc, hb, hs, -, -, hlx, hcx⟩ := h.at_ (by omega)
  refine ⟨g, cap, cur, rfl, hc, hb, hn, hm, by omega, (hb.cell i).trans ((hcx i (by omega)).trans hx), fun y => ?_⟩
  refine Owns.mk hc (hb.set i y) (by simpa using hs) hn hm (by simpa using hlx) fun j hj => ?_
  by_cases e : j = i
  · subst e; rw [List.getElem?_set_self hi]; exact cell_set ((hcx j hj).trans hx)
  · rw [List.getElem?_set_ne (Ne.symm e), Array.getElem?_setIfInBounds_ne (Ne.symm e)]; exact hcx j hj
theorem Owns.set_other {col : Nat → Nat} {c : Nat} {w : World} {e : TypeId} {sz : Nat} {v : Value} {n : Nat} {xs : List Value} (h : Owns col c w e sz v n xs) {a : Addr} (ha : col a.block ≠ c) (y : Value) : Owns col c (w.setCell a y) e sz v n xs :=
  h.kept (S := fun x => x = a.block) ((Kept.refl (fun x => x = a.block) w).setCell (p := a) (fun _ => rfl) y) (fun x _ h1 h2 => ha (by rw [← h2]; exact h1))
theorem owns_put {col : Nat → Nat} {c : Nat} {w : World} {e : TypeId} {g n cap : Nat} {xs : List Value} (h : Owns col c w e 1 (.slice (some ⟨g, 0, none⟩) n cap) n xs) {i : Nat} (hi : i < n) (y : Value) : Owns col c (w.setCell ⟨g, i, none⟩ y) e 1 (.slice (some ⟨g, 0, none⟩) n cap) n (xs.set i y) := by
  have hl := h.1.1
  obtain ⟨g', cap', cur, hv, _, _, _, _, _, _, hs⟩ := owns_one h (i := i) (x := xs[i]'(by omega)) (List.getElem?_eq_getElem _)
  simp only [Value.slice.injEq, Option.some.injEq, Addr.mk.injEq, and_true, true_and] at hv
  obtain ⟨rfl, -⟩ := hv
  exact hs y
/-- what an append leaves: only the row's own block and new ones may have turned -/
theorem Owns.app_kept {col : Nat → Nat} {c : Nat} {S : Nat → Prop} {a w w1 : World} {e : TypeId} {sz n n0 base : Nat} {v v' : Value} {xs ys : List Value} (h : Owns col c w e sz v n0 ys) {o : Obj} (ha : Appended (w.alloc o) w1 base e sz v v' n xs) (k : Kept S a w) (hS : ∀ x, x < a.heap.size → col x = c → S x) : Kept S a w1 :=
  ha.kept k (fun b hb he => hS b hb (h.2 b he))
/-- one step on: new blocks have the colour d -/
theorem Owns.grow {S : Nat → Prop} {col : Nat → Nat} {c m : Nat} {w w' : World} {e : TypeId} {sz : Nat} {v : Value} {n : Nat} {xs : List Value} (h : Owns col c w e sz v n xs) (k : Kept S w w') (hm : m = w.heap.size) (d : Nat) (hS : ∀ x, x < w.heap.size → col x = c → ¬ S x) : Owns (ext col m d) c w' e sz v n xs := by
  subst hm
  exact (h.recol (recol_ext col _ d)).kept k (fun x hx hc => hS x hx (by rwa [recol_ext col _ d x hx] at hc))
end Go.Proofs.Ytbikganlloopbaa
namespace Go.Proofs.Ytbikganlloopbaa
set_option linter.unusedVariables false
set_option linter.unusedSimpArgs false
open Go.RowKit Go.Proofs

structure Fr (base : Nat) (col : Nat → Nat) (w W : World) : Prop where
  low : ∀ x, x < base → col x = 0
  bel : Below base w W
  le : base ≤ w.heap.size
theorem Fr.start {w W : World} (h : Below w.heap.size w W) : Fr w.heap.size (fun _ => 0) w W := ⟨fun _ _ => rfl, h, Nat.le_refl _⟩
theorem Fr.size {base : Nat} {col : Nat → Nat} {w W : World} (h : Fr base col w W) : base ≤ W.heap.size := Nat.le_trans h.le h.bel.size
theorem Fr.step {base c : Nat} {col : Nat → Nat} {w W W' : World} (h : Fr base col w W) (hc : c ≠ 0) (k : Kept (fun x => col x = c) W W') : Fr base (ext col W.heap.size c) w W' :=
  ⟨fun x hx => by rw [recol_ext col _ c x (Nat.lt_of_lt_of_le hx h.size)]; exact h.low x hx, below_step h.bel k h.le (fun i hi e => hc (by rw [← e, h.low i hi])), h.le⟩
theorem Fr.still {base : Nat} {col : Nat → Nat} {w W W' : World} (h : Fr base col w W) (k : Still W W') : Fr base col w W' := ⟨h.low, below_still h.bel k h.le, h.le⟩
theorem Fr.cell {base : Nat} {col : Nat → Nat} {w W : World} (h : Fr base col w W) {p : Addr} (hp : p.block < base) : W.cell? p = w.cell? p := h.bel.cell hp
/-- a block with its colour -/
def BlkC (col : Nat → Nat) (c : Nat) (W : World) (b : Nat) (v : Array Value) (t : TypeId) : Prop := Blk W b v t ∧ col b = c
theorem BlkC.go {col : Nat → Nat} {c d : Nat} {W W' : World} {b : Nat} {v : Array Value} {t : TypeId} (h : BlkC col c W b v t) (k : Kept (fun x => col x = d) W W') (hn : c ≠ d) : BlkC (ext col W.heap.size d) c W' b v t :=
  ⟨h.1.kept k (fun e => hn (h.2.symm.trans e)), (recol_ext col _ d b h.1.lt).trans h.2⟩
theorem BlkC.still {col : Nat → Nat} {c : Nat} {W W' : World} {b : Nat} {v : Array Value} {t : TypeId} (h : BlkC col c W b v t) (k : Still W W') : BlkC col c W' b v t := ⟨h.1.still k, h.2⟩
theorem Owns.go {col : Nat → Nat} {c d : Nat} {w w' : World} {e : TypeId} {sz : Nat} {v : Value} {n : Nat} {xs : List Value} (h : Owns col c w e sz v n xs) (k : Kept (fun x => col x = d) w w') (hn : c ≠ d) : Owns (ext col w.heap.size d) c w' e sz v n xs :=
  h.grow k rfl d (fun x _ h1 h2 => hn (h1.symm.trans h2))
/-- an append to a row of the colour c -/
theorem Owns.app {col : Nat → Nat} {c : Nat} {w w1 : World} {e : TypeId} {sz n n0 : Nat} {v v' : Value} {xs ys : List Value} (h : Owns col c w e sz v n0 ys) {o : Obj} (ha : Appended (w.alloc o) w1 0 e sz v v' n xs) : Owns (ext col w.heap.size c) c w1 e sz v' n xs ∧ Kept (fun x => col x = c) w w1 :=
  ⟨h.appended ha (Nat.le_refl _) (owns_lt h.1), h.app_kept ha (Kept.refl _ w) (fun _ _ e => e)⟩
theorem Owns.alloc {col : Nat → Nat} {c : Nat} {w : World} {e : TypeId} {sz : Nat} {v : Value} {n : Nat} {xs : List Value} (h : Owns col c w e sz v n xs) (o : Obj) : (w.alloc o).ownsRow 0 e sz v n xs :=
  (h.still ((still_refl w).alloc o)).1
theorem Owns.row {col : Nat → Nat} {c : Nat} {w : World} {e : TypeId} {v : Value} {n : Nat} {xs : List Value} (h : Owns col c w e 1 v n xs) : VRow (fun _ => True) w v xs := (VRow.of_owns h.1).mono (fun _ _ => trivial)
theorem owns_set_kept {col : Nat → Nat} {c : Nat} {W : World} {g : Nat} (hg : col g = c) (i : Nat) (y : Value) : Kept (fun x => col x = c) W (W.setCell ⟨g, i, none⟩ y) :=
  (Kept.refl _ W).setCell (fun _ => hg) y
/-- what stands while nothing has got a new block -/
theorem ext_same {col : Nat → Nat} {W : World} {d c b : Nat} (hb : b < W.heap.size) (h : col b = c) : ext col W.heap.size d b = c := (recol_ext col _ d b hb).trans h
end Go.Proofs.Ytbikganlloopbaa
namespace Go.Proofs.Ytbikganlloopbaa
set_option linter.unusedVariables false
set_option linter.unusedSimpArgs false
open Go.RowKit Go.Proofs
/-- a step: blocks keep their colours, and only blocks whose colours S tells may have turned -/
structure Move (S : Nat → Prop) (col col' : Nat → Nat) (W W' : World) : Prop where
  re : Recol W.heap.size col col'
  k : Kept (fun x => S (col x)) W W'
theorem Move.refl (S : Nat → Prop) (col : Nat → Nat) (W : World) : Move S col col W W := ⟨recol_refl _ _, Kept.refl _ _⟩
theorem Move.trans {S : Nat → Prop} {a b c : Nat → Nat} {W1 W2 W3 : World} (h : Move S a b W1 W2) (k : Move S b c W2 W3) : Move S a c W1 W3 :=
  ⟨h.re.trans k.re h.k.size, h.k.step k.k (fun x hx hs => by rw [h.re x hx] at hs; exact hs)⟩
theorem Move.mono {S T : Nat → Prop} {a b : Nat → Nat} {W1 W2 : World} (h : Move S a b W1 W2) (hs : ∀ c, S c → T c) : Move T a b W1 W2 :=
  ⟨h.re, h.k.mono fun _ _ h9 => hs _ h9⟩
theorem Move.still {S : Nat → Prop} {a : Nat → Nat} {W1 W2 : World} (k : Still W1 W2) : Move S a a W1 W2 := ⟨recol_refl _ _, k.mono fun _ _ f => f.elim⟩
theorem Move.below {S : Nat → Prop} {a : Nat → Nat} {W1 W2 : World} (k : Below W1.heap.size W1 W2) : Move S a a W1 W2 := .still ⟨k.os, k.tape, k.output, k.size, fun i hi _ => k.block i hi⟩
theorem Move.still' {S T : Nat → Prop} {a : Nat → Nat} {W1 W2 : World} (k : Kept T W1 W2) (hT : ∀ y, T y → S (a y)) : Move S a a W1 W2 := ⟨recol_refl _ _, k.mono fun y _ hy => hT y hy⟩
/-- new blocks have the colour c -/
theorem Move.ext {S : Nat → Prop} {a : Nat → Nat} {W1 W2 : World} (k : Kept (fun x => S (a x)) W1 W2) (c : Nat) : Move S a (ext a W1.heap.size c) W1 W2 := ⟨recol_ext _ _ _, k⟩
theorem Fr.move {S : Nat → Prop} {base : Nat} {col col' : Nat → Nat} {w W W' : World} (h : Fr base col w W) (m : Move S col col' W W') (h0 : ¬ S 0) : Fr base col' w W' :=
  ⟨fun x hx => (m.re x (Nat.lt_of_lt_of_le hx h.size)).trans (h.low x hx), below_step h.bel m.k h.le (fun i hi e => h0 (by rw [h.low i hi] at e; exact e)), h.le⟩
theorem BlkC.move {S : Nat → Prop} {col col' : Nat → Nat} {c : Nat} {W W' : World} {b : Nat} {v : Array Value} {t : TypeId} (h : BlkC col c W b v t) (m : Move S col col' W W') (hn : ¬ S c) : BlkC col' c W' b v t :=
  ⟨h.1.kept m.k (fun e => hn (by rw [h.2] at e; exact e)), (m.re b h.1.lt).trans h.2⟩
theorem Owns.move {S : Nat → Prop} {col col' : Nat → Nat} {c : Nat} {w w' : World} {e : TypeId} {sz : Nat} {v : Value} {n : Nat} {xs : List Value} (h : Owns col c w e sz v n xs) (m : Move S col col' w w') (hn : ¬ S c) : Owns col' c w' e sz v n xs :=
  (h.recol m.re).kept m.k (fun x hx hc e => hn (by rw [← m.re x hx, hc] at e; exact e))
theorem Owns.row_at {col : Nat → Nat} {c : Nat} {w : World} {e : TypeId} {sz : Nat} {v : Value} {n : Nat} {xs : List Value} (h : Owns col c w e sz v n xs) (h0 : 0 < n) :
    ∃ g cap, v = .slice (some ⟨g, 0, none⟩) n cap ∧ col g = c ∧ g < w.heap.size ∧ n ≤ cap ∧ cap ≤ maxLen ∧ (∃ cs t f, w.heap[g]? = some (.cells cs t f)) ∧ ∀ j, j < n * sz → w.cell? ⟨g, j, none⟩ = xs[j]? := by
  obtain ⟨a, cap, rfl, hn, hm⟩ := h.form
  obtain ⟨g, cur, rfl, hc, hb, hs, -, -, hlx, hcx⟩ := h.at_ h0
  exact ⟨g, cap, rfl, hc, hb.lt, hn, hm, hb.cells, fun j hj => (hb.cell j).trans (hcx j hj)⟩
/-- an append: the row's own block may have turned, new ones have its colour -/
theorem Owns.more {col : Nat → Nat} {c : Nat} {w w1 : World} {e : TypeId} {sz n n0 : Nat} {v v' : Value} {xs ys : List Value} (h : Owns col c w e sz v n0 ys) {o : Obj} (ha : Appended (w.alloc o) w1 0 e sz v v' n xs) : Owns (ext col w.heap.size c) c w1 e sz v' n xs ∧ Move (· = c) col (ext col w.heap.size c) w w1 :=
  ⟨(h.app ha).1, recol_ext _ _ _, (h.app ha).2⟩
end Go.Proofs.Ytbikganlloopbaa
namespace Go.Proofs.Ytbikganlloopbaa
set_option linter.unusedVariables false
set_option linter.unusedSimpArgs false
open Go.RowKit Go.Proofs
theorem own_lt {w : World} {base : Nat} {e : TypeId} {sz : Nat} {v : Value} {n : Nat} {xs : List Value} (h : w.ownsRow base e sz v n xs) : ∀ g, v.ownBlock = some g → g < w.heap.size := by
  intro g hg
  obtain ⟨_, ⟨rfl, _⟩ | ⟨g', cap, cur, rfl, hb, hgb, _⟩⟩ := h
  · simp [Value.ownBlock] at hg
  · simp only [Value.ownBlock, Option.some.injEq] at hg
    rw [← hg]; exact lt_of_block hgb
def ptrs (xs : List Nat) : List Value := xs.map fun x => .pointer (some ⟨x, 0, none⟩)
theorem ptrs_len (xs : List Nat) : (ptrs xs).length = xs.length := List.length_map ..
theorem owns_kept2 {S : Nat → Prop} {w w' : World} {base : Nat} {e : TypeId} {size : Nat} {v : Value} {n : Nat} {xs : List Value} (h : w.ownsRow base e size v n xs) (k : Kept S w w') (hS : ∀ b, v.ownBlock = some b → ¬ S b) : w'.ownsRow base e size v n xs := by
  obtain ⟨hl, h | ⟨g, cap, cur, rfl, hbg, hgb, hnc, hcm, hcs, htake⟩⟩ := h
  · exact ⟨hl, .inl h⟩
  · exact ⟨hl, .inr ⟨g, cap, cur, rfl, hbg, (k.block g (lt_of_block hgb) (hS g rfl)).trans hgb, hnc, hcm, hcs, htake⟩⟩
end Go.Proofs.Ytbikganlloopbaa
