/-
  What stands here: what lists, nodes and homes hold, and how that goes on: plain laws. Under no condition.
-/
import Derived.Test.YtbikganlloopbaaRow
namespace Go.Proofs.Ytbikganlloopbaa
set_option linter.unusedVariables false
set_option linter.unusedSimpArgs false
open Go.RowKit Go.Proofs

/-- a node -/
structure NR where
  val : Value
  prev : Option Nat
  next : Option Nat
  home : Option Nat
/-- all lists: of each block what it is (1 a list, 2 a node, 3 a home), of each node and home what it holds, of each list its nodes and its home -/
structure LS where
  kd : Nat → Nat
  nd : Nat → NR
  to : Nat → Option Nat
  sq : Nat → List Nat
  hm : Nat → Nat

def hd (xs : List Nat) (q : Option Nat) : Option Nat := match xs with
  | [] => q
  | y :: _ => some y
def lst : Option Nat → List Nat → Option Nat
  | p, [] => p
  | _, x :: xs => lst (some x) xs
def Linked (nd : Nat → NR) : Option Nat → List Nat → Option Nat → Prop
  | _, [], _ => True
  | p, x :: xs, q => (nd x).prev = p ∧ (nd x).next = hd xs q ∧ Linked nd (some x) xs q
def Leads (to : Nat → Option Nat) : Nat → Nat → Nat → Prop
  | 0, h, r => h = r ∧ to h = none
  | d + 1, h, r => ∃ h', to h = some h' ∧ Leads to d h' r

theorem lst_append (p : Option Nat) (a b : List Nat) : lst p (a ++ b) = lst (lst p a) b := by
  induction a generalizing p with
  | nil => rfl
  | cons x a ih => exact ih (some x)
theorem lst_snoc (p : Option Nat) (a : List Nat) (y : Nat) : lst p (a ++ [y]) = some y := by rw [lst_append]; rfl
theorem hd_append (a b : List Nat) (q : Option Nat) : hd (a ++ b) q = hd a (hd b q) := by cases a <;> rfl
theorem snoc_cases (a : List Nat) : a = [] ∨ ∃ a0 y, a = a0 ++ [y] := by
  rcases List.eq_nil_or_concat a with h | ⟨l, b, h⟩
  · exact .inl h
  · exact .inr ⟨l, b, by rw [h]; simp⟩
theorem linked_append (nd : Nat → NR) (p q : Option Nat) (a b : List Nat) : Linked nd p (a ++ b) q ↔ Linked nd p a (hd b q) ∧ Linked nd (lst p a) b q := by
  induction a generalizing p with
  | nil => simp [Linked, lst]
  | cons x a ih =>
    simp only [List.cons_append, Linked, lst, ih (some x), hd_append, and_assoc]
theorem linked_one (nd : Nat → NR) (p q : Option Nat) (x : Nat) : Linked nd p [x] q ↔ (nd x).prev = p ∧ (nd x).next = q := by simp [Linked, hd]
theorem Linked.congr {nd nd' : Nat → NR} {q : Option Nat} {a : List Nat} : ∀ {p : Option Nat}, Linked nd p a q → (∀ y ∈ a, (nd' y).prev = (nd y).prev ∧ (nd' y).next = (nd y).next) → Linked nd' p a q := by
  induction a with
  | nil => intro p _ _; trivial
  | cons x a ih =>
    intro p h k
    obtain ⟨h1, h2, h3⟩ := h
    obtain ⟨k1, k2⟩ := k x (by simp)
    exact ⟨k1.trans h1, k2.trans h2, ih h3 (fun y hy => k y (by simp [hy]))⟩
theorem Leads.det {to : Nat → Option Nat} : ∀ {d e h r s : Nat}, Leads to d h r → Leads to e h s → r = s
  | 0, 0, _, _, _, h, k => h.1.symm.trans k.1
  | 0, e + 1, _, _, _, h, k => by obtain ⟨h', h1, _⟩ := k; rw [h.2] at h1; cases h1
  | d + 1, 0, _, _, _, h, k => by obtain ⟨h', h1, _⟩ := h; rw [k.2] at h1; cases h1
  | d + 1, e + 1, _, _, _, h, k => by
    obtain ⟨h1, e1, h2⟩ := h
    obtain ⟨k1, e2, k2⟩ := k
    rw [e1] at e2; cases e2
    exact Leads.det h2 k2
theorem Leads.root {to : Nat → Option Nat} : ∀ {d h r : Nat}, Leads to d h r → to r = none
  | 0, _, _, h => by obtain ⟨rfl, h2⟩ := h; exact h2
  | d + 1, _, _, h => by obtain ⟨_, _, h2⟩ := h; exact Leads.root h2
/-- homes that aren't turned -/
theorem Leads.congr {to to' : Nat → Option Nat} {P : Nat → Prop} (hP : ∀ h h', P h → to h = some h' → P h') (he : ∀ h, P h → to' h = to h) : ∀ {d h r : Nat}, P h → Leads to d h r → Leads to' d h r
  | 0, h, _, hp, hl => ⟨hl.1, by rw [he h hp]; exact hl.2⟩
  | d + 1, h, _, hp, hl => by
    obtain ⟨h', h1, h2⟩ := hl
    exact ⟨h', by rw [he h hp]; exact h1, Leads.congr hP he (hP h h' hp h1) h2⟩
/-- a root comes to lead on to another one -/
theorem Leads.join {to to' : Nat → Option Nat} {a b : Nat} (hab : a ≠ b) (ha : to' a = some b) (hb : to' b = none) (he : ∀ h, h ≠ a → to' h = to h) : ∀ {d h r : Nat}, Leads to d h r → to a = none → Leads to' (if r = a then d + 1 else d) h (if r = a then b else r)
  | 0, h, r, hl, h0 => by
    obtain ⟨rfl, h2⟩ := hl
    by_cases e : h = a
    · subst e; rw [if_pos rfl, if_pos rfl]; exact ⟨b, ha, rfl, hb⟩
    · rw [if_neg e, if_neg e]; exact ⟨rfl, by rw [he h e]; exact h2⟩
  | d + 1, h, r, hl, h0 => by
    obtain ⟨h', h1, h2⟩ := hl
    have hne : h ≠ a := by intro e; subst e; rw [h0] at h1; cases h1
    have := Leads.join hab ha hb he h2 h0
    by_cases e : r = a
    · rw [if_pos e] at this ⊢; rw [if_pos e] at this ⊢; exact ⟨h', by rw [he h hne]; exact h1, this⟩
    · rw [if_neg e] at this ⊢; rw [if_neg e] at this ⊢; exact ⟨h', by rw [he h hne]; exact h1, this⟩

/-- what is so of all lists -/
structure LInv (s : LS) : Prop where
  hmk : ∀ l, s.kd l = 1 → s.kd (s.hm l) = 3 ∧ s.to (s.hm l) = none
  inj : ∀ l l', s.kd l = 1 → s.kd l' = 1 → s.hm l = s.hm l' → l = l'
  tok : ∀ h h', s.kd h = 3 → s.to h = some h' → s.kd h' = 3
  lnk : ∀ l, s.kd l = 1 → Linked s.nd none (s.sq l) none
  mem : ∀ l x, s.kd l = 1 → x ∈ s.sq l → s.kd x = 2 ∧ ∃ h d, (s.nd x).home = some h ∧ s.kd h = 3 ∧ Leads s.to d h (s.hm l)
  nodup : ∀ l, s.kd l = 1 → (s.sq l).Nodup
  own : ∀ x, s.kd x = 2 → (s.nd x).home = none ∨ ∃ l, s.kd l = 1 ∧ x ∈ s.sq l
theorem LInv.one {s : LS} (h : LInv s) {l l' x : Nat} (h1 : s.kd l = 1) (h2 : s.kd l' = 1) (m1 : x ∈ s.sq l) (m2 : x ∈ s.sq l') : l = l' := by
  obtain ⟨_, a, d, e1, _, p1⟩ := h.mem l x h1 m1
  obtain ⟨_, b, e, e2, _, p2⟩ := h.mem l' x h2 m2
  rw [e1] at e2; cases e2
  exact h.inj l l' h1 h2 (p1.det p2)
def upd {α : Type} (f : Nat → α) (x : Nat) (v : α) : Nat → α := fun y => if y = x then v else f y
theorem upd_same {α : Type} (f : Nat → α) (x : Nat) (v : α) : upd f x v x = v := if_pos rfl
theorem upd_ne {α : Type} (f : Nat → α) {x y : Nat} (v : α) (h : y ≠ x) : upd f x v y = f y := if_neg h

/-- no lists -/
def LS.zero : LS := ⟨fun _ => 0, fun _ => ⟨.pointer none, none, none, none⟩, fun _ => none, fun _ => [], fun _ => 0⟩
theorem LInv.zero : LInv LS.zero := by
  constructor
  · intro l h; exact absurd h (by simp [LS.zero])
  · intro l l' h; exact absurd h (by simp [LS.zero])
  · intro l l' h; exact absurd h (by simp [LS.zero])
  · intro l h; exact absurd h (by simp [LS.zero])
  · intro l x h; exact absurd h (by simp [LS.zero])
  · intro l h; exact absurd h (by simp [LS.zero])
  · intro x h; exact absurd h (by simp [LS.zero])
/-- a new list b with the home h -/
def LS.new (s : LS) (h b : Nat) : LS := { s with kd := upd (upd s.kd h 3) b 1, to := upd s.to h none, sq := upd s.sq b [], hm := upd s.hm b h }
theorem LInv.new {s : LS} (i : LInv s) {h b : Nat} (hh : s.kd h = 0) (hb : s.kd b = 0) (hne : h ≠ b) : LInv (s.new h b) := by
  have kd : ∀ x, s.kd x ≠ 0 → (s.new h b).kd x = s.kd x := fun x hx => by
    show upd (upd s.kd h 3) b 1 x = _
    rw [upd_ne _ _ (by intro e; rw [e] at hx; exact hx hb), upd_ne _ _ (by intro e; rw [e] at hx; exact hx hh)]
  have kd' : ∀ x, (s.new h b).kd x = (if x = b then 1 else if x = h then 3 else s.kd x) := fun x => rfl
  have li : ∀ l, (s.new h b).kd l = 1 → l = b ∨ (l ≠ b ∧ s.kd l = 1) := fun l hl => by
    rw [kd'] at hl
    split at hl
    · exact .inl ‹_›
    · rename_i hlb
      split at hl
      · cases hl
      · exact .inr ⟨hlb, hl⟩
  have nh : ∀ x, s.kd x = 3 → x ≠ h := fun x hx e => by rw [e, hh] at hx; cases hx
  have hm : ∀ l, s.kd l = 1 → s.hm l ≠ h := fun l hl => nh _ (i.hmk l hl).1
  have lead : ∀ {d a r}, s.kd a = 3 → Leads s.to d a r → Leads (s.new h b).to d a r := fun ha hl =>
    Leads.congr (P := fun x => s.kd x = 3) (fun a b => i.tok a b) (fun a ha => upd_ne _ _ (nh a ha)) ha hl
  refine ⟨fun l hl => ?_, fun l l' hl hl' e => ?_, fun a a' ha e => ?_, fun l hl => ?_, fun l x hl hx => ?_, fun l hl => ?_, fun x hx => ?_⟩
  · rcases li l hl with rfl | ⟨hlb, hl⟩
    · refine ⟨?_, ?_⟩
      · show upd (upd s.kd h 3) l 1 (upd s.hm l h l) = 3
        rw [upd_same, upd_ne _ _ hne, upd_same]
      · show upd s.to h none (upd s.hm l h l) = none
        rw [upd_same, upd_same]
    · obtain ⟨h1, h2⟩ := i.hmk l hl
      have e : (s.new h b).hm l = s.hm l := upd_ne _ _ hlb
      rw [e, kd _ (by rw [h1]; omega)]
      exact ⟨h1, by show upd s.to h none (s.hm l) = none; rw [upd_ne _ _ (hm l hl)]; exact h2⟩
  · rcases li l hl with rfl | ⟨hlb, hl1⟩
    · rcases li l' hl' with rfl | ⟨hlb', hl'⟩
      · rfl
      · have e2 : h = s.hm l' := by
          have e3 : upd s.hm l h l = upd s.hm l h l' := e
          rwa [upd_same, upd_ne _ _ hlb'] at e3
        exact absurd e2.symm (hm l' hl')
    · rcases li l' hl' with rfl | ⟨hlb', hl'⟩
      · have e2 : s.hm l = h := by
          have e3 : upd s.hm l' h l = upd s.hm l' h l' := e
          rwa [upd_same, upd_ne _ _ hlb] at e3
        exact absurd e2 (hm l hl1)
      · have e3 : upd s.hm b h l = upd s.hm b h l' := e
        rw [upd_ne _ _ hlb, upd_ne _ _ hlb'] at e3
        exact i.inj l l' hl1 hl' e3
  · have e' : upd s.to h none a = some a' := e
    by_cases e2 : a = h
    · rw [e2, upd_same] at e'; cases e'
    · rw [upd_ne _ _ e2] at e'
      have ha' : s.kd a = 3 := by
        rw [kd', if_neg (by intro e3; rw [if_pos e3] at ha; cases ha), if_neg e2] at ha; exact ha
      have h3 := i.tok a a' ha' e'
      rw [kd _ (by rw [h3]; omega)]; exact h3
  · rcases li l hl with rfl | ⟨hlb, hl⟩
    · show Linked s.nd none (upd s.sq l [] l) none
      rw [upd_same]; trivial
    · show Linked s.nd none (upd s.sq b [] l) none
      rw [upd_ne _ _ hlb]; exact i.lnk l hl
  · have hx' : x ∈ upd s.sq b [] l := hx
    rcases li l hl with rfl | ⟨hlb, hl⟩
    · rw [upd_same] at hx'; cases hx'
    · rw [upd_ne _ _ hlb] at hx'
      obtain ⟨h1, a, d, h2, h3, h4⟩ := i.mem l x hl hx'
      refine ⟨by rw [kd _ (by rw [h1]; omega)]; exact h1, a, d, h2, by rw [kd _ (by rw [h3]; omega)]; exact h3, ?_⟩
      have e : (s.new h b).hm l = s.hm l := upd_ne _ _ hlb
      rw [e]; exact lead h3 h4
  · show (upd s.sq b [] l).Nodup
    rcases li l hl with rfl | ⟨hlb, hl⟩
    · rw [upd_same]; exact List.nodup_nil
    · rw [upd_ne _ _ hlb]; exact i.nodup l hl
  · rw [kd'] at hx
    split at hx
    · cases hx
    · split at hx
      · cases hx
      · rcases i.own x hx with h1 | ⟨l, h1, h2⟩
        · exact .inl h1
        · refine .inr ⟨l, by rw [kd _ (by rw [h1]; omega)]; exact h1, ?_⟩
          show x ∈ upd s.sq b [] l
          rw [upd_ne _ _ (by intro e; rw [e, hb] at h1; cases h1)]; exact h2

/-- a new node x -/
def LS.node (s : LS) (x : Nat) (v : Value) : LS := { s with kd := upd s.kd x 2, nd := upd s.nd x ⟨v, none, none, none⟩ }
theorem LInv.node {s : LS} (i : LInv s) {x : Nat} (hx : s.kd x = 0) (v : Value) : LInv (s.node x v) := by
  have kd : ∀ y, s.kd y ≠ 0 → (s.node x v).kd y = s.kd y := fun y hy => upd_ne _ _ (by intro e; rw [e] at hy; exact hy hx)
  have kd2 : ∀ y, (s.node x v).kd y ≠ 2 → (s.node x v).kd y = s.kd y := fun y hy => upd_ne _ _ (by intro e; exact hy (by show upd s.kd x 2 y = 2; rw [e, upd_same]))
  have kl : ∀ l, (s.node x v).kd l = 1 → s.kd l = 1 := fun l hl => by rw [← kd2 l (by omega)]; exact hl
  have nx : ∀ l y, s.kd l = 1 → y ∈ s.sq l → y ≠ x := fun l y hl hy e => by have := (i.mem l y hl hy).1; rw [e, hx] at this; cases this
  refine ⟨fun l hl => ?_, fun l l' hl hl' e => i.inj l l' (kl l hl) (kl l' hl') e, fun a a' ha e => ?_, fun l hl => (i.lnk l (kl l hl)).congr fun y hy => ?_, fun l y hl hy => ?_, fun l hl => i.nodup l (kl l hl), fun y hy => ?_⟩
  · obtain ⟨h1, h2⟩ := i.hmk l (kl l hl)
    exact ⟨(kd _ (by show s.kd (s.hm l) ≠ 0; rw [h1]; omega)).trans h1, h2⟩
  · rw [kd2 _ (by omega)] at ha
    have h3 := i.tok a a' ha e
    rw [kd _ (by rw [h3]; omega)]; exact h3
  · show (upd s.nd x _ y).prev = _ ∧ (upd s.nd x _ y).next = _
    rw [upd_ne _ _ (nx l y (kl l hl) hy)]; exact ⟨rfl, rfl⟩
  · obtain ⟨h1, a, d, h2, h3, h4⟩ := i.mem l y (kl l hl) hy
    refine ⟨by rw [kd _ (by rw [h1]; omega)]; exact h1, a, d, ?_, by rw [kd _ (by rw [h3]; omega)]; exact h3, h4⟩
    show (upd s.nd x _ y).home = _
    rw [upd_ne _ _ (nx l y (kl l hl) hy)]; exact h2
  · by_cases e : y = x
    · left; show (upd s.nd x _ y).home = none; rw [e, upd_same]
    · have hy' : s.kd y = 2 := by have h9 : upd s.kd x 2 y = 2 := hy; rwa [upd_ne _ _ e] at h9
      rcases i.own y hy' with h1 | ⟨l, h1, h2⟩
      · left; show (upd s.nd x _ y).home = none; rw [upd_ne _ _ e]; exact h1
      · exact .inr ⟨l, by rw [kd _ (by rw [h1]; omega)]; exact h1, h2⟩

/-- a node x is put behind all others of l -/
def putNd (nd : Nat → NR) (xs : List Nat) (h x : Nat) : Nat → NR := fun y =>
  if y = x then { nd x with prev := lst none xs, next := none, home := some h } else if lst none xs = some y then { nd y with next := some x } else nd y
def LS.put (s : LS) (l x : Nat) : LS := { s with nd := putNd s.nd (s.sq l) (s.hm l) x, sq := upd s.sq l (s.sq l ++ [x]) }
theorem lst_mem {xs : List Nat} {y : Nat} (h : lst none xs = some y) : y ∈ xs := by
  rcases snoc_cases xs with rfl | ⟨a, z, rfl⟩
  · cases h
  · rw [lst_snoc] at h; cases h; simp
theorem LInv.nomem {s : LS} (i : LInv s) {x : Nat} (hx : (s.nd x).home = none) {l : Nat} (hl : s.kd l = 1) : x ∉ s.sq l := fun h => by
  obtain ⟨_, a, d, h2, _⟩ := i.mem l x hl h
  rw [hx] at h2; cases h2
theorem LInv.put {s : LS} (i : LInv s) {l x : Nat} (hl : s.kd l = 1) (hk : s.kd x = 2) (hx : (s.nd x).home = none) : LInv (s.put l x) := by
  have hxn : ∀ l', s.kd l' = 1 → x ∉ s.sq l' := fun l' h' => i.nomem hx h'
  have nd : ∀ y, (s.put l x).nd y = if y = x then { s.nd x with prev := lst none (s.sq l), next := none, home := some (s.hm l) } else if lst none (s.sq l) = some y then { s.nd y with next := some x } else s.nd y := fun y => rfl
  have other : ∀ y, y ≠ x → y ∉ s.sq l → (s.put l x).nd y = s.nd y := fun y h1 h2 => by rw [nd, if_neg h1, if_neg (fun h => h2 (lst_mem h))]
  have home : ∀ y, y ≠ x → ((s.put l x).nd y).home = (s.nd y).home := fun y h1 => by rw [nd, if_neg h1]; split <;> rfl
  refine ⟨i.hmk, i.inj, i.tok, fun l' hl' => ?_, fun l' y hl' hy => ?_, fun l' hl' => ?_, fun y hy => ?_⟩
  · show Linked _ none (upd s.sq l (s.sq l ++ [x]) l') none
    by_cases e : l' = l
    · subst e
      rw [upd_same]
      have hL := i.lnk l' hl
      have hN := i.nodup l' hl
      have hX := hxn l' hl
      rw [linked_append, linked_one]
      refine ⟨?_, by rw [nd, if_pos rfl], by rw [nd, if_pos rfl]⟩
      rcases snoc_cases (s.sq l') with h0 | ⟨a, z, h0⟩
      · rw [h0]; trivial
      · rw [h0] at hL hN hX ⊢
        rw [linked_append, linked_one] at hL ⊢
        have hz : z ≠ x := by intro e; subst e; exact hX (by simp)
        have hza : z ∉ a := by
          intro hm
          have := List.nodup_append.1 hN
          exact this.2.2 z hm z (by simp) rfl
        have ez : (s.put l' x).nd z = { s.nd z with next := some x } := by rw [nd, if_neg hz, if_pos (by rw [h0, lst_snoc])]
        refine ⟨hL.1.congr fun y hy => ?_, by rw [ez]; exact hL.2.1, by rw [ez]; rfl⟩
        have hyx : y ≠ x := by intro e; subst e; exact hX (by simp [hy])
        rw [nd, if_neg hyx, if_neg (by rw [h0, lst_snoc]; intro e; cases e; exact hza hy)]
        exact ⟨rfl, rfl⟩
    · rw [upd_ne _ _ e]
      refine (i.lnk l' hl').congr fun y hy => ?_
      rw [other y (by intro e2; subst e2; exact hxn l' hl' hy) (fun hm => e (i.one hl' hl hy hm))]
      exact ⟨rfl, rfl⟩
  · have hy' : y ∈ upd s.sq l (s.sq l ++ [x]) l' := hy
    have step : y ∈ s.sq l' → s.kd y = 2 ∧ ∃ h d, ((s.put l x).nd y).home = some h ∧ s.kd h = 3 ∧ Leads s.to d h (s.hm l') := fun hm => by
      rw [home y (by intro e2; subst e2; exact hxn l' hl' hm)]
      exact i.mem l' y hl' hm
    by_cases e : l' = l
    · subst e
      rw [upd_same, List.mem_append] at hy'
      rcases hy' with hm | hm
      · exact step hm
      · have e3 : y = x := by simpa using hm
        subst e3
        obtain ⟨h1, h2⟩ := i.hmk l' hl
        exact ⟨hk, s.hm l', 0, by rw [nd, if_pos rfl], h1, rfl, h2⟩
    · rw [upd_ne _ _ e] at hy'; exact step hy'
  · show (upd s.sq l (s.sq l ++ [x]) l').Nodup
    by_cases e : l' = l
    · subst e
      rw [upd_same, List.nodup_append]
      refine ⟨i.nodup l' hl, by simp, fun a ha b hb e => ?_⟩
      have : b = x := by simpa using hb
      rw [e, this] at ha
      exact hxn l' hl ha
    · rw [upd_ne _ _ e]; exact i.nodup l' hl'
  · by_cases e : y = x
    · subst e
      exact .inr ⟨l, hl, by show y ∈ upd s.sq l _ l; rw [upd_same]; simp⟩
    · rcases i.own y hy with h1 | ⟨l', h1, h2⟩
      · exact .inl (by rw [home y e]; exact h1)
      · refine .inr ⟨l', h1, ?_⟩
        show y ∈ upd s.sq l _ l'
        by_cases e2 : l' = l
        · subst e2; rw [upd_same]; simp [h2]
        · rw [upd_ne _ _ e2]; exact h2

/-- a node x is taken out of l -/
def outNd (nd : Nat → NR) (x : Nat) : Nat → NR := fun y =>
  if y = x then { nd x with prev := none, next := none, home := none } else if (nd x).prev = some y then { nd y with next := (nd x).next } else if (nd x).next = some y then { nd y with prev := (nd x).prev } else nd y
def LS.out (s : LS) (l x : Nat) : LS := { s with nd := outNd s.nd x, sq := upd s.sq l ((s.sq l).erase x) }
theorem hd_mem {xs : List Nat} {y : Nat} (h : hd xs none = some y) : y ∈ xs := by
  cases xs with
  | nil => cases h
  | cons z xs => simp only [hd, Option.some.injEq] at h; subst h; simp
theorem split_at {xs : List Nat} {x : Nat} (h : x ∈ xs) (hn : xs.Nodup) : ∃ a b, xs = a ++ x :: b ∧ x ∉ a ∧ x ∉ b ∧ (∀ y, y ∈ a → y ∉ b) ∧ xs.erase x = a ++ b ∧ a.Nodup ∧ b.Nodup := by
  obtain ⟨a, b, rfl⟩ := List.append_of_mem h
  rw [List.nodup_append, List.nodup_cons] at hn
  obtain ⟨h1, ⟨h2, h3⟩, h4⟩ := hn
  have hxa : x ∉ a := fun hm => h4 x hm x (by simp) rfl
  refine ⟨a, b, rfl, hxa, h2, fun y hy hb => h4 y hy y (by simp [hb]) rfl, ?_, h1, h3⟩
  rw [List.erase_append_right _ hxa]; simp
theorem LInv.ends {s : LS} (i : LInv s) {l x : Nat} (hl : s.kd l = 1) {a b : List Nat} (h : s.sq l = a ++ x :: b) : (s.nd x).prev = lst none a ∧ (s.nd x).next = hd b none := by
  have hL := i.lnk l hl
  rw [h, linked_append] at hL
  exact ⟨hL.2.1, hL.2.2.1⟩
theorem LInv.out {s : LS} (i : LInv s) {l x : Nat} (hl : s.kd l = 1) (hx : x ∈ s.sq l) : LInv (s.out l x) := by
  obtain ⟨a, b, h0, hxa, hxb, hab, her, hna, hnb⟩ := split_at hx (i.nodup l hl)
  obtain ⟨hp, hn⟩ := i.ends hl h0
  have nd : ∀ y, (s.out l x).nd y = if y = x then { s.nd x with prev := none, next := none, home := none } else if lst none a = some y then { s.nd y with next := hd b none } else if hd b none = some y then { s.nd y with prev := lst none a } else s.nd y := fun y => by
    show outNd s.nd x y = _
    unfold outNd; rw [hp, hn]
  have other : ∀ y, y ∉ s.sq l → (s.out l x).nd y = s.nd y := fun y h1 => by
    rw [h0] at h1
    simp only [List.mem_append, List.mem_cons, not_or] at h1
    rw [nd, if_neg h1.2.1, if_neg (fun h => h1.1 (lst_mem h)), if_neg (fun h => h1.2.2 (hd_mem h))]
  have home : ∀ y, y ≠ x → ((s.out l x).nd y).home = (s.nd y).home := fun y h1 => by rw [nd, if_neg h1]; split; rfl; split <;> rfl
  have sqe : (s.out l x).sq l = a ++ b := by show upd s.sq l _ l = _; rw [upd_same, her]
  have hxo : ∀ l', s.kd l' = 1 → l' ≠ l → x ∉ s.sq l' := fun l' h' e hm => e (i.one h' hl hm hx)
  refine ⟨i.hmk, i.inj, i.tok, fun l' hl' => ?_, fun l' y hl' hy => ?_, fun l' hl' => ?_, fun y hy => ?_⟩
  · by_cases e : l' = l
    · subst e
      rw [sqe]
      have hL := i.lnk l' hl
      rw [h0, linked_append] at hL
      obtain ⟨hA, _, _, hB⟩ := hL
      rw [linked_append]
      constructor
      · rcases snoc_cases a with rfl | ⟨a0, z, rfl⟩
        · trivial
        · rw [linked_append, linked_one] at hA ⊢
          have hzx : z ≠ x := by intro e; subst e; exact hxa (by simp)
          have ez : (s.out l' x).nd z = { s.nd z with next := hd b none } := by rw [nd, if_neg hzx, if_pos (lst_snoc _ _ _)]
          refine ⟨hA.1.congr fun y hy => ?_, by rw [ez]; exact hA.2.1, by rw [ez]⟩
          have hyx : y ≠ x := by intro e; subst e; exact hxa (by simp [hy])
          have hyz : y ≠ z := by
            intro e; subst e
            exact (List.nodup_append.1 hna).2.2 y hy y (by simp) rfl
          rw [nd, if_neg hyx, if_neg (by rw [lst_snoc]; intro e; cases e; exact hyz rfl), if_neg (fun h => hab y (by simp [hy]) (hd_mem h))]
          exact ⟨rfl, rfl⟩
      · cases b with
        | nil => trivial
        | cons z b =>
          have hzx : z ≠ x := by intro e; subst e; exact hxb (by simp)
          have hza : ¬ lst none a = some z := fun h => hab z (lst_mem h) (by simp)
          have ez : (s.out l' x).nd z = { s.nd z with prev := lst none a } := by rw [nd, if_neg hzx, if_neg hza, if_pos (show hd (z :: b) none = some z from rfl)]
          obtain ⟨h1, h2, h3⟩ := hB
          refine ⟨by rw [ez], by rw [ez]; exact h2, h3.congr fun y hy => ?_⟩
          have hyx : y ≠ x := by intro e; subst e; exact hxb (by simp [hy])
          have hyz : z ≠ y := by intro e; subst e; exact (List.nodup_cons.1 hnb).1 hy
          rw [nd, if_neg hyx, if_neg (fun h => hab y (lst_mem h) (by simp [hy])), if_neg (by simpa [hd] using hyz)]
          exact ⟨rfl, rfl⟩
    · show Linked _ none (upd s.sq l _ l') none
      rw [upd_ne _ _ e]
      refine (i.lnk l' hl').congr fun y hy => ?_
      rw [other y (fun hm => e (i.one hl' hl hy hm))]
      exact ⟨rfl, rfl⟩
  · have step : y ∈ s.sq l' → y ≠ x → s.kd y = 2 ∧ ∃ h d, ((s.out l x).nd y).home = some h ∧ s.kd h = 3 ∧ Leads s.to d h (s.hm l') := fun hm hne => by
      rw [home y hne]
      exact i.mem l' y hl' hm
    by_cases e : l' = l
    · subst e
      rw [sqe, List.mem_append] at hy
      refine step (by rw [h0]; simp only [List.mem_append, List.mem_cons]; rcases hy with h | h; exact .inl h; exact .inr (.inr h)) (by intro e; subst e; rcases hy with h | h; exact hxa h; exact hxb h)
    · have hy' : y ∈ upd s.sq l _ l' := hy
      rw [upd_ne _ _ e] at hy'
      exact step hy' (by intro e2; subst e2; exact hxo l' hl' e hy')
  · by_cases e : l' = l
    · subst e
      rw [sqe, List.nodup_append]
      exact ⟨hna, hnb, fun y hy z hz e => hab y hy (by rw [e]; exact hz)⟩
    · show (upd s.sq l _ l').Nodup
      rw [upd_ne _ _ e]; exact i.nodup l' hl'
  · by_cases e : y = x
    · left; rw [nd, if_pos e]
    · rcases i.own y hy with h1 | ⟨l', h1, h2⟩
      · exact .inl (by rw [home y e]; exact h1)
      · refine .inr ⟨l', h1, ?_⟩
        by_cases e2 : l' = l
        · subst e2
          rw [sqe]
          rw [h0] at h2
          simp only [List.mem_append, List.mem_cons] at h2 ⊢
          rcases h2 with h | h | h
          · exact .inl h
          · exact absurd h e
          · exact .inr h
        · show y ∈ upd s.sq l _ l'
          rw [upd_ne _ _ e2]; exact h2

/-- all of o is put behind l's; o goes on with the new home h -/
def joinNd (nd : Nat → NR) (a b : List Nat) : Nat → NR := fun y =>
  if lst none a = some y then { nd y with next := hd b none } else if hd b none = some y then { nd y with prev := lst none a } else nd y
def LS.splice (s : LS) (l o h : Nat) : LS :=
  { kd := upd s.kd h 3, nd := joinNd s.nd (s.sq l) (s.sq o), to := upd (upd s.to (s.hm o) (some (s.hm l))) h none, sq := upd (upd s.sq l (s.sq l ++ s.sq o)) o [], hm := upd s.hm o h }
theorem LInv.splice {s : LS} (i : LInv s) {l o h : Nat} (hl : s.kd l = 1) (ho : s.kd o = 1) (hlo : l ≠ o) (hh : s.kd h = 0) : LInv (s.splice l o h) := by
  have hdis : ∀ y, y ∈ s.sq l → y ∉ s.sq o := fun y h1 h2 => hlo (i.one hl ho h1 h2)
  have nd : ∀ y, (s.splice l o h).nd y = if lst none (s.sq l) = some y then { s.nd y with next := hd (s.sq o) none } else if hd (s.sq o) none = some y then { s.nd y with prev := lst none (s.sq l) } else s.nd y := fun y => rfl
  have home : ∀ y, ((s.splice l o h).nd y).home = (s.nd y).home := fun y => by rw [nd]; split; rfl; split <;> rfl
  have other : ∀ y, y ∉ s.sq l → y ∉ s.sq o → (s.splice l o h).nd y = s.nd y := fun y h1 h2 => by
    rw [nd, if_neg (fun h => h1 (lst_mem h)), if_neg (fun h => h2 (hd_mem h))]
  obtain ⟨hl3, hl0⟩ := i.hmk l hl
  obtain ⟨ho3, ho0⟩ := i.hmk o ho
  have hne : s.hm o ≠ s.hm l := fun e => hlo (i.inj l o hl ho e.symm)
  have nh : ∀ x, s.kd x ≠ 0 → x ≠ h := fun x hx e => by rw [e] at hx; exact hx hh
  have kd : ∀ y, s.kd y ≠ 0 → (s.splice l o h).kd y = s.kd y := fun y hy => upd_ne _ _ (nh y hy)
  have kl : ∀ y, (s.splice l o h).kd y = 1 → s.kd y = 1 := fun y hy => by
    have h9 : upd s.kd h 3 y = 1 := hy
    by_cases e : y = h
    · rw [e, upd_same] at h9; cases h9
    · rwa [upd_ne _ _ e] at h9
  have hmo : (s.splice l o h).hm o = h := upd_same _ _ _
  have hmx : ∀ y, y ≠ o → (s.splice l o h).hm y = s.hm y := fun y hy => upd_ne _ _ hy
  have too : ∀ y, y ≠ h → (s.splice l o h).to y = if y = s.hm o then some (s.hm l) else s.to y := fun y hy => by
    show upd (upd s.to (s.hm o) (some (s.hm l))) h none y = _
    rw [upd_ne _ _ hy]; rfl
  have toh : (s.splice l o h).to h = none := upd_same _ _ _
  have lead : ∀ {d a r}, s.kd a = 3 → Leads s.to d a r → ∃ d', Leads (s.splice l o h).to d' a (if r = s.hm o then s.hm l else r) := fun {d a r} ha hL => by
    have h1 := Leads.join (to' := upd s.to (s.hm o) (some (s.hm l))) hne (upd_same _ _ _) (by rw [upd_ne _ _ (Ne.symm hne)]; exact hl0) (fun x hx => upd_ne _ _ hx) hL ho0
    refine ⟨_, Leads.congr (P := fun x => s.kd x = 3) (fun x y hx e => ?_) (fun x hx => upd_ne _ _ (nh x (by rw [hx]; omega))) ha h1⟩
    by_cases e2 : x = s.hm o
    · rw [e2, upd_same] at e; cases e; exact hl3
    · rw [upd_ne _ _ e2] at e; exact i.tok x y hx e
  have sql : (s.splice l o h).sq l = s.sq l ++ s.sq o := by show upd (upd s.sq l _) o [] l = _; rw [upd_ne _ _ hlo, upd_same]
  have sqo : (s.splice l o h).sq o = [] := by show upd (upd s.sq l _) o [] o = _; rw [upd_same]
  have sqx : ∀ y, y ≠ l → y ≠ o → (s.splice l o h).sq y = s.sq y := fun y h1 h2 => by show upd (upd s.sq l _) o [] y = _; rw [upd_ne _ _ h2, upd_ne _ _ h1]
  refine ⟨fun l' hl' => ?_, fun l' l2 hl' hl2 e => ?_, fun a a' ha e => ?_, fun l' hl' => ?_, fun l' y hl' hy => ?_, fun l' hl' => ?_, fun y hy => ?_⟩
  · have hl1 := kl l' hl'
    by_cases e : l' = o
    · rw [e, hmo]; exact ⟨upd_same _ _ _, toh⟩
    · rw [hmx _ e]
      obtain ⟨h1, h2⟩ := i.hmk l' hl1
      refine ⟨by rw [kd _ (by rw [h1]; omega)]; exact h1, ?_⟩
      rw [too _ (nh _ (by rw [h1]; omega)), if_neg (fun e2 => e (i.inj l' o hl1 ho e2))]; exact h2
  · have h1 := kl l' hl'
    have h2 := kl l2 hl2
    by_cases e1 : l' = o
    · by_cases e2 : l2 = o
      · rw [e1, e2]
      · rw [e1, hmo, hmx _ e2] at e
        exact absurd e.symm (nh _ (by rw [(i.hmk l2 h2).1]; omega))
    · by_cases e2 : l2 = o
      · rw [e2, hmo, hmx _ e1] at e
        exact absurd e (nh _ (by rw [(i.hmk l' h1).1]; omega))
      · rw [hmx _ e1, hmx _ e2] at e
        exact i.inj l' l2 h1 h2 e
  · by_cases e1 : a = h
    · rw [e1, toh] at e; cases e
    · have ha' : s.kd a = 3 := by have h9 : upd s.kd h 3 a = 3 := ha; rwa [upd_ne _ _ e1] at h9
      rw [too _ e1] at e
      split at e
      · cases e; rw [kd _ (by rw [hl3]; omega)]; exact hl3
      · have h3 := i.tok a a' ha' e
        rw [kd _ (by rw [h3]; omega)]; exact h3
  · have hl1 := kl l' hl'
    by_cases e1 : l' = o
    · rw [e1, sqo]; trivial
    · by_cases e2 : l' = l
      · rw [e2, sql, linked_append]
        have hA := i.lnk l hl
        have hB := i.lnk o ho
        have hnA := i.nodup l hl
        have hnB := i.nodup o ho
        constructor
        · rcases snoc_cases (s.sq l) with h0 | ⟨a0, z, h0⟩
          · rw [h0]; trivial
          · rw [h0] at hA hnA ⊢
            rw [linked_append, linked_one] at hA ⊢
            have ez : (s.splice l o h).nd z = { s.nd z with next := hd (s.sq o) none } := by rw [nd, if_pos (by rw [h0, lst_snoc])]
            refine ⟨hA.1.congr fun y hy => ?_, by rw [ez]; exact hA.2.1, by rw [ez]⟩
            have hyz : y ≠ z := by intro e; subst e; exact (List.nodup_append.1 hnA).2.2 y hy y (by simp) rfl
            rw [nd, if_neg (by rw [h0, lst_snoc]; intro e; cases e; exact hyz rfl), if_neg (fun h => hdis y (by rw [h0]; simp [hy]) (hd_mem h))]
            exact ⟨rfl, rfl⟩
        · cases h0 : s.sq o with
          | nil => trivial
          | cons z b =>
            rw [h0] at hB hnB
            obtain ⟨h1, h2, h3⟩ := hB
            have hzl : z ∉ s.sq l := fun hm => hdis z hm (by rw [h0]; simp)
            have ez : (s.splice l o h).nd z = { s.nd z with prev := lst none (s.sq l) } := by rw [nd, if_neg (fun h => hzl (lst_mem h)), if_pos (by rw [h0]; rfl)]
            refine ⟨by rw [ez], by rw [ez]; exact h2, h3.congr fun y hy => ?_⟩
            have hyl : y ∉ s.sq l := fun hm => hdis y hm (by rw [h0]; simp [hy])
            have hyz : z ≠ y := by intro e; subst e; exact (List.nodup_cons.1 hnB).1 hy
            rw [nd, if_neg (fun h => hyl (lst_mem h)), if_neg (by rw [h0]; simpa [hd] using hyz)]
            exact ⟨rfl, rfl⟩
      · rw [sqx _ e2 e1]
        refine (i.lnk l' hl1).congr fun y hy => ?_
        rw [other y (fun hm => e2 (i.one hl1 hl hy hm)) (fun hm => e1 (i.one hl1 ho hy hm))]
        exact ⟨rfl, rfl⟩
  · have hl1 := kl l' hl'
    have step : ∀ l2, s.kd l2 = 1 → y ∈ s.sq l2 → (if s.hm l2 = s.hm o then s.hm l else s.hm l2) = (s.splice l o h).hm l' → (s.splice l o h).kd y = 2 ∧ ∃ h', ∃ d, ((s.splice l o h).nd y).home = some h' ∧ (s.splice l o h).kd h' = 3 ∧ Leads (s.splice l o h).to d h' ((s.splice l o h).hm l') := fun l2 h2 hm e => by
      obtain ⟨h1, a, d, h3, h4, h5⟩ := i.mem l2 y h2 hm
      obtain ⟨d', h6⟩ := lead h4 h5
      rw [e] at h6
      exact ⟨by rw [kd _ (by rw [h1]; omega)]; exact h1, a, d', by rw [home]; exact h3, by rw [kd _ (by rw [h4]; omega)]; exact h4, h6⟩
    by_cases e1 : l' = o
    · rw [e1, sqo] at hy; cases hy
    · by_cases e2 : l' = l
      · rw [e2, sql, List.mem_append] at hy
        rw [e2]
        rw [e2] at step
        rcases hy with hy | hy
        · exact step l hl hy (by rw [if_neg (Ne.symm hne), hmx _ hlo])
        · exact step o ho hy (by rw [if_pos rfl, hmx _ hlo])
      · rw [sqx _ e2 e1] at hy
        exact step l' hl1 hy (by rw [if_neg (fun e => e1 (i.inj l' o hl1 ho e)), hmx _ e1])
  · have hl1 := kl l' hl'
    by_cases e1 : l' = o
    · rw [e1, sqo]; exact List.nodup_nil
    · by_cases e2 : l' = l
      · rw [e2, sql, List.nodup_append]
        exact ⟨i.nodup l hl, i.nodup o ho, fun y hy z hz e => hdis y hy (by rw [e]; exact hz)⟩
      · rw [sqx _ e2 e1]; exact i.nodup l' hl1
  · have hy' : s.kd y = 2 := by
      have h9 : upd s.kd h 3 y = 2 := hy
      by_cases e : y = h
      · rw [e, upd_same] at h9; cases h9
      · rwa [upd_ne _ _ e] at h9
    rcases i.own y hy' with h1 | ⟨l', h1, h2⟩
    · exact .inl (by rw [home]; exact h1)
    · right
      by_cases e1 : l' = o
      · exact ⟨l, by rw [kd _ (by rw [hl]; omega)]; exact hl, by rw [sql, List.mem_append]; rw [e1] at h2; exact .inr h2⟩
      · by_cases e2 : l' = l
        · exact ⟨l, by rw [kd _ (by rw [hl]; omega)]; exact hl, by rw [sql, List.mem_append]; rw [e2] at h2; exact .inl h2⟩
        · exact ⟨l', by rw [kd _ (by rw [h1]; omega)]; exact h1, by rw [sqx _ e2 e1]; exact h2⟩
end Go.Proofs.Ytbikganlloopbaa
