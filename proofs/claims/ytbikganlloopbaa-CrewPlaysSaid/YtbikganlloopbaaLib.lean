/-
  What stands here: small laws on the memory of the model (a block of cells; which blocks a call may have turned). Under no condition.
-/
import Derived.Test.YtbikganlloopbaaProg
import Derived.WalkKit
import Derived.WalkLawsBesides
import Derived.WalkSpells
import Derived.Deep.QuietTactic
import Derived.Deep.LoopGhost
import Derived.BigQuiet
import Derived.Lib.Hide
import Derived.OpenShut
import Derived.RegionCalls
import Derived.Deep.RegionHeld3
namespace Go.Proofs.Ytbikganlloopbaa
set_option linter.unusedVariables false
set_option linter.unusedSimpArgs false
open Go.RowKit Go.Proofs

/-- block b is a row of cells that may be written -/
def Blk (w : World) (b : Nat) (c : Array Value) (t : TypeId) : Prop := w.heap[b]? = some (.cells c t (0, 0))

theorem Blk.cell {w : World} {b : Nat} {c : Array Value} {t : TypeId} (h : Blk w b c t) (i : Nat) : w.cell? ⟨b, i, none⟩ = c[i]? := by
  unfold Blk at h; simp [World.cell?, h]
theorem Blk.free {w : World} {b : Nat} {c : Array Value} {t : TypeId} (h : Blk w b c t) (i : Nat) : w.frozen? ⟨b, i, none⟩ = false := by
  unfold Blk at h; simp [World.frozen?, h]
theorem Blk.lt {w : World} {b : Nat} {c : Array Value} {t : TypeId} (h : Blk w b c t) : b < w.heap.size := lt_of_block h
theorem Blk.set {w : World} {b : Nat} {c : Array Value} {t : TypeId} (h : Blk w b c t) (i : Nat) (v : Value) : Blk (w.setCell ⟨b, i, none⟩ v) b (c.setIfInBounds i v) t := by
  have hlt := h.lt
  unfold Blk at *
  have h' : w.heap[b] = .cells c t (0, 0) := by simpa [Array.getElem?_eq_getElem hlt] using h
  show (w.heap.modify b _)[b]? = _
  rw [Array.getElem?_eq_getElem (by simpa using hlt), Array.getElem_modify_self, h']
  rfl
theorem Blk.other {w : World} {b : Nat} {c : Array Value} {t : TypeId} (h : Blk w b c t) {a : Addr} (ha : b ≠ a.block) (v : Value) : Blk (w.setCell a v) b c t := by
  unfold Blk at *; rw [Below.heap_setCell _ _ _ _ ha]; exact h
theorem Blk.alloc {w : World} {b : Nat} {c : Array Value} {t : TypeId} (h : Blk w b c t) (o : Obj) : Blk (w.alloc o) b c t := by
  have hlt := h.lt
  unfold Blk at *; rw [Below.heap_alloc _ _ _ hlt]; exact h
theorem Blk.new (w : World) (c : Array Value) (t : TypeId) : Blk (w.alloc (.cells c t)) w.heap.size c t := by
  unfold Blk; show (w.heap.push _)[_]? = _; simp
theorem Blk.drewN {w : World} {b : Nat} {c : Array Value} {t : TypeId} (h : Blk w b c t) (n : Nat) : Blk (w.drewN n) b c t := h
theorem Blk.drew {w : World} {b : Nat} {c : Array Value} {t : TypeId} (h : Blk w b c t) : Blk w.drew b c t := h
theorem Blk.below {w w' : World} {b B : Nat} {c : Array Value} {t : TypeId} (h : Blk w b c t) (hb : Below B w w') (hlt : b < B) : Blk w' b c t := by
  unfold Blk at *; rw [hb.block b hlt]; exact h

/-- all blocks but those in S are as they were; none has gone; the streams are as they were -/
structure Kept (S : Nat → Prop) (w w' : World) : Prop where
  os : w'.os = w.os
  tape : w'.tape = w.tape
  output : w'.output = w.output
  size : w.heap.size ≤ w'.heap.size
  block : ∀ k, k < w.heap.size → ¬ S k → w'.heap[k]? = w.heap[k]?

theorem Kept.refl (S : Nat → Prop) (w : World) : Kept S w w := ⟨rfl, rfl, rfl, Nat.le_refl _, fun _ _ _ => rfl⟩
theorem Kept.trans {S : Nat → Prop} {a b c : World} (h : Kept S a b) (k : Kept S b c) : Kept S a c :=
  ⟨k.os.trans h.os, k.tape.trans h.tape, k.output.trans h.output, Nat.le_trans h.size k.size,
   fun i hi hs => (k.block i (Nat.lt_of_lt_of_le hi h.size) hs).trans (h.block i hi hs)⟩
theorem Kept.mono {S T : Nat → Prop} {w w' : World} (h : Kept S w w') (hs : ∀ k, k < w.heap.size → S k → T k) : Kept T w w' :=
  ⟨h.os, h.tape, h.output, h.size, fun k hk hn => h.block k hk (fun hS => hn (hs k hk hS))⟩
theorem Kept.drewN {S : Nat → Prop} {a w : World} (h : Kept S a w) (n : Nat) : Kept S a (w.drewN n) := ⟨h.os, h.tape, h.output, h.size, h.block⟩
theorem Kept.drew {S : Nat → Prop} {a w : World} (h : Kept S a w) : Kept S a w.drew := ⟨h.os, h.tape, h.output, h.size, h.block⟩
theorem Kept.alloc {S : Nat → Prop} {a w : World} (h : Kept S a w) (o : Obj) : Kept S a (w.alloc o) :=
  h.trans ⟨rfl, rfl, rfl, by simp, fun k hk _ => Below.heap_alloc _ _ _ hk⟩
theorem Kept.setCell {S : Nat → Prop} {a w : World} (h : Kept S a w) {p : Addr} (hp : p.block < a.heap.size → S p.block) (u : Value) : Kept S a (w.setCell p u) :=
  ⟨h.os, h.tape, h.output, by simpa using h.size, fun k hk hn => by
    rw [Below.heap_setCell _ _ _ _ (fun e => hn (by rw [e] at hk ⊢; exact hp hk))]; exact h.block k hk hn⟩
/-- one step ahead, then another, whose blocks lie in S or are new -/
theorem Kept.step {S T : Nat → Prop} {a b c : World} (h : Kept S a b) (k : Kept T b c) (hT : ∀ i, i < a.heap.size → T i → S i) : Kept S a c :=
  ⟨k.os.trans h.os, k.tape.trans h.tape, k.output.trans h.output, Nat.le_trans h.size k.size,
   fun i hi hs => (k.block i (Nat.lt_of_lt_of_le hi h.size) (fun t => hs (hT i hi t))).trans (h.block i hi hs)⟩
theorem Kept.grown {S : Nat → Prop} {a w w' : World} {row : Option Nat} (h : Kept S a w) (hg : w.grownBy w' row) (hr : ∀ k, row = some k → k < a.heap.size → S k) : Kept S a w' :=
  ⟨hg.os.trans h.os, hg.tape.trans h.tape, hg.output.trans h.output, Nat.le_trans h.size hg.size, fun k hk hn => by
    rw [hg.block k (Nat.lt_of_lt_of_le hk h.size) (fun e => hn (hr k e.symm hk))]; exact h.block k hk hn⟩
theorem Blk.kept {w w' : World} {S : Nat → Prop} {b : Nat} {c : Array Value} {t : TypeId} (h : Blk w b c t) (hk : Kept S w w') (hn : ¬ S b) : Blk w' b c t := by
  have hlt := h.lt
  unfold Blk at *; rw [hk.block b hlt hn]; exact h
theorem Kept.below {S : Nat → Prop} {w w' : World} (h : Kept S w w') {B : Nat} (hB : B ≤ w.heap.size) (hS : ∀ k, S k → B ≤ k) : Below B w w' :=
  ⟨h.os, h.tape, h.output, h.size, fun k hk => h.block k (by omega) (fun s => by have := hS k s; omega)⟩
theorem kept_of_below {B : Nat} {w w' : World} (h : Below B w w') : Kept (B ≤ ·) w w' :=
  ⟨h.os, h.tape, h.output, h.size, fun k _ hn => h.block k (by omega)⟩
/-- what a call changed lies at or beyond B -/
theorem below_step {B : Nat} {a b c : World} {S : Nat → Prop} (h : Below B a b) (k : Kept S b c) (hB : B ≤ a.heap.size) (hS : ∀ i, i < B → ¬ S i) : Below B a c :=
  h.trans ⟨k.os, k.tape, k.output, k.size, fun i hi => k.block i (Nat.lt_of_lt_of_le (Nat.lt_of_lt_of_le hi hB) h.size) (hS i hi)⟩
/-- only block b may have turned -/
abbrev Only (b : Nat) (w w' : World) : Prop := Kept (· = b) w w'
theorem only_refl (b : Nat) (w : World) : Only b w w := Kept.refl _ _
theorem Only.put {b : Nat} {a w : World} (h : Only b a w) (i : Nat) (u : Value) : Only b a (w.setCell ⟨b, i, none⟩ u) := Kept.setCell h (fun _ => rfl) u
/-- no block has turned -/
abbrev Still (w w' : World) : Prop := Kept (fun _ => False) w w'
theorem still_refl (w : World) : Still w w := Kept.refl _ _
theorem Kept.of_still {S : Nat → Prop} {a b c : World} (h : Kept S a b) (k : Still b c) : Kept S a c := h.step k (fun _ _ f => f.elim)
theorem Still.then {S : Nat → Prop} {a b c : World} (h : Still a b) (k : Kept S b c) : Kept S a c := (h.mono (fun _ _ f => f.elim)).trans k
theorem Blk.still {w w' : World} {b : Nat} {c : Array Value} {t : TypeId} (h : Blk w b c t) (hk : Still w w') : Blk w' b c t := h.kept hk (fun f => f)
theorem Blk.only {w w' : World} {b d : Nat} {c : Array Value} {t : TypeId} (h : Blk w b c t) (hk : Only d w w') (hn : b ≠ d) : Blk w' b c t := h.kept hk hn
theorem below_only {B b : Nat} {a w w' : World} (h : Below B a w) (k : Only b w w') (hB : B ≤ a.heap.size) (hb : B ≤ b) : Below B a w' :=
  below_step h k hB (fun i hi e => by subst e; omega)
theorem below_still {B : Nat} {a w w' : World} (h : Below B a w) (k : Still w w') (hB : B ≤ a.heap.size) : Below B a w' := below_step h k hB (fun _ _ f => f)
theorem wrap64_in (n : Int) (h : -9223372036854775808 ≤ n) (h' : n ≤ 9223372036854775807) : wrap64 n = n := by unfold wrap64; omega

/-- A SLICE OF INTEGERS THAT CAME IN: it is nil; or it leads to a row of 'cap' cells, the numbers 'zs' (the first 'len' are its elements, the rest its spare room), each fitting its kind. -/
def IsRow (k : IntKind) (w : World) (a : Option Addr) (len cap : Nat) (zs : List Int) : Prop :=
  (a = none ∧ len = 0 ∧ cap = 0 ∧ zs = []) ∨
  ∃ x, a = some x ∧ len ≤ cap ∧ cap ≤ maxLen ∧ zs.length = cap ∧ (∀ i, i < zs.length → w.cell? (x.add i) = some (.int k (zs.getD i 0))) ∧ ∀ n ∈ zs, (Lit.int k n).wf = true

theorem lt_of_cell {w : World} {a : Addr} {v : Value} (h : w.cell? a = some v) : a.block < w.heap.size := by
  unfold World.cell? at h
  split at h
  · rename_i hb; exact lt_of_block hb
  · simp at h
theorem spot_of_cell {w : World} {a : Addr} {v : Value} (h : w.cell? a = some v) : a.spot = none := by
  unfold World.cell? at h
  split at h
  · cases hs : a.spot with
    | none => rfl
    | some _ => simp [hs] at h
  · simp at h
theorem addr_add (b o i : Nat) : (⟨b, o, none⟩ : Addr).add i = ⟨b, o + i, none⟩ := by
  unfold Addr.add; split <;> simp_all
theorem IsRow.at_ {k : IntKind} {w : World} {a : Option Addr} {len cap : Nat} {zs : List Int} (h : IsRow k w a len cap zs) (h0 : 0 < len) :
    ∃ b o, a = some ⟨b, o, none⟩ ∧ b < w.heap.size ∧ ∀ j, j < len → w.cell? ⟨b, o + j, none⟩ = some (.int k (zs.getD j 0)) := by
  rcases h with ⟨_, rfl, _⟩ | ⟨x, rfl, hl, _, hz, hc, _⟩
  · omega
  · have c0 := hc 0 (by omega)
    have hs : x.spot = none := by have := spot_of_cell c0; simpa [Addr.add] using this
    obtain ⟨b, o, s⟩ := x
    obtain rfl : s = none := hs
    exact ⟨b, o, rfl, by simpa [addr_add] using lt_of_cell c0, fun j hj => by simpa [addr_add] using hc j (by omega)⟩
theorem IsRow.le {k : IntKind} {w : World} {a : Option Addr} {len cap : Nat} {zs : List Int} (h : IsRow k w a len cap zs) : len ≤ maxLen := by
  rcases h with ⟨_, rfl, _⟩ | ⟨x, rfl, hl, hm, _⟩
  · exact Nat.zero_le _
  · omega
theorem IsRow.wf {k : IntKind} {w : World} {a : Option Addr} {len cap : Nat} {zs : List Int} (h : IsRow k w a len cap zs) : ∀ n ∈ zs, (Lit.int k n).wf = true := by
  rcases h with ⟨_, _, _, rfl⟩ | ⟨x, rfl, hl, hm, _, _, h⟩
  · simp
  · exact h

/-- THE ADDRESS OF AN ELEMENT, told without taking the slice's own address apart. -/
theorem run_indexAt_at {P : Program} {t : TypeId} {a : Option Addr} {b o len cap i s : Nat} (ha : a = some ⟨b, o, none⟩) (h : P.underlying t = some (.slice (P.elem t)))
    (hs : ∀ w, (sizeOf (P.elem t)).run P w = .ok s w) (hi : i < len) (w : World) :
    (Instr.indexAt t (.slice a len cap) (.int .i64 (i : Int))).run P w = .ok (.pointer (some ⟨b, o + i * s, none⟩)) w := by
  subst ha
  rw [run_indexAt_slice w t _ len cap .i64 i h, if_pos ⟨by omega, by omega⟩, hs w]
  simp only [Result.andThen, Int.toNat_natCast, addr_add]
theorem cells_of_cell {w : World} {a : Addr} {v : Value} (h : w.cell? a = some v) : ∃ c t f, w.heap[a.block]? = some (.cells c t f) := by
  unfold World.cell? at h
  split at h
  · exact ⟨_, _, _, ‹_›⟩
  · simp at h
theorem Blk.cells {w : World} {b : Nat} {c : Array Value} {t : TypeId} (h : Blk w b c t) : ∃ c t f, w.heap[b]? = some (.cells c t f) := ⟨_, _, _, h⟩
theorem Blk.newAt (w : World) (c : Array Value) (t : TypeId) {n : Nat} (h : w.heap.size = n) : Blk (w.alloc (.cells c t)) n c t := h ▸ Blk.new w c t
theorem Kept.put {b : Nat} {a w : World} (h : Kept (· = b) a w) (i : Nat) (u : Value) : Kept (· = b) a (w.setCell ⟨b, i, none⟩ u) := Kept.setCell h (fun _ => rfl) u
theorem Blk.set' {w : World} {b : Nat} {c c' : Array Value} {t : TypeId} {i : Nat} {v : Value} (h : Blk w b c t) (e : c.setIfInBounds i v = c') : Blk (w.setCell ⟨b, i, none⟩ v) b c' t := e ▸ h.set i v
theorem Blk.cast {w : World} {b : Nat} {c c' : Array Value} {t : TypeId} (h : Blk w b c t) (e : c = c') : Blk w b c' t := e ▸ h
/-- a function value that can be called: its number is a function with a body -/
def Callable (P : Program) (F : FuncId) : Prop := ∃ fn, P.funcs[F]? = some fn ∧ (fn.name == "runtime.NumGoroutine") = false ∧ fn.body.isNone = false

theorem run_callFunc {P : Program} {F : FuncId} (h : Callable P F) (args : Array Value) (w : World) : (callFunc F args).run P w = .ok (.enter F args) w := by
  obtain ⟨fn, h1, h2, h3⟩ := h
  simp only [callFunc, Sem.run_bind, run_program, Result.andThen_ok, h1, h2, h3, Bool.false_eq_true, if_false, Sem.run_pure]
end Go.Proofs.Ytbikganlloopbaa
