/-
  What stands here: a region that draws its order, inside a round of a range-over-func loop, walked in the order of its text. Under the condition of the same laws outside, and that the region has no defer.
-/
import Derived.Test.YthamdbfilpegjaaDoorTextLast
import Derived.OrdersIn
namespace Go.Proofs.YthamdbfilpegjaaDoor
set_option linter.unusedVariables false
set_option linter.unusedSimpArgs false
open Go Go.RowKit

/-- a fence that bars nothing -/
structure Wide (F : Fence) : Prop where
  fn : ∀ f, F.fn f
  depth : F.depth = none
  alive : F.alive = false
theorem wide_wide : Wide Fence.wide := ⟨fun _ => trivial, rfl, rfl⟩
theorem wide_round (l : Nat) : Wide (Fence.wide.inRound l) := ⟨fun _ => trivial, rfl, rfl⟩
section
variable {F : Fence} {n : Nat} {P : Program} {ops : Array Oper} {Q : Exit → Act → World → Prop} {md : Region.Mode}
theorem Wide.fenced (h : Wide F) (m : Machine) : m.fenced P F := by
  intro g _
  refine ⟨fun h' => ?_, Or.inl (h.fn _), fun f _ => h.fn f, fun d hd => ?_⟩
  · rw [h.alive] at h'; cases h'
  · rw [h.depth] at hd; cases hd
theorem Wide.room (h : Wide F) (k : Nat) : F.room k := fun d hd => by rw [h.depth] at hd; cases hd
theorem Wide.steps (h : Wide F) {m m' : Machine} : StepsIn (Machine.fenced P F) P m m' ↔ Steps P m m' :=
  ⟨StepsIn.steps, fun hs => (StepsIn.of_steps hs).mono fun m _ => h.fenced m⟩
theorem Wide.comes (h : Wide F) {m m' : Machine} {e : Ending} : ComesIn (Machine.fenced P F) P m m' e ↔ Comes P m m' e := by
  cases e with
  | returned v => exact h.steps
  | panicked chain => exact h.steps
  | outgrown => exact Iff.rfl
theorem Wide.calls (h : Wide F) {f : FuncId} {args : Array Value} {w : World} {R : Ending → World → Prop} : CallsIn F n P f args w R ↔ Calls P f args w R :=
  ⟨fun hc cs => let ⟨e, w', fr, r, s, x⟩ := hc.2 cs (h.room _); ⟨e, w', fr, r, h.comes.1 s, x⟩,
   fun hc => ⟨h.fn f, fun cs _ => let ⟨e, w', fr, r, s, x⟩ := hc cs; ⟨e, w', fr, r, h.comes.2 s, x⟩⟩⟩
theorem Wide.rows (h : Wide F) {row : String} {args : Array Value} {w : World} {R : Value → World → Prop} (hr : Rows P row args w R) : RowsIn F n P row args w R :=
  fun c cs _ => let ⟨v, w', r, s⟩ := hr c cs; ⟨v, w', r, h.steps.2 s⟩
theorem Wide.oper (h : Wide F) {o : Oper} (hd : ∀ c, o.op ≠ .defer c) {a : Act} {w : World} {K : Act → World → Prop} (hh : o.wp P a w K Q) : o.wpIn F n P a w K Q := by
  refine ⟨fun f _ => h.fn f, ?_⟩
  rw [Oper.semAt_eq _ _ _ hd]
  unfold Oper.wp at hh
  have hnp : ∀ {p : Prop}, (F.depth.isSome = true → p) := fun {p} hs => by rw [h.depth] at hs; cases hs
  generalize (execOp a.eval o).run P w = r at *
  cases r with
  | ok x w' =>
    cases x <;> simp only [Oper.upon, Oper.uponIn] at hh ⊢ <;>
      first
        | exact hh
        | exact ⟨hnp, h.calls.2 hh⟩
        | exact ⟨hnp, h.rows hh⟩
  | halt x w' => cases x <;> simp only [Oper.upon, Oper.uponIn] at hh ⊢ <;> exact hh
theorem Wide.op (h : Wide F) (hn : OnlyNormal Q) {i : Nat} (hd : ∀ o, ops[i]? = some o → ∀ c, o.op ≠ .defer c) {a : Act} {w : World} {K : Act → World → Prop} (hh : wpOp P ops Q i K a w) : wpOpIn F n P ops Q i K a w := by
  unfold wpOp at hh
  unfold wpOpIn
  cases ho : ops[i]? with
  | none => rw [ho] at hh; exact hh
  | some o =>
    rw [ho] at hh
    simp only at hh ⊢
    split
    · rename_i hw
      rw [if_pos hw] at hh
      rcases hh with hh | ⟨_, hl⟩
      · exact h.oper (hd o ho) hh
      · exact (hn.lets hl).elim
    · rename_i hw
      rw [if_neg hw] at hh
      exact ⟨fun f _ => h.fn f, hh⟩
theorem Wide.any (h : Wide F) (hn : OnlyNormal Q) (hd : ∀ (i : Nat) o, ops[i]? = some o → ∀ c, o.op ≠ .defer c) : ∀ (k : Nat) (listed : Array Bool) (a : Act) (w : World), wpAny P md ops Q k listed a w → wpAnyIn F n P md ops Q k listed a w
  | 0, _, _, _, hh => hh
  | k + 1, listed, a, w, hh => ⟨hh.1, fun i hi => wpOpIn_mono (fun a w => h.any hn hd k _ a w) (h.op hn (hd i) (hh.2 i hi))⟩

def noDefer (l : List Oper) : Bool := l.all fun o => match o.op with | .defer _ => false | _ => true
theorem noDefer_at {l : List Oper} (h : noDefer l = true) (i : Nat) (o : Oper) (ho : l.toArray[i]? = some o) (c : Call) : o.op ≠ .defer c := by
  intro e
  have hm : o ∈ l := by rw [List.getElem?_toArray] at ho; exact List.mem_of_getElem? ho
  have := List.all_eq_true.1 h o hm
  rw [e] at this
  cases this
theorem wpIn_of_any (h : Wide F) {id : Nat} {l : List Oper} {a : Act} {w : World} (hm : P.follows .mixedOrders = true) (hd : noDefer l = true)
    (hh : wpAny P .any l.toArray (Exit.then (Q .normal) (fun _ _ _ => False)) l.toArray.size (Array.replicate l.toArray.size false) a w.drew) : (Code.region id l.toArray true).wpIn F n P Q a w :=
  wpIn_mono (Q := Exit.then (Q .normal) (fun _ _ _ => False)) (wpIn_region_any hm (h.any (only_then _) (noDefer_at hd) _ _ _ _ hh)) (fun e a w hq => by cases e <;> first | exact hq | exact hq.elim)

theorem wpIn_region_text {id : Nat} {l : List Oper} {a : Act} {w : World} (h : Wide F) (bts : List TypeId × List TypeId) (ds : List Nat) (hm : P.follows .mixedOrders = true) (hd : noDefer l = true) (hk : chkRegion P bts l.toArray (befs l) = true) (hc : CellsB ds w) {sl : List (List Oper)} (hsl : segs bts l = sl)
    (hh : wpSegs P ds w l.toArray (Exit.then (Q .normal) (fun _ _ _ => False)) sl a w.drew) : (Code.region id l.toArray true).wpIn F n P Q a w :=
  wpIn_of_any h hm hd (any_region_text bts ds hk hc hsl hh)
theorem wpIn_region_end {id : Nat} {L : List Oper} {z : Oper} {a : Act} {w : World} (h : Wide F) (bts : List TypeId × List TypeId) (ds : List Nat) (hL : L.getLast? = some z) (hm : P.follows .mixedOrders = true) (hd : noDefer L = true) (hk : chkRegion P bts L.toArray (befs L) = true)
    (hz : ((List.range L.dropLast.length).all fun p => ((befs L).getD L.dropLast.length 0).testBit p) = true) (hc : CellsB ds w) {sl : List (List Oper)} (hsl : segs bts L.dropLast = sl)
    (hh : wpSegs P ds w L.toArray (Exit.then (fun a w => wpList P L.toArray (Exit.then (fun a w => Q .normal a w) (fun _ _ _ => False)) [z] a w) (fun _ _ _ => False)) sl a w.drew) : (Code.region id L.toArray true).wpIn F n P Q a w :=
  wpIn_of_any h hm hd (any_region_end bts ds hL hk hz hc hsl hh)
theorem wpIn_region_two {id : Nat} {L : List Oper} {a : Act} {w : World} (h : Wide F) (bts : List TypeId × List TypeId) (n1 : Nat) (ds ds' : List Nat) (hm : P.follows .mixedOrders = true) (hd : noDefer L = true) (hk : chkRegion P bts L.toArray (befs L) = true)
    (hz : ((List.range' n1 (L.length - n1)).all fun z => (List.range n1).all fun p => ((befs L).getD z 0).testBit p) = true) (hn1 : n1 ≤ L.length) (hc : CellsB ds w) {sl sl' : List (List Oper)} (hsl : segs bts (L.take n1) = sl) (hsl' : segs bts (L.drop n1) = sl')
    (hh : wpSegs P ds w L.toArray (Exit.then (fun a w => CellsB ds' w ∧ wpSegs P ds' w L.toArray (Exit.then (Q .normal) (fun _ _ _ => False)) sl' a w) (fun _ _ _ => False)) sl a w.drew) : (Code.region id L.toArray true).wpIn F n P Q a w :=
  wpIn_of_any h hm hd (any_region_two bts n1 ds ds' hk hz hn1 hc hsl hsl' hh)
end
end Go.Proofs.YthamdbfilpegjaaDoor
