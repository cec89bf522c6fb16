/-
  What stands here: a call whose code holds communication that never waits, walked piece by piece: each piece by the kit's own walk, the communication by the machine's step. Under no condition.
-/
import Derived.Test.YtbikganlloopbaaLib
import Derived.Conc.LoneSelect
import Derived.Conc.LoneSelectN
namespace Go.Proofs.Ytbikganlloopbaa
set_option linter.unusedVariables false
set_option linter.unusedSimpArgs false
open Go.RowKit Go.Proofs
open Go.Conc

/-- from here the call comes to an end of which R holds -/
def Fin (P : Program) (f : FuncId) (R : Ending → World → Prop) (cs : List Frame) (m : Machine) : Prop :=
  ∃ e w' fr, R e w' ∧ Comes P m (lone fr cs w') e ∧ fr.fn = f ∧ fr.leaving P w' e
/-- a plain call's frame -/
abbrev fb (f : FuncId) : Frame := { (default : Frame) with fn := f, kind := .normal }
section
variable {P : Program} {f : FuncId} {fn : Func} {R : Ending → World → Prop} {cs : List Frame} {a : Act} {w : World} {k : List Item}
theorem calls_of_fin {c : Code} {args : Array Value} (hf : P.funcs[f]? = some fn) (hb : fn.body = some c)
    (h : ∀ cs, Fin P f R cs (lone ((fb f).at { tmps := args ++ Array.replicate (fn.ntmps - args.size) undef, defers := [] } [.code c]) cs w)) : Calls P f args w R := by
  intro cs
  have henter : Frame.enter P f args .normal = (fb f).at { tmps := args ++ Array.replicate (fn.ntmps - args.size) undef, defers := [] } [.code c] := by
    simp [Frame.enter, Frame.at, hf, hb]
  rw [henter]
  exact h cs
theorem Fin.step {m m' : Machine} (hs : step P m = .next m') (h : Fin P f R cs m') : Fin P f R cs m := by
  obtain ⟨e, w', fr, h1, h2, h3⟩ := h
  exact ⟨e, w', fr, h1, .of_steps (.one hs) h2, h3⟩
theorem Fin.steps {m m' : Machine} (hs : Steps P m m') (h : Fin P f R cs m') : Fin P f R cs m := by
  obtain ⟨e, w', fr, h1, h2, h3⟩ := h
  exact ⟨e, w', fr, h1, .of_steps hs h2, h3⟩
theorem Fin.seq {x y : Code} (h : Fin P f R cs (lone ((fb f).at a (.code x :: .code y :: k)) cs w)) : Fin P f R cs (lone ((fb f).at a (.code (.seq x y) :: k)) cs w) := h.step step_seq
theorem Fin.block {id : Nat} {c : Code} (h : Fin P f R cs (lone ((fb f).at a (.code c :: .inBlock id :: k)) cs w)) : Fin P f R cs (lone ((fb f).at a (.code (.block id c) :: k)) cs w) := h.step step_block
theorem Fin.inBlock {id : Nat} (h : Fin P f R cs (lone ((fb f).at a k) cs w)) : Fin P f R cs (lone ((fb f).at a (.inBlock id :: k)) cs w) := h.step step_inBlock
theorem Fin.loop {c : Code} (h : Fin P f R cs (lone ((fb f).at a (.code c :: .inLoop c :: k)) cs w)) : Fin P f R cs (lone ((fb f).at a (.code (.loop c) :: k)) cs w) := h.step step_loop
theorem Fin.inLoop {c : Code} (h : Fin P f R cs (lone ((fb f).at a (.code c :: .inLoop c :: k)) cs w)) : Fin P f R cs (lone ((fb f).at a (.inLoop c :: k)) cs w) := h.step step_inLoop
theorem Fin.skip (h : Fin P f R cs (lone ((fb f).at a k) cs w)) : Fin P f R cs (lone ((fb f).at a (.code .skip :: k)) cs w) := h.step step_skip
theorem Fin.exit {id : Nat} {k' : List Item} (hk : exitTo id k = some k') (h : Fin P f R cs (lone ((fb f).at a k') cs w)) : Fin P f R cs (lone ((fb f).at a (.code (.exit id) :: k)) cs w) := h.step (step_exit hk)
theorem Fin.cond {c : Operand} {x y : Code} {t : Bool} (hc : a.eval c = .bool t) (h : Fin P f R cs (lone ((fb f).at a (.code (if t then x else y) :: k)) cs w)) : Fin P f R cs (lone ((fb f).at a (.code (.cond c x y) :: k)) cs w) := h.step (step_cond hc)
theorem fin_of_leave {m : Machine} {e : Exit} {w' : World} {a' : Act} {todo : List Item} (hf : P.funcs[f]? = some fn) (hq : bodyPost P fn R e a' w') (harr : Arrives P m (fb f) todo cs e a' w') (hn : e ≠ .normal) : Fin P f R cs m := by
  cases e with
  | normal => exact absurd rfl hn
  | ret =>
    obtain ⟨hd, v, hr, hR⟩ := hq
    obtain ⟨todo', hs⟩ := harr
    exact ⟨.returned v, w', _, hR, hs, rfl, rfl, hd, rfl, fn, hf, hr⟩
  | panic chain =>
    obtain ⟨hd, hR⟩ := hq
    obtain ⟨todo', hs⟩ := harr
    exact ⟨.panicked chain, w', _, hR, hs, rfl, rfl, hd, fn, hf⟩
  | exit id => exact hq.elim
  | goto l => exact hq.elim
  | outgrown => exact ⟨.outgrown, w', fb f, hq, harr.resolve_left (by simp), rfl, trivial⟩
/-- a piece of code, by the kit's walk -/
theorem Fin.code {c : Code} (hf : P.funcs[f]? = some fn) (h : ∀ K : Act → World → Prop, (∀ a' w', Fin P f R cs (lone ((fb f).at a' k) cs w') → K a' w') → c.wp P (Exit.then K (bodyPost P fn R)) a w) : Fin P f R cs (lone ((fb f).at a (.code c :: k)) cs w) := by
  obtain ⟨e, a', w', hq, harr⟩ := h (fun a' w' => Fin P f R cs (lone ((fb f).at a' k) cs w')) (fun _ _ h => h) (fb f) k cs
  cases e with
  | normal => exact Fin.steps harr hq
  | exit id => exact fin_of_leave (e := .exit id) hf hq harr (by simp)
  | goto l => exact fin_of_leave (e := .goto l) hf hq harr (by simp)
  | ret => exact fin_of_leave (e := .ret) hf hq harr (by simp)
  | panic ch => exact fin_of_leave (e := .panic ch) hf hq harr (by simp)
  | outgrown => exact fin_of_leave (e := .outgrown) hf hq harr (by simp)
/-- the last piece -/
theorem Fin.last {c : Code} (hf : P.funcs[f]? = some fn) (h : c.wp P (bodyPost P fn R) a w) : Fin P f R cs (lone ((fb f).at a (.code c :: [])) cs w) := by
  obtain ⟨e, a', w', hq, harr⟩ := h (fb f) [] cs
  cases e with
  | normal =>
    obtain ⟨hd, v, hr, hR⟩ := hq
    exact ⟨.returned v, w', _, hR, Steps.trans harr (.one step_end), rfl, rfl, hd, rfl, fn, hf, hr⟩
  | exit id => exact fin_of_leave (e := .exit id) hf hq harr (by simp)
  | goto l => exact fin_of_leave (e := .goto l) hf hq harr (by simp)
  | ret => exact fin_of_leave (e := .ret) hf hq harr (by simp)
  | panic ch => exact fin_of_leave (e := .panic ch) hf hq harr (by simp)
  | outgrown => exact fin_of_leave (e := .outgrown) hf hq harr (by simp)
/-- the end of the code -/
theorem Fin.stop (hf : P.funcs[f]? = some fn) (h : bodyPost P fn R .normal a w) : Fin P f R cs (lone ((fb f).at a []) cs w) := by
  obtain ⟨hd, v, hr, hR⟩ := h
  exact ⟨.returned v, w, _, hR, .one step_end, rfl, rfl, hd, rfl, fn, hf, hr⟩
theorem Fin.region {id : Nat} {ops : Array Oper} (h : Fin P f R cs (lone ((fb f).at a (.inRegion ops (List.range ops.size) :: k)) cs w)) : Fin P f R cs (lone ((fb f).at a (.code (.region id ops false) :: k)) cs w) := h.step step_region
theorem Fin.rend {ops : Array Oper} (h : Fin P f R cs (lone ((fb f).at a k) cs w)) : Fin P f R cs (lone ((fb f).at a (.inRegion ops [] :: k)) cs w) := h.step step_region_end
/-- one operation that yields a value -/
theorem Fin.val {ops : Array Oper} {i : Nat} {rest : List Nat} {o : Oper} {v : Value} (ho : ops[i]? = some o) (hw : Region.wanted o (yielded ops a.tmps) = true) (hr : (execOp a.eval o).run P w = .ok (.value v) w)
    (h : Fin P f R cs (lone ((fb f).at (a.put o.dst v) (.inRegion ops rest :: k)) cs w)) : Fin P f R cs (lone ((fb f).at a (.inRegion ops (i :: rest) :: k)) cs w) := by
  refine h.step (step_lone_go ?_)
  have hfin : ((fb f).at a (.inRegion ops (i :: rest) :: k)).finish v = (fb f).at (a.put o.dst v) (.inRegion ops rest :: k) := by rw [Frame.finish_at, ho]; rfl
  rw [stepG_op ho hw, ← hfin]
  simp [stepG.apply, hr]
/-- the rest of a region, by the kit's walk -/
theorem Fin.ops {ops : Array Oper} {l : List Nat} (hf : P.funcs[f]? = some fn) (h : ∀ K : Act → World → Prop, (∀ a' w', Fin P f R cs (lone ((fb f).at a' k) cs w') → K a' w') → wpOps P ops (Exit.then K (bodyPost P fn R)) l a w) : Fin P f R cs (lone ((fb f).at a (.inRegion ops l :: k)) cs w) := by
  obtain ⟨e, a', w', hq, harr⟩ := wp_ops l a w (h (fun a' w' => Fin P f R cs (lone ((fb f).at a' k) cs w')) (fun _ _ h => h)) (fb f) k cs
  cases e with
  | normal => exact Fin.steps harr hq
  | exit id => exact fin_of_leave (e := .exit id) hf hq harr (by simp)
  | goto l => exact fin_of_leave (e := .goto l) hf hq harr (by simp)
  | ret => exact fin_of_leave (e := .ret) hf hq harr (by simp)
  | panic ch => exact fin_of_leave (e := .panic ch) hf hq harr (by simp)
  | outgrown => exact fin_of_leave (e := .outgrown) hf hq harr (by simp)
/-- a loop, round by round -/
theorem Fin.rounds {c : Code} (I : Act → World → Prop) (μ : Act → Nat) (h0 : I a w)
    (round : ∀ a w, I a w → (∀ a' w', I a' w' → μ a' < μ a → Fin P f R cs (lone ((fb f).at a' (.inLoop c :: k)) cs w')) → Fin P f R cs (lone ((fb f).at a (.code c :: .inLoop c :: k)) cs w)) : Fin P f R cs (lone ((fb f).at a (.code c :: .inLoop c :: k)) cs w) := by
  have key : ∀ n a w, μ a = n → I a w → Fin P f R cs (lone ((fb f).at a (.code c :: .inLoop c :: k)) cs w) := by
    intro n
    induction n using Nat.strongRecOn with
    | _ n ih =>
      intro a w hn hI
      exact round a w hI fun a' w' hI' hlt => Fin.inLoop (ih (μ a') (hn ▸ hlt) a' w' rfl hI')
  exact key _ a w rfl h0
section comm
variable {ops : Array Oper} {i : Nat} {rest : List Nat} {o : Oper} {c cap s r : Nat} {buf : Array Value} {z v : Value} {tm closed : Bool}
theorem fin_put (ho : ops[i]? = some o) (u : Value) : ((fb f).at a (.inRegion ops (i :: rest) :: k)).finish u = (fb f).at (a.put o.dst u) (.inRegion ops rest :: k) := by rw [Frame.finish_at, ho]; rfl
/-- a send with room -/
theorem Fin.send (ho : ops[i]? = some o) (hw : Region.wanted o (yielded ops a.tmps) = true) (hr : (execOp a.eval o).run P w = .ok (.comm #[scase c v z] true .send) w) (hc : w.heap[c]? = some (.chan cap buf false s r tm)) (hroom : buf.size < cap)
    (h : Fin P f R cs (lone ((fb f).at (a.put o.dst undef) (.inRegion ops rest :: k)) cs (w.setChan c cap (buf.push v) false (s + 1) r tm))) : Fin P f R cs (lone ((fb f).at a (.inRegion ops (i :: rest) :: k)) cs w) := by
  refine h.step ?_
  have := step_lone_send_room (P := P) (stepG_comm (main := true) (b := fb f) (a := a) (k := k) (cs := cs) (rest := rest) ho hw (by simp) hr) hc hroom
  rw [fin_put ho] at this
  exact this
/-- a receive -/
theorem Fin.recv (ho : ops[i]? = some o) (hw : Region.wanted o (yielded ops a.tmps) = true) (hr : (execOp a.eval o).run P w = .ok (.comm #[rcase c z] true (.recv false)) w) (hc : w.heap[c]? = some (.chan cap buf closed s r tm)) (hsome : 0 < buf.size)
    (h : Fin P f R cs (lone ((fb f).at (a.put o.dst (buf.getD 0 undef)) (.inRegion ops rest :: k)) cs (w.setChan c cap (buf.extract 1 buf.size) closed s (r + 1) tm))) : Fin P f R cs (lone ((fb f).at a (.inRegion ops (i :: rest) :: k)) cs w) := by
  refine h.step ?_
  have := step_lone_recv_buf (P := P) false (stepG_comm (main := true) (b := fb f) (a := a) (k := k) (cs := cs) (rest := rest) ho hw (by simp) hr) hc hsome
  rw [fin_put ho] at this
  exact this
/-- a select of one receive, which may be made -/
theorem Fin.sel_recv (ho : ops[i]? = some o) (hw : Region.wanted o (yielded ops a.tmps) = true) (hr : (execOp a.eval o).run P w = .ok (.comm #[rcase c z] false .select) w) (hc : w.heap[c]? = some (.chan cap buf closed s r tm)) (hsome : 0 < buf.size)
    (h : Fin P f R cs (lone ((fb f).at (a.put o.dst (.tuple #[goInt 0, .bool true, buf.getD 0 undef])) (.inRegion ops rest :: k)) cs (w.setChan c cap (buf.extract 1 buf.size) closed s (r + 1) tm))) : Fin P f R cs (lone ((fb f).at a (.inRegion ops (i :: rest) :: k)) cs w) := by
  refine h.step ?_
  have := step_lone_select_recv_buf (P := P) (stepG_comm (main := true) (b := fb f) (a := a) (k := k) (cs := cs) (rest := rest) ho hw (by simp) hr) hc hsome
  rw [fin_put ho] at this
  exact this
/-- .. which may not -/
theorem Fin.sel_recv_none (ho : ops[i]? = some o) (hw : Region.wanted o (yielded ops a.tmps) = true) (hr : (execOp a.eval o).run P w = .ok (.comm #[rcase c z] false .select) w) (hc : w.heap[c]? = some (.chan cap #[] false s r tm))
    (h : Fin P f R cs (lone ((fb f).at (a.put o.dst (.tuple #[goInt (-1), .bool false, z])) (.inRegion ops rest :: k)) cs w)) : Fin P f R cs (lone ((fb f).at a (.inRegion ops (i :: rest) :: k)) cs w) := by
  refine h.step ?_
  have := step_lone_select_default (P := P) (stepG_comm (main := true) (b := fb f) (a := a) (k := k) (cs := cs) (rest := rest) ho hw (by simp) hr) hc
  rw [fin_put ho] at this
  exact this
/-- a select of one send, which may be made -/
theorem Fin.sel_send (ho : ops[i]? = some o) (hw : Region.wanted o (yielded ops a.tmps) = true) (hr : (execOp a.eval o).run P w = .ok (.comm #[scase c v z] false .select) w) (hc : w.heap[c]? = some (.chan cap buf false s r tm)) (hroom : buf.size < cap)
    (h : Fin P f R cs (lone ((fb f).at (a.put o.dst (.tuple #[goInt 0, .bool false])) (.inRegion ops rest :: k)) cs (w.setChan c cap (buf.push v) false (s + 1) r tm))) : Fin P f R cs (lone ((fb f).at a (.inRegion ops (i :: rest) :: k)) cs w) := by
  refine h.step ?_
  have := step_lone_select_send_room (P := P) (stepG_comm (main := true) (b := fb f) (a := a) (k := k) (cs := cs) (rest := rest) ho hw (by simp) hr) hc hroom
  rw [fin_put ho] at this
  exact this
/-- .. which may not -/
theorem Fin.sel_send_full (ho : ops[i]? = some o) (hw : Region.wanted o (yielded ops a.tmps) = true) (hr : (execOp a.eval o).run P w = .ok (.comm #[scase c v z] false .select) w) (hc : w.heap[c]? = some (.chan cap buf false s r tm)) (hfull : cap ≤ buf.size)
    (h : Fin P f R cs (lone ((fb f).at (a.put o.dst (.tuple #[goInt (-1), .bool false])) (.inRegion ops rest :: k)) cs w)) : Fin P f R cs (lone ((fb f).at a (.inRegion ops (i :: rest) :: k)) cs w) := by
  refine h.step ?_
  have := step_lone_select_send_full (P := P) (stepG_comm (main := true) (b := fb f) (a := a) (k := k) (cs := cs) (rest := rest) ho hw (by simp) hr) hc hfull
  rw [fin_put ho] at this
  exact this
end comm
end
/-- a channel's block -/
def Chn (w : World) (c cap : Nat) (buf : Array Value) : Prop := ∃ s r, w.heap[c]? = some (.chan cap buf false s r false)
theorem Chn.lt {w : World} {c cap : Nat} {buf : Array Value} (h : Chn w c cap buf) : c < w.heap.size := by obtain ⟨s, r, h⟩ := h; exact lt_of_block h
theorem Chn.kept {S : Nat → Prop} {w w' : World} {c cap : Nat} {buf : Array Value} (h : Chn w c cap buf) (k : Kept S w w') (hn : ¬ S c) : Chn w' c cap buf := by
  have hl := h.lt
  obtain ⟨s, r, h⟩ := h
  exact ⟨s, r, (k.block c hl hn).trans h⟩
theorem kept_setChan {S : Nat → Prop} {a w : World} (h : Kept S a w) {c : Nat} (hc : c < a.heap.size → S c) (cap : Nat) (buf : Array Value) (cl : Bool) (s r : Nat) (tm : Bool) : Kept S a (w.setChan c cap buf cl s r tm) :=
  ⟨h.os, h.tape, h.output, by simpa [World.setChan] using h.size, fun j hj hn => by
    simp only [World.setChan]
    rw [Array.getElem?_setIfInBounds_ne (fun e => hn (by rw [← e]; exact hc (by rw [e]; exact hj)))]
    exact h.block j hj hn⟩
end Go.Proofs.Ytbikganlloopbaa
