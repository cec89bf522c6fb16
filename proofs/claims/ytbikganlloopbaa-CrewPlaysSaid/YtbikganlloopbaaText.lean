/-
  What stands here: a region that draws its order, walked in the order of its text. Under the condition (a closed fact, asked of the region's own text) that any two of its operations that Go leaves unordered touch no temporary in common and that one of the two is mute: yields its value in whatever world.
-/
import Derived.Test.YtbikganlloopbaaLib
import Derived.OrdersIn
namespace Go.Proofs.Ytbikganlloopbaa
set_option linter.unusedVariables false
set_option linter.unusedSimpArgs false
open Go Go.RowKit

/-! ### Which operations are mute -/

/-- a reckoning that, where it goes well, goes so in whatever world -/
def Tame {α : Type} (P : Program) (e : Sem α) : Prop := ∀ w x w1, e.run P w = .ok x w1 → ∀ w', e.run P w' = .ok x w'
def Never {α : Type} (P : Program) (e : Sem α) : Prop := ∀ w x w1, e.run P w ≠ .ok x w1

section
variable {P : Program} {α β : Type}
theorem tame_pure (a : α) : Tame P (pure a : Sem α) := fun w x w1 h w' => by
  simp only [Sem.run_pure, Result.ok.injEq] at h ⊢; exact ⟨h.1, trivial⟩
theorem Never.tame {e : Sem α} (h : Never P e) : Tame P e := fun w x w1 hr => absurd hr (h w x w1)
theorem never_halt (h : Halt) : Never P (.halt h : Sem α) := fun w x w1 => by simp
theorem never_stuck (s : String) : Never P (stuck s : Sem α) := never_halt _
theorem never_unsupported (s : Unsupported) : Never P (unsupported s : Sem α) := never_halt _
theorem never_goPanic (v : Value) : Never P (goPanic v : Sem α) := never_halt _
theorem run_bind_ok {e : Sem α} {f : α → Sem β} {w w1 : World} {x : β} (h : (e >>= f).run P w = .ok x w1) : ∃ a w2, e.run P w = .ok a w2 ∧ (f a).run P w2 = .ok x w1 := by
  rw [Sem.run_bind] at h
  cases hr : e.run P w with
  | ok a w2 => rw [hr] at h; exact ⟨a, w2, rfl, h⟩
  | halt y w2 => rw [hr] at h; simp [Result.andThen] at h
theorem tame_bind {e : Sem α} {f : α → Sem β} (he : Tame P e) (hf : ∀ a, Tame P (f a)) : Tame P (e >>= f) := fun w x w1 h w' => by
  obtain ⟨a, w2, h1, h2⟩ := run_bind_ok h
  rw [Sem.run_bind, he _ _ _ h1 w']
  exact hf a _ _ _ h2 w'
theorem never_bind {e : Sem α} {f : α → Sem β} (hf : ∀ a, Never P (f a)) : Never P (e >>= f) := fun w x w1 h => by
  obtain ⟨a, w2, _, h2⟩ := run_bind_ok h
  exact hf a _ _ _ h2
theorem never_bind_left {e : Sem α} {f : α → Sem β} (he : Never P e) : Never P (e >>= f) := fun w x w1 h => by
  obtain ⟨a, w2, h1, _⟩ := run_bind_ok h
  exact he _ _ _ h1
theorem tame_program : Tame P program := fun w x w1 h w' => by
  simp only [run_program, Result.ok.injEq] at h ⊢; exact ⟨h.1, trivial⟩
theorem tame_underlying (t : TypeId) : Tame P (underlying t) := by
  unfold underlying
  refine tame_bind tame_program fun p => ?_
  split
  · exact tame_pure _
  · exact (never_stuck _).tame
theorem tame_typeInfo (t : TypeId) : Tame P (typeInfo t) := by
  unfold typeInfo
  refine tame_bind tame_program fun p => ?_
  split
  · exact tame_pure _
  · exact (never_stuck _).tame
theorem tame_sizeOf (t : TypeId) : Tame P (sizeOf t) := tame_bind (tame_typeInfo t) fun _ => tame_pure _
theorem never_panic (e : RuntimeError) : Never P (runtimePanic e : Sem α) := by
  unfold runtimePanic
  refine never_bind fun p => ?_
  cases e <;> first | exact never_goPanic _ | exact never_bind fun _ => never_goPanic _ | exact never_bind fun _ => never_bind fun _ => never_goPanic _
theorem never_bounds (k : IntKind) (x y : Int) (c : BoundsCode) : Never P (boundsPanic k x y c : Sem α) := by
  unfold boundsPanic
  dsimp only
  split <;> exact never_bind fun _ => never_panic _
theorem tame_asIntOf (v : Value) : Tame P (asIntOf v) := by
  unfold asIntOf
  split
  · exact tame_pure _
  · exact (never_unsupported _).tame
  · exact (never_stuck _).tame
theorem tame_asBool (v : Value) : Tame P (asBool v) := by
  unfold asBool
  split
  · exact tame_pure _
  · exact (never_stuck _).tame
theorem tame_sureAddr (v : Value) : Tame P (Instr.sureAddr v) := by
  unfold Instr.sureAddr
  split
  · exact tame_pure _
  · exact (never_stuck _).tame
theorem tame_extract (v : Value) (i : Nat) : Tame P (Instr.extract v i) := by
  unfold Instr.extract
  split
  · split
    · exact tame_pure _
    · exact (never_stuck _).tame
  · exact (never_stuck _).tame
theorem tame_ite {c : Prop} [Decidable c] {x y : Sem α} (hx : Tame P x) (hy : Tame P y) : Tame P (if c then x else y) := by split <;> assumption
theorem tame_indexAt (t : TypeId) (x i : Value) : Tame P (Instr.indexAt t x i) := by
  unfold Instr.indexAt
  refine tame_bind (tame_asIntOf _) fun ki => ?_
  refine tame_bind (tame_underlying _) fun d => ?_
  dsimp only
  repeat' (first
    | exact tame_pure _
    | exact (never_stuck _).tame
    | exact (never_unsupported _).tame
    | exact (never_bounds _ _ _ _).tame
    | exact tame_sizeOf _
    | exact tame_underlying _
    | exact tame_sureAddr _
    | refine tame_ite ?_ ?_
    | refine tame_bind ?_ (fun _ => ?_)
    | split)
theorem tame_isAgg (t : TypeId) : Tame P (isAgg t) := by
  unfold isAgg
  refine tame_bind (tame_underlying _) fun d => ?_
  split <;> exact tame_pure _
theorem tame_part (t : TypeId) (cs : Array Value) (o : Nat) : Tame P (part t cs o) := by
  unfold part
  refine tame_bind (tame_isAgg _) fun d => ?_
  repeat' (first
    | exact tame_pure _
    | exact (never_stuck _).tame
    | exact tame_sizeOf _
    | refine tame_ite ?_ ?_
    | refine tame_bind ?_ (fun _ => ?_)
    | split)
theorem tame_asAgg (v : Value) : Tame P (asAgg v) := by
  unfold asAgg
  split
  · exact tame_pure _
  · exact (never_stuck _).tame
theorem tame_field (t : TypeId) (v : Value) (i : Nat) : Tame P (Instr.field t v i) := by
  unfold Instr.field
  refine tame_bind (tame_underlying _) fun d => ?_
  repeat' (first
    | exact tame_pure _
    | exact (never_stuck _).tame
    | exact tame_asAgg _
    | exact tame_part _ _ _
    | refine tame_ite ?_ ?_
    | refine tame_bind ?_ (fun _ => ?_)
    | split)
theorem tame_index (t : TypeId) (x i : Value) : Tame P (Instr.index t x i) := by
  unfold Instr.index
  refine tame_bind (tame_asIntOf _) fun ki => ?_
  refine tame_bind (tame_underlying _) fun d => ?_
  repeat' (first
    | exact tame_pure _
    | exact (never_stuck _).tame
    | exact (never_bounds _ _ _ _).tame
    | exact tame_sizeOf _
    | exact tame_part _ _ _
    | refine tame_ite ?_ ?_
    | refine tame_bind ?_ (fun _ => ?_)
    | split)
theorem tame_intBits (op : BinOp) (k : IntKind) (a b : Int) : Tame P (Op.intBits op k a b) := by
  unfold Op.intBits
  dsimp only
  repeat' (first | exact tame_pure _ | exact (never_stuck _).tame | split)
theorem tame_intArith (op : BinOp) (k : IntKind) (a b : Int) : Tame P (Op.intArith op k a b) := by
  unfold Op.intArith
  repeat' (first | exact tame_pure _ | exact (never_stuck _).tame | split)
theorem tame_intDiv (op : BinOp) (k : IntKind) (a b : Int) : Tame P (Op.intDiv op k a b) := by
  unfold Op.intDiv
  repeat' (first | exact tame_pure _ | exact (never_stuck _).tame | exact (never_panic _).tame | split)
theorem tame_intCmp (op : BinOp) (a b : Int) : Tame P (Op.intCmp op a b) := by
  unfold Op.intCmp
  repeat' (first | exact tame_pure _ | exact (never_stuck _).tame | split)
theorem tame_shift (op : BinOp) (k : IntKind) (a : Int) (k' : IntKind) (b : Int) : Tame P (Op.shift op k a k' b) := by
  unfold Op.shift
  dsimp only
  repeat' (first | exact tame_pure _ | exact (never_stuck _).tame | exact (never_panic _).tame | split)
theorem tame_unary (op : UnOp) (v : Value) : Tame P (Op.unary op v) := by
  unfold Op.unary
  repeat' (first | exact tame_pure _ | exact (never_stuck _).tame | exact (never_unsupported _).tame | exact tame_intArith _ _ _ _ | exact tame_intBits _ _ _ _ | split)
theorem tame_binOp_ints (op : BinOp) (t : TypeId) (k k' : IntKind) (a b : Int) : Tame P (binOp op t (.int k a) (.int k' b)) := by
  cases op <;> simp only [binOp]
  all_goals repeat' (first | exact tame_pure _ | exact (never_stuck _).tame | exact tame_intArith _ _ _ _ | exact tame_intBits _ _ _ _ | exact tame_intDiv _ _ _ _ | exact tame_intCmp _ _ _ | exact tame_shift _ _ _ _ _ | split)
theorem tame_floatCmp (op : BinOp) (k : FloatKind) (a b : Nat) : Tame P (Op.floatCmp op k a b) := by
  unfold Op.floatCmp
  dsimp only
  repeat' (first | exact tame_pure _ | exact (never_stuck _).tame | split)
theorem tame_stringOp (op : BinOp) (a b : ByteArray) : Tame P (Op.stringOp op a b) := by
  unfold Op.stringOp
  dsimp only
  repeat' (first | exact tame_pure _ | exact (never_stuck _).tame | exact (never_unsupported _).tame | split)
theorem never_floatCmp_or (k : FloatKind) (a b : Nat) : Never P (Op.floatCmp .or k a b) := never_stuck _
theorem never_stringOp_or (a b : ByteArray) : Never P (Op.stringOp .or a b) := never_stuck _
theorem never_complexOp_or (k : FloatKind) (a b c d : Nat) : Never P (Op.complexOp .or k a b c d) := by
  unfold Op.complexOp
  exact never_stuck _
theorem or_ints {t : TypeId} {x y v : Value} {w w1 : World} (h : (binOp .or t x y).run P w = .ok v w1) : ∃ k a b, x = .int k a ∧ y = .int k b := by
  cases x
  case int k a =>
    cases y
    case int k' b =>
      by_cases hk : k = k'
      · subst hk; exact ⟨_, _, _, rfl, rfl⟩
      · simp [binOp, hk, stuck] at h
    all_goals simp [binOp, stuck, unsupported] at h
  case float k a =>
    cases y
    case float k' b =>
      by_cases hk : k = k'
      · simp [binOp, hk, Op.floatCmp, stuck] at h
      · simp [binOp, hk, stuck] at h
    all_goals simp [binOp, stuck, unsupported] at h
  case complex k a b =>
    cases y
    case complex k' c d =>
      by_cases hk : k = k'
      · simp [binOp, hk, Op.complexOp, stuck] at h
      · simp [binOp, hk, stuck] at h
    all_goals simp [binOp, stuck, unsupported] at h
  case string a =>
    cases y
    case string b => simp [binOp, Op.stringOp, stuck] at h
    all_goals simp [binOp, stuck, unsupported] at h
  all_goals (cases y <;> simp [binOp, stuck, unsupported] at h)

/-! ### Comparisons -/
theorem tame_complexEq (op : BinOp) (k : FloatKind) (a b c d : Nat) (h : op = .eql ∨ op = .neq) : Tame P (Op.complexOp op k a b c d) := by
  rcases h with rfl | rfl <;> simp only [Op.complexOp] <;> (unfold Op.Complex.cmp; repeat' (first | exact tame_pure _ | exact (never_stuck _).tame | exact tame_floatCmp _ _ _ _ | refine tame_bind ?_ (fun _ => ?_) | split))
theorem tame_equal_bool (t : TypeId) (a b : Bool) : Tame P (Op.equal t (.bool a) (.bool b)) := by
  unfold Op.equal Op.maxDepth Op.equalIn
  refine tame_bind (tame_underlying _) fun d => ?_
  cases d <;> first | exact tame_pure _ | exact (never_stuck _).tame | exact (never_unsupported _).tame
theorem tame_equal_nilptr (t : TypeId) (x : Value) : Tame P (Op.equal t x (.pointer none)) := by
  unfold Op.equal Op.maxDepth Op.equalIn
  refine tame_bind (tame_underlying _) fun d => ?_
  cases d <;> cases x <;> first | exact tame_pure _ | exact (never_stuck _).tame | exact (never_unsupported _).tame | (rename_i p _ _; cases p <;> first | exact tame_pure _ | exact (never_stuck _).tame | exact (never_unsupported _).tame) | (rename_i p; cases p <;> first | exact tame_pure _ | exact (never_stuck _).tame | exact (never_unsupported _).tame | (rename_i q; cases q <;> first | exact tame_pure _ | exact (never_stuck _).tame | exact (never_unsupported _).tame))
theorem tame_equal_nilslice (t : TypeId) (x : Value) (n c : Nat) : Tame P (Op.equal t x (.slice none n c)) := by
  unfold Op.equal Op.maxDepth Op.equalIn
  refine tame_bind (tame_underlying _) fun d => ?_
  cases d <;> cases x <;> first | exact tame_pure _ | exact (never_stuck _).tame | exact (never_unsupported _).tame | (rename_i p _ _; cases p <;> first | exact tame_pure _ | exact (never_stuck _).tame | exact (never_unsupported _).tame) | (rename_i p; cases p <;> first | exact tame_pure _ | exact (never_stuck _).tame | exact (never_unsupported _).tame | (rename_i q; cases q <;> first | exact tame_pure _ | exact (never_stuck _).tame | exact (never_unsupported _).tame))
theorem tame_equal_nilfunc (t : TypeId) (x : Value) : Tame P (Op.equal t x .nilFunc) := by
  unfold Op.equal Op.maxDepth Op.equalIn
  refine tame_bind (tame_underlying _) fun d => ?_
  cases d <;> cases x <;> first | exact tame_pure _ | exact (never_stuck _).tame | exact (never_unsupported _).tame | (rename_i p _ _; cases p <;> first | exact tame_pure _ | exact (never_stuck _).tame | exact (never_unsupported _).tame) | (rename_i p; cases p <;> first | exact tame_pure _ | exact (never_stuck _).tame | exact (never_unsupported _).tame | (rename_i q; cases q <;> first | exact tame_pure _ | exact (never_stuck _).tame | exact (never_unsupported _).tame))
theorem ptr_or_never (t : TypeId) (x : Value) (hx : ∀ p, x ≠ .pointer p) : Never P (Op.equal t x (.pointer none)) := by
  unfold Op.equal Op.maxDepth Op.equalIn
  refine never_bind fun d => ?_
  cases x
  case pointer p => exact absurd rfl (hx p)
  case slice a l c => cases a <;> cases d <;> (first | exact never_stuck _ | exact never_unsupported _)
  case map r => cases r <;> cases d <;> (first | exact never_stuck _ | exact never_unsupported _)
  case int k n =>
    cases n
    case ofNat m => cases m <;> cases d <;> (first | exact never_stuck _ | exact never_unsupported _)
    case negSucc m => cases d <;> (first | exact never_stuck _ | exact never_unsupported _)
  all_goals (cases d <;> (first | exact never_stuck _ | exact never_unsupported _))
end

/-! ### What is asked of an operation's operands, and how it is asked -/
def isNil : Operand → Bool
  | .const (.pointer none) => true
  | .const (.slice none _ _) => true
  | .const .nilFunc => true
  | _ => false
def eqOrNe : BinOp → Bool
  | .eql | .neq => true
  | _ => false
/-- two pointers are compared: an operation that asks nothing, and isn't mute (the second list's last type, behind others) -/
def ptrEq (bts : List TypeId × List TypeId) (op : BinOp) (t : TypeId) : Bool := eqOrNe op && decide (2 ≤ bts.2.length) && t == bts.2.getLastD 0
/-- of what kind: none: it may touch memory; some l: mute, once the operations l have gone well -/
def asks (bts : List TypeId × List TypeId) (o : Oper) : Option (List Op) :=
  match o.op with
  | .move _ | .assign _ | .pick .. | .extract .. | .indexAddr .. | .index .. | .field .. | .unOp .. | .makeFunc .. => some []
  | .nilCheck x => some [.binOp .eql (bts.2.getLastD 0) x (.const (.pointer none)) (bts.2.getLastD 0)]
  | .binOp op t x y yt =>
    if eqOrNe op && isNil y then some []
    else if ptrEq bts op t then none
    else if bts.1.contains t then some [.unOp .not t x, .unOp .not t y]
    else if eqOrNe op && bts.2.contains t then some [.call { callee := .builtin .len, args := #[x], argTypes := #[t] }, .call { callee := .builtin .len, args := #[y], argTypes := #[t] }]
    else some [.binOp .or t x y yt]
  | .convert s _ x => some [.binOp .or s x x s]
  | .fieldAddr .. => some []
  | .call { callee := .builtin .len, .. } => some []
  | _ => none
/-- what the program's own types must be for it -/
def fitsTypes (P : Program) (bts : List TypeId × List TypeId) (o : Oper) : Bool :=
  match o.op with
  | .binOp op t _ y _ => if eqOrNe op && isNil y then true else if bts.1.contains t then true else if eqOrNe op && bts.2.contains t then (match P.underlying t with | some .string => true | _ => false) else true
  | .convert _ d _ => match P.underlying d with | some (.int _) => true | _ => false
  | .fieldAddr t _ f => match P.underlying t with
    | some (.struct fs) => match fs[f]? with
      | some g => match P.info? g.type with | some i => i.size != 0 | none => false
      | none => false
    | _ => false
  | .call { callee := .builtin .len, argTypes, .. } => match argTypes[0]? with
    | some t => match P.underlying t with | some (.slice _) => true | some .string => true | some (.array ..) => true | _ => false
    | none => false
  | _ => true
/-- what their going well says -/
def okOp (bts : List TypeId × List TypeId) (o : Oper) (ρ : Operand → Value) : Prop :=
  match o.op with
  | .nilCheck x => ∃ p, ρ x = .pointer p
  | .binOp op t x y _ =>
    if eqOrNe op && isNil y then True
    else if bts.1.contains t then (∃ a, ρ x = .bool a) ∧ ∃ b, ρ y = .bool b
    else if eqOrNe op && bts.2.contains t then (∃ a, ρ x = .string a) ∧ ∃ b, ρ y = .string b
    else ∃ k a b, ρ x = .int k a ∧ ρ y = .int k b
  | .convert _ _ x => ∃ k n, ρ x = .int k n
  | _ => True

def MuteAt (P : Program) (o : Oper) (ρ : Operand → Value) : Prop :=
  ∀ (w w1 : World) (n : Next), (execOp ρ o).run P w = .ok n w1 → ∃ v, n = .value v ∧ ∀ w', (execOp ρ o).run P w' = .ok (.value v) w'

theorem muteAt_of_tame {P : Program} {o : Oper} {ρ : Operand → Value} {e : Sem Value} (h : execOp ρ o = (do pure (.value (← e)))) (ht : Tame P e) : MuteAt P o ρ := by
  intro w w1 n hr
  rw [h] at hr
  obtain ⟨v, w2, h1, h2⟩ := run_bind_ok hr
  simp only [Sem.run_pure, Result.ok.injEq] at h2
  exact ⟨v, h2.1.symm, fun w' => by rw [h, Sem.run_bind, ht _ _ _ h1 w']; rfl⟩
theorem muteAt_value {P : Program} {o : Oper} {ρ : Operand → Value} {v : Value} (h : execOp ρ o = pure (.value v)) : MuteAt P o ρ := by
  intro w w1 n hr
  rw [h] at hr
  simp only [Sem.run_pure, Result.ok.injEq] at hr
  exact ⟨v, hr.1.symm, fun w' => by rw [h]; rfl⟩

theorem tame_len {P : Program} (ats : Array TypeId) (ty : TypeId) (args : Array Value) (t : TypeId) (h : ats[0]? = some t)
    (hd : (∃ e, P.underlying t = some (.slice e)) ∨ P.underlying t = some .string ∨ ∃ n e, P.underlying t = some (.array n e)) : Tame P (Builtin.len_ ats ty args) := by
  intro w x w1 hr w'
  unfold Builtin.len_ at *
  cases ha : args[0]? with
  | none => simp [h, ha, stuck] at hr
  | some v =>
    simp only [h, ha] at hr ⊢
    rcases hd with ⟨e, hd⟩ | hd | ⟨n, e, hd⟩
    all_goals
      simp only [Sem.run_bind, run_underlying hd, Result.andThen_ok] at hr ⊢
      cases v <;> first | (simp [stuck] at hr; done) | (simp at hr ⊢; exact hr.1)

theorem tame_fieldAt {P : Program} (t : TypeId) (v : Value) (f : Nat) {fs : Array Field} {g : Field} {i : TypeInfo} (h : P.underlying t = some (.struct fs)) (hg : fs[f]? = some g) (hi : P.info? g.type = some i) (hs : i.size ≠ 0) :
    Tame P (Instr.fieldAt t v f) := by
  intro w x w1 hr w'
  unfold Instr.fieldAt at *
  simp only [Sem.run_bind, run_underlying h, Result.andThen_ok, hg] at hr ⊢
  cases v <;> first | (simp [Instr.sureAddr, stuck] at hr; done) | skip
  rename_i p
  cases p with
  | none => simp [Instr.sureAddr, stuck] at hr
  | some a =>
    simp [Instr.sureAddr, fieldPlace, sizeOf, typeInfo, hi, hs] at hr ⊢
    exact hr.1

theorem tame_eq_nil {P : Program} {op : BinOp} {t : TypeId} {x y : Operand} {ρ : Operand → Value} (hρ : ∀ v, ρ (.const v) = v) (he : eqOrNe op = true) (hy : isNil y = true) :
    Tame P (do eqGuard op t x y (ρ x) (ρ y); binOp op t (ρ x) (ρ y)) := by
  unfold isNil at hy
  split at hy
  · rw [hρ]
    refine tame_bind ?_ fun _ => ?_
    · unfold eqGuard
      repeat' (first | exact tame_pure _ | split | (rename_i h; cases h))
    · cases op <;> simp only [eqOrNe] at he <;> try (cases he)
      all_goals (cases ρ x <;> simp only [binOp] <;> exact tame_bind (tame_equal_nilptr _ _) fun _ => tame_pure _)
  · rw [hρ]
    refine tame_bind ?_ fun _ => ?_
    · unfold eqGuard
      repeat' (first | exact tame_pure _ | split | (rename_i h; cases h))
    · cases op <;> simp only [eqOrNe] at he <;> try (cases he)
      all_goals (cases ρ x <;> simp only [binOp] <;> exact tame_bind (tame_equal_nilslice _ _ _ _) fun _ => tame_pure _)
  · rw [hρ]
    refine tame_bind ?_ fun _ => ?_
    · unfold eqGuard
      repeat' (first | exact tame_pure _ | split | (rename_i h; cases h))
    · cases op <;> simp only [eqOrNe] at he <;> try (cases he)
      all_goals (cases ρ x <;> simp only [binOp] <;> exact tame_bind (tame_equal_nilfunc _ _) fun _ => tame_pure _)
  · cases hy
theorem tame_bool {P : Program} (op : BinOp) (t : TypeId) (x y : Operand) (a b : Bool) :
    Tame P (do eqGuard op t x y (.bool a) (.bool b); binOp op t (.bool a) (.bool b)) := by
  refine tame_bind ?_ fun _ => ?_
  · unfold eqGuard
    repeat' (first | exact tame_pure _ | split)
  · cases op <;> simp only [binOp] <;> first | exact (never_stuck _).tame | exact tame_bind (tame_equal_bool _ _ _) fun _ => tame_pure _
theorem tame_or {P : Program} (t : TypeId) (x y : Operand) (u v : Value) : Tame P (do eqGuard .or t x y u v; binOp .or t u v) := by
  refine tame_bind (tame_pure ()) fun _ => ?_
  by_cases h : ∃ w z w1, (binOp .or t u v).run P w = .ok z w1
  · obtain ⟨w, z, w1, hr⟩ := h
    obtain ⟨k, a, b, rfl, rfl⟩ := or_ints hr
    exact tame_binOp_ints _ _ _ _ _ _
  · exact Never.tame fun w z w1 hr => h ⟨w, z, w1, hr⟩
theorem not_bool {P : Program} {v x : Value} {w w1 : World} (h : (Op.unary .not v).run P w = .ok x w1) : ∃ b, v = .bool b := by
  cases v <;> first | exact ⟨_, rfl⟩ | (simp [Op.unary, stuck] at h; done)
theorem string_of_len {P : Program} {t ty : TypeId} (ht : P.underlying t = some .string) {v x : Value} {w w1 : World} (h : (Builtin.len_ #[t] ty #[v]).run P w = .ok x w1) : ∃ s, v = .string s := by
  unfold Builtin.len_ at h
  simp only [List.getElem?_toArray, List.getElem?_cons_zero, Sem.run_bind, run_underlying ht, Result.andThen_ok] at h
  cases v <;> first | exact ⟨_, rfl⟩ | (simp [stuck] at h; done)
theorem tame_eq_string {P : Program} (op : BinOp) (t : TypeId) (x y : Operand) (a b : ByteArray) :
    Tame P (do eqGuard op t x y (.string a) (.string b); binOp op t (.string a) (.string b)) := by
  refine tame_bind ?_ fun _ => ?_
  · unfold eqGuard
    repeat' (first | exact tame_pure _ | split)
  · cases op <;> simp only [binOp] <;> exact tame_stringOp _ _ _
theorem mute_of {P : Program} {bts : List TypeId × List TypeId} {o : Oper} {l : List Op} {ρ : Operand → Value} (hρ : ∀ v, ρ (.const v) = v) (ha : asks bts o = some l) (hf : fitsTypes P bts o = true) (ho : okOp bts o ρ) : MuteAt P o ρ := by
  obtain ⟨dst, op, type, pos, after, guard⟩ := o
  cases op <;> simp only [asks] at ha <;> try (cases ha)
  case move x => exact muteAt_value rfl
  case assign x => exact muteAt_value rfl
  case pick c a b =>
    refine muteAt_of_tame (e := (do pure (if ← asBool (ρ c) then ρ a else ρ b))) ?_ (tame_bind (tame_asBool _) fun _ => tame_pure _)
    simp only [execOp]
    cases ρ c <;> rfl
  case binOp op t x y yt =>
    refine muteAt_of_tame rfl ?_
    simp only [okOp] at ho
    by_cases hn : (eqOrNe op && isNil y) = true
    · simp only [Bool.and_eq_true] at hn
      obtain ⟨he, hy⟩ := hn
      exact tame_eq_nil hρ he hy
    · rw [if_neg hn] at ho
      by_cases hb : bts.1.contains t = true
      · rw [if_pos hb] at ho
        obtain ⟨⟨a, ha'⟩, b, hb'⟩ := ho
        rw [ha', hb']
        exact tame_bool op t x y a b
      · rw [if_neg hb] at ho
        by_cases hst : (eqOrNe op && bts.2.contains t) = true
        · simp only [fitsTypes] at hf
          rw [if_neg hn, if_neg hb, if_pos hst] at hf
          rw [if_pos hst] at ho
          obtain ⟨⟨a, ha'⟩, b, hb'⟩ := ho
          rw [ha', hb']
          exact tame_eq_string op t x y a b
        · rw [if_neg hst] at ho
          obtain ⟨k, a, b, ha', hb'⟩ := ho
          rw [ha', hb']
          refine tame_bind ?_ fun _ => tame_binOp_ints _ _ _ _ _ _
          unfold eqGuard
          repeat' (first | exact tame_pure _ | split)
  case unOp op t x => exact muteAt_of_tame rfl (tame_unary _ _)
  case nilCheck x =>
    obtain ⟨p, hp⟩ := ho
    cases p with
    | none =>
      intro w w1 n hr
      simp only [execOp, hp] at hr
      exact absurd hr (never_panic _ _ _ _)
    | some a => exact muteAt_value (v := .pointer (some a)) (by simp only [execOp, hp])
  case convert s d x =>
    obtain ⟨k, n, hk⟩ := ho
    refine muteAt_of_tame rfl ?_
    simp only [fitsTypes] at hf
    split at hf <;> try (cases hf)
    rename_i k' hd
    rw [hk]
    intro w v w1 hr w'
    unfold convert at *
    simp only [Sem.run_bind, run_underlying hd] at hr ⊢
    cases hs : P.underlying s with
    | none => simp [underlying, hs, stuck, Result.andThen] at hr
    | some d => simp [run_underlying hs, Conv.intToInt] at hr ⊢; exact hr.1
  case makeFunc f a b => exact muteAt_of_tame rfl (tame_pure _)
  case fieldAddr t x f =>
    refine muteAt_of_tame rfl ?_
    simp only [fitsTypes] at hf
    split at hf <;> try (cases hf)
    split at hf <;> try (cases hf)
    split at hf <;> try (cases hf)
    exact tame_fieldAt _ _ _ ‹_› ‹_› ‹_› (by simpa using hf)
  case field t x f => exact muteAt_of_tame rfl (tame_field _ _ _)
  case indexAddr t x i => exact muteAt_of_tame rfl (tame_indexAt _ _ _)
  case index t x i => exact muteAt_of_tame rfl (tame_index _ _ _)
  case extract t i => exact muteAt_of_tame rfl (tame_extract _ _)
  case call c =>
    obtain ⟨callee, args, ats⟩ := c
    cases callee
    case value f => cases ha
    case invoke r m => cases ha
    rename_i b
    cases b <;> try (cases ha)
    refine muteAt_of_tame (e := Builtin.len_ ats type (args.map ρ)) ?_ ?_
    · simp only [execOp, resolve, invoke, builtin]; rfl
    · simp only [fitsTypes] at hf
      split at hf <;> try (cases hf)
      split at hf <;> try (cases hf)
      · exact tame_len _ _ _ _ ‹_› (.inl ⟨_, ‹_›⟩)
      · exact tame_len _ _ _ _ ‹_› (.inr (.inl ‹_›))
      · exact tame_len _ _ _ _ ‹_› (.inr (.inr ⟨_, _, ‹_›⟩))

theorem okOp_congr {bts : List TypeId × List TypeId} {o : Oper} {ρ ρ' : Operand → Value} (h : ∀ x ∈ o.op.operands, ρ x = ρ' x) (ho : okOp bts o ρ) : okOp bts o ρ' := by
  obtain ⟨dst, op, type, pos, after, guard⟩ := o
  cases op <;> simp only [okOp] at ho ⊢
  case nilCheck x => rw [← h x (by simp [Op.operands])]; exact ho
  case convert s d x => rw [← h x (by simp [Op.operands])]; exact ho
  case binOp op t x y yt => rw [← h x (by simp [Op.operands]), ← h y (by simp [Op.operands])]; exact ho

/-- no way out but the normal one -/
def OnlyNormal (Q : Exit → Act → World → Prop) : Prop := (∀ c a w, ¬ Q (.panic c) a w) ∧ (∀ a w, ¬ Q .outgrown a w)

section
variable {P : Program} {ops : Array Oper} {Q : Exit → Act → World → Prop} {bts : List TypeId × List TypeId}

theorem OnlyNormal.lets (h : OnlyNormal Q) : ¬ LetsOut Q := fun ⟨a, w, hq⟩ => h.2 a w hq

/-- to an operation two frames are alike -/
def Same (ops : Array Oper) (o : Oper) (a a' : Act) : Prop :=
  (∀ x ∈ o.op.operands, a'.eval x = a.eval x) ∧ Region.wanted o (yielded ops a'.tmps) = Region.wanted o (yielded ops a.tmps)
theorem Same.put {o : Oper} {a : Act} {d : Option Tmp} {u : Value} (h : ∀ t, d = some t → t ∉ o.looksAt ops) : Same ops o a (a.put d u) :=
  ⟨fun x hx => Act.eval_put fun t ht hxt => h t ht (by
    subst hxt
    exact List.mem_append_left _ (List.mem_filterMap.2 ⟨.tmp t, by simpa using hx, rfl⟩)), wanted_put o a d u h⟩
theorem Same.defers {o : Oper} {a : Act} (d : List Deferred) : Same ops o a { a with defers := d } := ⟨fun x _ => by cases x <;> rfl, rfl⟩
theorem Same.trans {o : Oper} {a b c : Act} (h : Same ops o a b) (k : Same ops o b c) : Same ops o a c := ⟨fun x hx => (k.1 x hx).trans (h.1 x hx), k.2.trans h.2⟩
theorem Same.symm {o : Oper} {a b : Act} (h : Same ops o a b) : Same ops o b a := ⟨fun x hx => (h.1 x hx).symm, h.2.symm⟩
theorem Same.exec {o : Oper} {a b : Act} (h : Same ops o a b) (hs : ∀ cs b, o.op ≠ .select cs b) : execOp b.eval o = execOp a.eval o := execOp_congr o hs fun x hx => h.1 x hx

/-- the blocks ds are as they were -/
def StayB (ds : List Nat) (w0 w : World) : Prop := ∀ b ∈ ds, w.heap[b]? = w0.heap[b]?
def CellsB (ds : List Nat) (w0 : World) : Prop := ∀ b ∈ ds, (∃ c t f, w0.heap[b]? = some (.cells c t f)) ∨ (∃ es k, w0.heap[b]? = some (.map es k))
/-- a load from one of the blocks ds; or a look-up that yields one value as long as the blocks ds are as they were -/
def okLoad (P : Program) (w0 : World) (ds : List Nat) (o : Oper) (ρ : Operand → Value) : Prop :=
  match o.op with
  | .load _ x => ∃ b f, ρ x = .pointer (some ⟨b, f, none⟩) ∧ b ∈ ds
  | .lookup t m x c => ∃ v, ∀ w', StayB ds w0 w' → (Instr.lookup t (ρ m) (ρ x) c).run P w' = .ok v w'
  | _ => True

/-- of an operation that asks something: it is met -/
def okAt (P : Program) (w0 : World) (bts : List TypeId × List TypeId) (ds : List Nat) (ops : Array Oper) (i : Nat) (a : Act) : Prop :=
  ∀ o, ops[i]? = some o → Region.wanted o (yielded ops a.tmps) = true → okOp bts o a.eval ∧ okLoad P w0 ds o a.eval
theorem okLoad_congr {w0 : World} {ds : List Nat} {o : Oper} {ρ ρ' : Operand → Value} (h : ∀ x ∈ o.op.operands, ρ x = ρ' x) (ho : okLoad P w0 ds o ρ) : okLoad P w0 ds o ρ' := by
  obtain ⟨dst, op, type, pos, after, guard⟩ := o
  cases op <;> simp only [okLoad] at ho ⊢
  case load t x => rw [← h x (by simp [Op.operands])]; exact ho
  case lookup t m x c => rw [← h m (by simp [Op.operands]), ← h x (by simp [Op.operands])]; exact ho
theorem okAt.same {w0 : World} {ds : List Nat} {i : Nat} {o : Oper} {a b : Act} (hi : ops[i]? = some o) (hs : Same ops o a b) (h : okAt P w0 bts ds ops i a) : okAt P w0 bts ds ops i b := by
  intro o' ho' hw
  rw [hi] at ho'; cases ho'
  rw [hs.2] at hw
  exact ⟨okOp_congr (fun x hx => (hs.1 x hx).symm) (h o hi hw).1, okLoad_congr (fun x hx => (hs.1 x hx).symm) (h o hi hw).2⟩

def isLoad (o : Oper) : Bool := match o.op with | .load .. => true | .lookup .. => true | _ => false
/-- mute, by its text and the types; or a load -/
def muteB (P : Program) (bts : List TypeId × List TypeId) (o : Oper) : Bool := isLoad o || ((asks bts o).isSome && fitsTypes P bts o)

theorem run_load_stays {w0 w w' : World} {ds : List Nat} {a : Addr} {v : Value} {w1 : World} {m : Mode} {α : Type} {k : Value → Sem α} (hc : CellsB ds w0) (hb : a.block ∈ ds) (h : StayB ds w0 w) (h' : StayB ds w0 w') {r : α}
    (hk : ∀ v (w1 : World), (k v).run P w = .ok r w1 → (k v).run P w' = .ok r w') (hr : (Sem.load m a k).run P w = .ok r w1) : (Sem.load m a k).run P w' = .ok r w' := by
  have e : w'.cell? a = w.cell? a := World.cell?_of_block (w := w) ((h' _ hb).trans (h _ hb).symm)
  simp only [Sem.run] at hr ⊢
  rw [e]
  cases hcl : w.cell? a with
  | some v => rw [hcl] at hr; exact hk _ _ hr
  | none =>
    rw [hcl] at hr
    have := h _ hb
    rcases hc _ hb with ⟨c, t, f, hcc⟩ | ⟨es, k, hcc⟩ <;> rw [hcc] at this <;> simp [World.farLoad, this] at hr

/-- what goes well in one world of S goes so in another -/
def TameS {α : Type} (P : Program) (S : World → Prop) (e : Sem α) : Prop := ∀ w x w1, S w → e.run P w = .ok x w1 → w1 = w ∧ ∀ w', S w' → e.run P w' = .ok x w'
theorem Tame.s {α : Type} {S : World → Prop} {e : Sem α} (h : Tame P e) : TameS P S e := fun w x w1 _ hr => by
  have := h _ _ _ hr w
  rw [hr] at this
  simp only [Result.ok.injEq, true_and] at this
  exact ⟨this, fun w' _ => h _ _ _ hr w'⟩
theorem tameS_bind {α β : Type} {S : World → Prop} {e : Sem α} {f : α → Sem β} (he : TameS P S e) (hf : ∀ a, TameS P S (f a)) : TameS P S (e >>= f) := fun w x w1 hS h => by
  obtain ⟨a, w2, h1, h2⟩ := run_bind_ok h
  obtain ⟨rfl, h3⟩ := he _ _ _ hS h1
  obtain ⟨rfl, h4⟩ := hf a _ _ _ hS h2
  exact ⟨rfl, fun w' hS' => by rw [Sem.run_bind, h3 w' hS']; exact h4 w' hS'⟩
theorem tameS_load {w0 : World} {ds : List Nat} (hc : CellsB ds w0) {a : Addr} (hb : a.block ∈ ds) : TameS P (StayB ds w0) (load a) := fun w x w1 hS hr => by
  have hr' : (Sem.load .plain a .pure : Sem Value).run P w = .ok x w1 := hr
  have e1 : (Sem.load .plain a .pure : Sem Value).run P w = .ok x w := run_load_stays (k := .pure) (v := x) hc hb hS hS (fun v w1 h => by simp only [Sem.run_pure', Result.ok.injEq] at h ⊢; exact ⟨h.1, trivial⟩) hr'
  rw [hr'] at e1
  simp only [Result.ok.injEq, true_and] at e1
  exact ⟨e1, fun w' hS' => run_load_stays (k := .pure) (v := x) hc hb hS hS' (fun v w1 h => by simp only [Sem.run_pure', Result.ok.injEq] at h ⊢; exact ⟨h.1, trivial⟩) hr'⟩
theorem tameS_loadCells {w0 : World} {ds : List Nat} (hc : CellsB ds w0) {b f : Nat} (hb : b ∈ ds) : ∀ (n i : Nat) (acc : Array Value), TameS P (StayB ds w0) (loadCellsFrom ⟨b, f, none⟩ i n acc) := by
  intro n
  induction n with
  | zero => intro i acc; exact (tame_pure _).s
  | succ n ih =>
    intro i acc
    refine tameS_bind ?_ fun v => ih _ _
    rw [show (⟨b, f, none⟩ : Addr).add i = ⟨b, f + i, none⟩ from by unfold Addr.add; split <;> simp_all]
    exact tameS_load hc (a := ⟨b, f + i, none⟩) hb
theorem tameS_loadVar {w0 : World} {ds : List Nat} (hc : CellsB ds w0) {b f : Nat} (hb : b ∈ ds) (t : TypeId) : TameS P (StayB ds w0) (loadVar t ⟨b, f, none⟩) := by
  unfold loadVar
  refine tameS_bind (tame_isAgg t).s fun g => ?_
  cases g
  · exact tameS_load hc (a := ⟨b, f, none⟩) hb
  · refine tameS_bind (tame_sizeOf t).s fun n => ?_
    exact tameS_bind (tameS_loadCells hc hb _ _ _) fun _ => (tame_pure _).s

/-- it yields v, in whatever world of S -/
def YieldsS (P : Program) (S : World → Prop) (ops : Array Oper) (o : Oper) (v : Value) (a : Act) : Prop :=
  (Region.wanted o (yielded ops a.tmps) = true ∧ ∀ w, S w → (execOp a.eval o).run P w = .ok (.value v) w) ∨
  (Region.wanted o (yielded ops a.tmps) = false ∧ v = undef)
theorem YieldsS.wpOp {S : World → Prop} {i : Nat} {o : Oper} {v : Value} {a : Act} (hi : ops[i]? = some o) (hy : YieldsS P S ops o v a)
    {K : Act → World → Prop} {w : World} (hS : S w) (h : K (a.put o.dst v) w) : wpOp P ops Q i K a w := by
  unfold Go.wpOp
  simp only [hi]
  rcases hy with ⟨hw, hv⟩ | ⟨hw, rfl⟩
  · simp only [hw, if_true, Oper.wp, hv w hS, Oper.upon]; exact .inl h
  · simp only [hw, Bool.false_eq_true, if_false]; exact h
theorem YieldsS.of_same {S : World → Prop} {o : Oper} {v : Value} {a a' : Act} (hy : YieldsS P S ops o v a) (he : execOp a'.eval o = execOp a.eval o)
    (hw : Region.wanted o (yielded ops a'.tmps) = Region.wanted o (yielded ops a.tmps)) : YieldsS P S ops o v a' := by
  unfold YieldsS at *
  rw [he, hw]
  exact hy

/-- one operation, what it asks of its operands met -/
def opT (P : Program) (bts : List TypeId × List TypeId) (ds : List Nat) (w0 : World) (ops : Array Oper) (Q : Exit → Act → World → Prop) (i : Nat) (K : Act → World → Prop) (a : Act) (w : World) : Prop :=
  (∀ o, ops[i]? = some o → muteB P bts o = true → okAt P w0 bts ds ops i a) ∧ wpOp P ops Q i (fun a' w' => StayB ds w0 w' ∧ K a' w') a w

section
variable {ds : List Nat} {w0 : World}
theorem opT_mono {i : Nat} {K K' : Act → World → Prop} {a : Act} {w : World} (h : ∀ a w, StayB ds w0 w → K a w → K' a w) (hh : opT P bts ds w0 ops Q i K a w) : opT P bts ds w0 ops Q i K' a w :=
  ⟨hh.1, wpOp_mono (fun a w hk => ⟨hk.1, h a w hk.1 hk.2⟩) hh.2⟩

theorem muteS_at {o : Oper} {a : Act} (hc : CellsB ds w0) (h : muteB P bts o = true) (ho : okOp bts o a.eval) (hl : okLoad P w0 ds o a.eval) :
    ∀ (w w1 : World) (n : Next), StayB ds w0 w → (execOp a.eval o).run P w = .ok n w1 → ∃ v, n = .value v ∧ ∀ w', StayB ds w0 w' → (execOp a.eval o).run P w' = .ok (.value v) w' := by
  simp only [muteB, Bool.or_eq_true, Bool.and_eq_true] at h
  rcases h with h | h
  · obtain ⟨dst, op, type, pos, after, guard⟩ := o
    cases op <;> simp only [isLoad] at h <;> try (cases h)
    · rename_i t x
      obtain ⟨b, f, hx, hb⟩ := hl
      intro w w1 n hS hr
      simp only [execOp, Instr.loadAt, hx, Instr.sureAddr] at hr ⊢
      obtain ⟨v, w2, h1, h2⟩ := run_bind_ok hr
      obtain ⟨_, _, h3, h4⟩ := run_bind_ok h1
      simp only [Sem.run_pure, Result.ok.injEq] at h2 h3
      obtain ⟨rfl, rfl⟩ := h3
      obtain ⟨_, h5⟩ := tameS_loadVar hc hb t _ _ _ hS h4
      refine ⟨v, h2.1.symm, fun w' hS' => ?_⟩
      rw [Sem.run_bind, Sem.run_bind, Sem.run_pure, Result.andThen_ok, h5 w' hS']
      rfl
    · rename_i t m x c
      obtain ⟨v, hv⟩ := hl
      intro w w1 n hS hr
      simp only [execOp] at hr ⊢
      obtain ⟨v', w2, h1, h2⟩ := run_bind_ok hr
      have h1' : (Instr.lookup t (a.eval m) (a.eval x) c).run P w = .ok v' w2 := h1
      rw [hv w hS] at h1'
      simp only [Result.ok.injEq] at h1'
      obtain ⟨rfl, rfl⟩ := h1'
      simp only [Sem.run_pure, Result.ok.injEq] at h2
      refine ⟨v, h2.1.symm, fun w' hS' => ?_⟩
      rw [Sem.run_bind, hv w' hS']
      rfl
  · obtain ⟨l, hl'⟩ := Option.isSome_iff_exists.1 h.1
    intro w w1 n _ hr
    obtain ⟨v, hv, hw⟩ := mute_of (ρ := a.eval) (fun _ => rfl) hl' h.2 ho _ _ _ hr
    exact ⟨v, hv, fun w' _ => hw w'⟩

theorem yields_of {i : Nat} {o : Oper} {K : Act → World → Prop} {a : Act} {w : World} (hc : CellsB ds w0) (hn : OnlyNormal Q) (hi : ops[i]? = some o) (hm : muteB P bts o = true) (hS : StayB ds w0 w) (h : opT P bts ds w0 ops Q i K a w) :
    ∃ v, YieldsS P (StayB ds w0) ops o v a ∧ K (a.put o.dst v) w := by
  obtain ⟨hok, h⟩ := h
  unfold wpOp at h
  simp only [hi] at h
  split at h
  · rename_i hw
    have hma := muteS_at hc hm (hok o hi hm o hi hw).1 (hok o hi hm o hi hw).2
    rcases h with h | ⟨_, h⟩
    · unfold Oper.wp at h
      cases hr : (execOp a.eval o).run P w with
      | ok n w1 =>
        obtain ⟨v, rfl, hv⟩ := hma _ _ _ hS hr
        rw [hv w hS] at h
        exact ⟨v, .inl ⟨hw, hv⟩, h.2⟩
      | halt x w1 =>
        rw [hr] at h
        cases x <;> simp only [Oper.upon] at h
        exact (hn.1 _ _ _ h).elim
    · exact (hn.lets h).elim
  · rename_i hw
    exact ⟨undef, .inr ⟨by simpa using hw, rfl⟩, h.2⟩

/-- a value laid ahead of an operation is laid behind it as well -/
theorem wpOp_behind {j : Nat} {oi oj : Oper} {v : Value} (hj : ops[j]? = some oj) (hap : oi.apart ops oj = true) (hsj : ∀ cs b, oj.op ≠ .select cs b)
    (hn : OnlyNormal Q) {K : Act → World → Prop} {a : Act} {w : World} (h : wpOp P ops Q j K (a.put oi.dst v) w) :
    wpOp P ops Q j (fun a' w' => Same ops oi a a' ∧ K (a'.put oi.dst v) w') a w := by
  obtain ⟨h1, h2, h3⟩ := Oper.apart_spec hap
  unfold wpOp at *
  simp only [hj] at *
  rw [wanted_put oj a oi.dst v h1] at h
  split
  · rename_i hw
    simp only [hw, if_true] at h
    rcases h with h | ⟨_, hl⟩
    case inr => exact (hn.lets hl).elim
    refine .inl ?_
    unfold Oper.wp at *
    rw [execOp_put oj hsj a oi.dst v h1] at h
    generalize (execOp a.eval oj).run P w = r at *
    cases r with
    | ok n w' =>
      cases n <;> simp only [Oper.upon] at h ⊢
      case value u => exact ⟨Same.put h3, by rw [← Act.put_comm a v u h2]; exact h⟩
      case skip => exact ⟨Same.put h3, by rw [← Act.put_comm a v undef h2]; exact h⟩
      case defer d =>
        refine ⟨(Same.defers (d :: a.defers)).trans (Same.put h3), ?_⟩
        rw [← Act.put_comm _ v undef h2, ← Act.put_defers]
        exact h
      case enter f args =>
        refine Calls.mono h fun e w'' he => ?_
        cases e with
        | returned u => exact ⟨Same.put h3, by rw [← Act.put_comm a v u h2]; exact he⟩
        | panicked c => exact (hn.1 _ _ _ he).elim
        | outgrown => exact he
      case row row args => exact Rows.mono h fun u w'' he => ⟨Same.put h3, by rw [← Act.put_comm a v u h2]; exact he⟩
    | halt x w' =>
      cases x <;> simp only [Oper.upon] at h ⊢
      case panic u => exact (hn.1 _ _ _ h).elim
  · rename_i hw
    simp only [hw] at h
    exact ⟨Same.put h3, by rw [← Act.put_comm a v undef h2]; exact h⟩

/-- and the other way -/
theorem wpOp_ahead {i : Nat} {oi oj : Oper} {v : Value} (hi : ops[i]? = some oi) (hap : oi.apart ops oj = true)
    (hsi : ∀ cs b, oi.op ≠ .select cs b) (hn : OnlyNormal Q) {K K' : Act → World → Prop} {a : Act} {w : World}
    (hk : ∀ a' w', Same ops oj a a' → K' a' w' → K (a'.put oj.dst v) w') (h : wpOp P ops Q i K' a w) : wpOp P ops Q i K (a.put oj.dst v) w := by
  obtain ⟨h1, h2, h3⟩ := Oper.apart_spec hap
  unfold wpOp at *
  simp only [hi] at *
  rw [wanted_put oi a oj.dst v h3]
  split
  · rename_i hw
    simp only [hw, if_true] at h
    rcases h with h | ⟨_, hl⟩
    case inr => exact (hn.lets hl).elim
    refine .inl ?_
    unfold Oper.wp at *
    rw [execOp_put oi hsi a oj.dst v h3]
    generalize (execOp a.eval oi).run P w = r at *
    cases r with
    | ok n w' =>
      cases n <;> simp only [Oper.upon] at h ⊢
      case value u => rw [← Act.put_comm a u v h2]; exact hk _ _ (Same.put h1) h
      case skip => rw [← Act.put_comm a undef v h2]; exact hk _ _ (Same.put h1) h
      case defer d =>
        rw [Act.put_defers, ← Act.put_comm _ undef v h2]
        exact hk _ _ ((Same.defers (d :: a.defers)).trans (Same.put h1)) h
      case enter f args =>
        refine Calls.mono h fun e w'' he => ?_
        cases e with
        | returned u => show K _ _; rw [← Act.put_comm a u v h2]; exact hk _ _ (Same.put h1) he
        | panicked c => exact (hn.1 _ _ _ he).elim
        | outgrown => exact he
      case row row args => exact Rows.mono h fun u w'' he => by rw [← Act.put_comm a u v h2]; exact hk _ _ (Same.put h1) he
    | halt x w' =>
      cases x <;> simp only [Oper.upon] at h ⊢
      case panic u => exact (hn.1 _ _ _ h).elim
  · rename_i hw
    simp only [hw] at h
    rw [← Act.put_comm a undef v h2]
    exact hk _ _ (Same.put h1) h

/-- an operation comes to some end -/
theorem some_end {i : Nat} {oi oj : Oper} (hi : ops[i]? = some oi) (hn : OnlyNormal Q) (h1 : ∀ d, oi.dst = some d → d ∉ oj.looksAt ops) {K : Act → World → Prop} {a : Act} {w : World}
    (h : wpOp P ops Q i K a w) : ∃ a' w', Same ops oj a a' ∧ K a' w' := by
  unfold wpOp at h
  rw [hi] at h
  simp only at h
  split at h
  · rcases h with h | ⟨_, hl⟩
    case inr => exact (hn.lets hl).elim
    unfold Oper.wp at h
    generalize (execOp a.eval oi).run P w = r at h
    cases r with
    | ok n w' =>
      cases n <;> simp only [Oper.upon] at h
      case value u => exact ⟨_, _, Same.put h1, h⟩
      case skip => exact ⟨_, _, Same.put h1, h⟩
      case defer d => exact ⟨_, _, (Same.defers (d :: a.defers)).trans (Same.put h1), h⟩
      case enter f args =>
        obtain ⟨e, w'', fr, hR, _⟩ := h []
        cases e with
        | returned u => exact ⟨_, _, Same.put h1, hR⟩
        | panicked c => exact (hn.1 _ _ _ hR).elim
        | outgrown => exact (hn.lets hR).elim
      case row row args =>
        obtain ⟨u, w'', hR, _⟩ := h default []
        exact ⟨_, _, Same.put h1, hR⟩
    | halt x w' =>
      cases x <;> simp only [Oper.upon] at h
      exact (hn.1 _ _ _ h).elim
  · exact ⟨_, _, Same.put h1, h⟩

theorem swap_first {i j : Nat} {oi oj : Oper} {K : Act → World → Prop} {a : Act} {w : World} (hc : CellsB ds w0) (hn : OnlyNormal Q) (hi : ops[i]? = some oi) (hj : ops[j]? = some oj)
    (hap : oi.apart ops oj = true) (hsi : ∀ cs b, oi.op ≠ .select cs b) (hsj : ∀ cs b, oj.op ≠ .select cs b) (hm : muteB P bts oi = true) (hS : StayB ds w0 w)
    (h : opT P bts ds w0 ops Q i (opT P bts ds w0 ops Q j K) a w) : opT P bts ds w0 ops Q j (opT P bts ds w0 ops Q i K) a w := by
  obtain ⟨h1, h2, h3⟩ := Oper.apart_spec hap
  obtain ⟨v, hy, hk⟩ := yields_of hc hn hi hm hS h
  refine ⟨fun o ho hmo => (hk.1 o ho hmo).same hj (Same.put h1).symm, ?_⟩
  refine wpOp_mono (fun a' w' h' => ⟨h'.2.1, fun o ho hmo => (h.1 o ho hmo).same hi h'.1, ?_⟩) (wpOp_behind hj hap hsj hn hk.2)
  exact (hy.of_same (h'.1.exec hsi) h'.1.2).wpOp hi h'.2.1 h'.2

theorem swap_second {i j : Nat} {oi oj : Oper} {K : Act → World → Prop} {a : Act} {w : World} (hc : CellsB ds w0) (hn : OnlyNormal Q) (hi : ops[i]? = some oi) (hj : ops[j]? = some oj)
    (hap : oi.apart ops oj = true) (hsi : ∀ cs b, oi.op ≠ .select cs b) (hsj : ∀ cs b, oj.op ≠ .select cs b) (hm : muteB P bts oj = true) (hS : StayB ds w0 w)
    (h : opT P bts ds w0 ops Q i (opT P bts ds w0 ops Q j K) a w) : opT P bts ds w0 ops Q j (opT P bts ds w0 ops Q i K) a w := by
  obtain ⟨h1, h2, h3⟩ := Oper.apart_spec hap
  obtain ⟨a', w', hs, hS', hk⟩ := some_end (oj := oj) hi hn h1 h.2
  obtain ⟨v, hy', _⟩ := yields_of hc hn hj hm hS' hk
  have hy : YieldsS P (StayB ds w0) ops oj v a := hy'.of_same (hs.symm.exec hsj) hs.symm.2
  refine ⟨fun o ho hmo => (hk.1 o ho hmo).same hj hs.symm, ?_⟩
  refine hy.wpOp hj hS ⟨hS, fun o ho hmo => (h.1 o ho hmo).same hi (Same.put h3), ?_⟩
  refine wpOp_ahead hi hap hsi hn ?_ h.2
  intro a'' w'' hs' hk'
  obtain ⟨hS'', hk'⟩ := hk'
  obtain ⟨v', hy'', hk''⟩ := yields_of hc hn hj hm hS'' hk'
  have : v' = v := by
    have hyv := hy.of_same (hs'.exec hsj) hs'.2
    rcases hyv with ⟨hw, hv⟩ | ⟨hw, rfl⟩ <;> rcases hy'' with ⟨hw', hv'⟩ | ⟨hw', rfl⟩
    · have := (hv w'' hS'').symm.trans (hv' w'' hS''); simpa using this.symm
    · rw [hw] at hw'; cases hw'
    · rw [hw] at hw'; cases hw'
    · rfl
  rw [← this]; exact ⟨hS'', hk''⟩

/-- operations in a given order -/
def runT (P : Program) (bts : List TypeId × List TypeId) (ds : List Nat) (w0 : World) (ops : Array Oper) (Q : Exit → Act → World → Prop) : List Nat → Act → World → Prop
  | [], a, w => Q .normal a w
  | i :: r, a, w => opT P bts ds w0 ops Q i (runT P bts ds w0 ops Q r) a w

def indep (P : Program) (bts : List TypeId × List TypeId) (ops : Array Oper) (i j : Nat) : Prop :=
  ∃ oi oj, ops[i]? = some oi ∧ ops[j]? = some oj ∧ oi.apart ops oj = true ∧ (∀ cs b, oi.op ≠ .select cs b) ∧ (∀ cs b, oj.op ≠ .select cs b) ∧ (muteB P bts oi = true ∨ muteB P bts oj = true)

theorem to_front (hc : CellsB ds w0) (hn : OnlyNormal Q) {j : Nat} {post : List Nat} : ∀ (pre : List Nat) (a : Act) (w : World), StayB ds w0 w → (∀ p ∈ pre, indep P bts ops p j) →
    runT P bts ds w0 ops Q (pre ++ j :: post) a w → runT P bts ds w0 ops Q (j :: (pre ++ post)) a w := by
  intro pre
  induction pre with
  | nil => intro a w _ _ h; exact h
  | cons p pre ih =>
    intro a w hS hp h
    have h' : opT P bts ds w0 ops Q p (opT P bts ds w0 ops Q j (runT P bts ds w0 ops Q (pre ++ post))) a w := opT_mono (fun a w hS h => ih a w hS (fun q hq => hp q (List.mem_cons_of_mem _ hq)) h) h
    obtain ⟨oi, oj, hi, hj, hap, hsi, hsj, hm⟩ := hp p (List.mem_cons_self ..)
    rcases hm with hm | hm
    · exact swap_first hc hn hi hj hap hsi hsj hm hS h'
    · exact swap_second hc hn hi hj hap hsi hsj hm hS h'
end

/-! ### The order of the text serves -/
/-- what stands ahead of each operation, by its edges and theirs, as bits -/
def befs (ops : List Oper) : List Nat :=
  ops.foldl (fun acc o => acc ++ [o.after.foldl (fun s e => if Region.binds .any e then s ||| 2 ^ e.on ||| acc.getD e.on 0 else s) 0]) []
def isSelect (o : Oper) : Bool := match o.op with | .select .. => true | _ => false
theorem not_select {o : Oper} (h : isSelect o = false) : ∀ cs b, o.op ≠ .select cs b := fun cs b e => by simp [isSelect, e] at h

/-- the closed fact that is asked of a region -/
def chkRegion (P : Program) (bts : List TypeId × List TypeId) (ops : Array Oper) (B : List Nat) : Bool :=
  (List.range ops.size).all fun j => match ops[j]? with
    | none => false
    | some oj => (!isSelect oj && (!(asks bts oj).isSome || fitsTypes P bts oj)) && (oj.after.all fun e => !Region.binds .any e || decide (e.on < j)) &&
      (List.range j).all fun p => match ops[p]? with
        | none => false
        | some op =>
          if (B.getD j 0).testBit p then oj.after.any fun e => Region.binds .any e && (e.on == p || (decide (p < e.on) && (B.getD e.on 0).testBit p))
          else op.apart ops oj && (muteB P bts op || muteB P bts oj)

theorem chk_edge {B : List Nat} (h : chkRegion P bts ops B = true) {j : Nat} {oj : Oper} (hj : ops[j]? = some oj) : isSelect oj = false ∧ (∀ e ∈ oj.after, Region.binds .any e = true → e.on < j) ∧ ((asks bts oj).isSome = true → fitsTypes P bts oj = true) := by
  have hlt : j < ops.size := (Array.getElem?_eq_some_iff.1 hj).1
  simp only [chkRegion, List.all_eq_true, List.mem_range] at h
  have h1 := h j hlt
  rw [hj] at h1
  simp only [Bool.and_eq_true, Bool.not_eq_true', Array.all_eq_true_iff_forall_mem, Bool.or_eq_true, decide_eq_true_eq] at h1
  refine ⟨h1.1.1.1, fun e he hb => (h1.1.2 e he).resolve_left (by simp [hb]), fun ha => h1.1.1.2.resolve_left (by simp [ha])⟩

theorem chk_pair {B : List Nat} (h : chkRegion P bts ops B = true) {j p : Nat} {oj : Oper} (hj : ops[j]? = some oj) (hp : p < j) :
    ((B.getD j 0).testBit p = true → ∃ e ∈ oj.after, Region.binds .any e = true ∧ (e.on = p ∨ p < e.on ∧ (B.getD e.on 0).testBit p = true)) ∧ ((B.getD j 0).testBit p = false → indep P bts ops p j) := by
  have hlt : j < ops.size := (Array.getElem?_eq_some_iff.1 hj).1
  have hsj := (chk_edge h hj).1
  have h0 := h
  simp only [chkRegion, List.all_eq_true, List.mem_range] at h
  have h1 := h j hlt
  rw [hj] at h1
  simp only [Bool.and_eq_true, List.all_eq_true, List.mem_range] at h1
  have h2 := h1.2 p hp
  cases ho : ops[p]? with
  | none => rw [ho] at h2; cases h2
  | some op =>
    rw [ho] at h2
    simp only at h2
    constructor
    · intro hb
      rw [if_pos hb] at h2
      obtain ⟨e, he, hh⟩ := Array.any_eq_true'.1 h2
      simp only [Bool.and_eq_true, Bool.or_eq_true, beq_iff_eq, decide_eq_true_eq] at hh
      exact ⟨e, he, hh.1, hh.2⟩
    · intro hb
      rw [if_neg (by rw [hb]; exact Bool.false_ne_true)] at h2
      simp only [Bool.and_eq_true, Bool.or_eq_true] at h2
      exact ⟨op, oj, ho, hj, h2.1, not_select (chk_edge h0 ho).1, not_select hsj, h2.2⟩

/-- where we stand: L is what is still to come -/
structure Stand (ops : Array Oper) (L : List Nat) (listed : Array Bool) : Prop where
  sorted : L.Pairwise (· < ·)
  mem : ∀ i, i ∈ L ↔ i < ops.size ∧ listed.getD i true = false
  size : listed.size = ops.size
  closed : ∀ (i : Nat) o, ops[i]? = some o → listed.getD i false = true → ∀ e ∈ o.after, Region.binds .any e = true → listed.getD e.on false = true

theorem closed_bits {B : List Nat} (h : chkRegion P bts ops B = true) {L : List Nat} {listed : Array Bool} (st : Stand ops L listed) :
    ∀ (n m : Nat), m < n → ∀ o, ops[m]? = some o → (∀ e ∈ o.after, Region.binds .any e = true → listed.getD e.on false = true) → ∀ p, p < m → (B.getD m 0).testBit p = true → listed.getD p false = true := by
  intro n
  induction n with
  | zero => intro m hm; omega
  | succ n ih =>
    intro m hm o ho hl p hp hb
    obtain ⟨e, he, hbind, h1⟩ := (chk_pair h ho hp).1 hb
    have hle := hl e he hbind
    have hlt := (chk_edge h ho).2.1 e he hbind
    rcases h1 with h1 | ⟨hpe, h1⟩
    · rw [← h1]; exact hle
    · have hon : e.on < ops.size := by have := (Array.getElem?_eq_some_iff.1 ho).1; omega
      obtain ⟨oe, hoe⟩ : ∃ oe, ops[e.on]? = some oe := ⟨_, Array.getElem?_eq_getElem hon⟩
      exact ih e.on (by omega) oe hoe (st.closed _ _ hoe hle) p hpe h1

theorem text_any {ds : List Nat} {w0 : World} {B : List Nat} (h : chkRegion P bts ops B = true) (hc : CellsB ds w0) (hn : OnlyNormal Q) : ∀ (k : Nat) (L : List Nat) (listed : Array Bool) (a : Act) (w : World), L.length = k → StayB ds w0 w → Stand ops L listed →
    runT P bts ds w0 ops Q L a w → wpAny P .any ops Q k listed a w := by
  intro k
  induction k with
  | zero =>
    intro L listed a w hk hS st hr
    obtain rfl : L = [] := List.length_eq_zero_iff.1 hk
    have hready : Region.ready .any ops listed = [] := by
      cases hrd : Region.ready .any ops listed with
      | nil => rfl
      | cons j js =>
        have hj : j ∈ Region.ready .any ops listed := by rw [hrd]; exact List.mem_cons_self ..
        obtain ⟨h0, o, ho, _⟩ := mem_ready.1 hj
        have := (st.mem j).2 ⟨(Array.getElem?_eq_some_iff.1 ho).1, h0⟩
        cases this
    exact ⟨hready, hr⟩
  | succ k ih =>
    intro L listed a w hk hS st hr
    refine ⟨fun hnone => ?_, fun j hj => ?_⟩
    · exfalso
      cases L with
      | nil => simp at hk
      | cons i0 L =>
        obtain ⟨hlt, hun⟩ := (st.mem i0).1 (List.mem_cons_self ..)
        have : i0 ∈ Region.ready .any ops listed := by
          refine mem_ready.2 ⟨hun, _, Array.getElem?_eq_getElem hlt, fun e he hb => ?_⟩
          have hon := (chk_edge h (Array.getElem?_eq_getElem hlt)).2.1 e he hb
          have hnot : e.on ∉ i0 :: L := by
            intro hm
            rcases List.mem_cons.1 hm with hm | hm
            · omega
            · have := List.rel_of_pairwise_cons st.sorted hm; omega
          have hsz : e.on < listed.size := by rw [st.size]; omega
          by_cases hl : listed.getD e.on false = true
          · exact hl
          · exfalso
            apply hnot
            rw [st.mem]
            refine ⟨by omega, ?_⟩
            simp only [Array.getD_eq_getD_getElem?, Array.getElem?_eq_getElem hsz, Option.getD_some] at hl ⊢
            simpa using hl
        rw [hnone] at this
        cases this
    · obtain ⟨h0, oj, hoj, hall⟩ := mem_ready.1 hj
      have hjL : j ∈ L := (st.mem j).2 ⟨(Array.getElem?_eq_some_iff.1 hoj).1, h0⟩
      obtain ⟨pre, post, rfl⟩ := List.append_of_mem hjL
      have hpw := List.pairwise_append.1 st.sorted
      have hind : ∀ p ∈ pre, indep P bts ops p j := by
        intro p hp
        have hlt : p < j := hpw.2.2 p hp j (List.mem_cons_self ..)
        cases hb : (B.getD j 0).testBit p with
        | false => exact (chk_pair h hoj hlt).2 hb
        | true =>
          exfalso
          have hlp := closed_bits h st (j + 1) j (by omega) oj hoj hall p hlt hb
          have hpu := ((st.mem p).1 (List.mem_append_left _ hp)).2
          have hsz : p < listed.size := by rw [st.size]; exact ((st.mem p).1 (List.mem_append_left _ hp)).1
          simp only [Array.getD_eq_getD_getElem?, Array.getElem?_eq_getElem hsz, Option.getD_some] at hlp hpu
          rw [hlp] at hpu; cases hpu
      have hfr := to_front hc hn pre a w hS hind hr
      have hjs : j < listed.size := by rw [st.size]; exact (Array.getElem?_eq_some_iff.1 hoj).1
      have hnd : j ∉ pre ++ post := by
        intro hm
        rcases List.mem_append.1 hm with hm | hm
        · have := hpw.2.2 j hm j (List.mem_cons_self ..); omega
        · have := List.rel_of_pairwise_cons hpw.2.1 hm; omega
      refine wpOp_mono (fun a' w' h' => ih (pre ++ post) (listed.setIfInBounds j true) a' w' ?_ h'.1 ?_ h'.2) hfr.2
      · simp only [List.length_append, List.length_cons] at hk ⊢; omega
      · refine ⟨?_, ?_, by simpa using st.size, ?_⟩
        · refine List.pairwise_append.2 ⟨hpw.1, (List.pairwise_cons.1 hpw.2.1).2, fun x hx y hy => hpw.2.2 x hx y (List.mem_cons_of_mem _ hy)⟩
        · intro i
          by_cases hij : i = j
          · subst hij
            constructor
            · intro hm; exact absurd hm hnd
            · intro hm; simp [hjs] at hm
          · rw [getD_set_ne true (Ne.symm hij), ← st.mem i]
            simp only [List.mem_append, List.mem_cons]
            constructor
            · rintro (hm | hm)
              · exact .inl hm
              · exact .inr (.inr hm)
            · rintro (hm | hm | hm)
              · exact .inl hm
              · exact absurd hm hij
              · exact .inr hm
        · intro i o hi hl e he hb
          by_cases hij : i = j
          · subst hij
            rw [hoj] at hi; cases hi
            exact getD_set_true (hall e he hb)
          · rw [getD_set_ne false (Ne.symm hij)] at hl
            exact getD_set_true (st.closed i o hi hl e he hb)

/-! ### The text, with what is asked laid ahead -/
def askOps (bts : List TypeId × List TypeId) (o : Oper) : List Oper :=
  match asks bts o with
  | some l => l.map fun op => { o with dst := none, op := op, after := #[] }
  | none => []
def instr (bts : List TypeId × List TypeId) : List Oper → List Oper
  | [] => []
  | o :: r => askOps bts o ++ o :: instr bts r

theorem ask_step {o oA : Oper} {e : Sem Value} {rest : List Oper} {a : Act} {w : World} (hn : OnlyNormal Q) (hg : oA.guard = o.guard) (hd : oA.dst = none) (he : execOp a.eval oA = (do pure (.value (← e)))) (ht : Tame P e)
    (h : wpList P ops Q (oA :: rest) a w) : (Region.wanted o (yielded ops a.tmps) = true → ∃ x, e.run P w = .ok x w) ∧ wpList P ops Q rest a w := by
  unfold wpList at h
  have hwant : Region.wanted oA (yielded ops a.tmps) = Region.wanted o (yielded ops a.tmps) := by simp only [Region.wanted, hg]
  rw [hwant] at h
  split at h
  · rcases h with h | ⟨_, hl⟩
    case inr => exact (hn.lets hl).elim
    unfold Oper.wp at h
    rw [he, Sem.run_bind] at h
    cases hr : e.run P w with
    | ok x w1 =>
      have hx := ht _ _ _ hr w
      rw [hx] at h
      simp only [Result.andThen_ok, Sem.run_pure, Oper.upon, hd] at h
      exact ⟨fun _ => ⟨x, hr ▸ hx⟩, h⟩
    | halt x w1 =>
      rw [hr] at h
      cases x <;> simp only [Result.andThen, Oper.upon] at h
      exact (hn.1 _ _ _ h).elim
  · rename_i hw
    rw [hd] at h
    exact ⟨fun hw' => absurd hw' hw, h⟩

theorem ask_met {o : Oper} {l : List Op} {rest : List Oper} {a : Act} {w : World} (hn : OnlyNormal Q) (hl : asks bts o = some l) (hf : fitsTypes P bts o = true)
    (h : wpList P ops Q (askOps bts o ++ rest) a w) : (Region.wanted o (yielded ops a.tmps) = true → okOp bts o a.eval) ∧ wpList P ops Q rest a w := by
  unfold askOps at h
  rw [hl] at h
  simp only at h
  obtain ⟨dst, op, type, pos, after, guard⟩ := o
  cases op <;> simp only [asks] at hl <;> try (cases hl)
  case nilCheck x =>
    simp only [List.map_cons, List.map_nil, List.cons_append, List.nil_append] at h
    obtain ⟨h1, h2⟩ := ask_step (o := ⟨dst, .nilCheck x, type, pos, after, guard⟩) hn (by rfl) (by rfl) (by rfl) (tame_eq_nil (P := P) (op := .eql) (t := bts.2.getLastD 0) (x := x) (y := .const (.pointer none)) (ρ := a.eval) (fun _ => rfl) rfl rfl) h
    refine ⟨fun hw => ?_, h2⟩
    obtain ⟨v, hv⟩ := h1 hw
    obtain ⟨_, w2, _, hv⟩ := run_bind_ok hv
    simp only [okOp]
    have hev : a.eval (.const (.pointer none)) = .pointer none := rfl
    rw [hev] at hv
    cases hx : a.eval x with
    | pointer p => exact ⟨p, rfl⟩
    | _ =>
      rw [hx] at hv
      simp only [binOp] at hv
      obtain ⟨_, _, hv, _⟩ := run_bind_ok hv
      exact absurd hv (ptr_or_never _ _ (by simp) _ _ _)
  case binOp op t x y yt =>
    simp only [okOp]
    by_cases hc : (eqOrNe op && isNil y) = true
    · rw [if_pos hc] at hl ⊢
      cases hl
      exact ⟨fun _ => trivial, h⟩
    · rw [if_neg hc] at hl ⊢
      by_cases hpq : ptrEq bts op t = true
      · rw [if_pos hpq] at hl; cases hl
      rw [if_neg hpq] at hl
      by_cases hb : bts.1.contains t = true
      · rw [if_pos hb] at hl ⊢
        cases hl
        simp only [List.map_cons, List.map_nil, List.cons_append, List.nil_append] at h
        obtain ⟨h1, h2⟩ := ask_step (o := ⟨dst, .binOp op t x y yt, type, pos, after, guard⟩) hn (by rfl) (by rfl) (by rfl) (tame_unary .not (a.eval x)) h
        obtain ⟨h3, h4⟩ := ask_step (o := ⟨dst, .binOp op t x y yt, type, pos, after, guard⟩) hn (by rfl) (by rfl) (by rfl) (tame_unary .not (a.eval y)) h2
        refine ⟨fun hw => ?_, h4⟩
        obtain ⟨v, hv⟩ := h1 hw
        obtain ⟨u, hu⟩ := h3 hw
        exact ⟨not_bool hv, not_bool hu⟩
      · rw [if_neg hb] at hl ⊢
        by_cases hst : (eqOrNe op && bts.2.contains t) = true
        · rw [if_pos hst] at hl ⊢
          cases hl
          have hty : P.underlying t = some .string := by
            simp only [fitsTypes] at hf
            rw [if_neg hc, if_neg hb, if_pos hst] at hf
            split at hf
            · assumption
            · cases hf
          simp only [List.map_cons, List.map_nil, List.cons_append, List.nil_append] at h
          have hx : ∀ z : Operand, execOp a.eval { dst := none, op := .call { callee := .builtin .len, args := #[z], argTypes := #[t] }, type := type, pos := pos, after := #[], guard := guard } = (do pure (.value (← Builtin.len_ #[t] type (#[z].map a.eval)))) := fun z => by
            simp only [execOp, resolve, invoke, builtin]; rfl
          have em : ∀ z : Operand, (#[z].map a.eval) = #[a.eval z] := fun z => by simp
          obtain ⟨h1, h2⟩ := ask_step (o := ⟨dst, .binOp op t x y yt, type, pos, after, guard⟩) hn (by rfl) (by rfl) (hx x) (tame_len _ _ _ t rfl (.inr (.inl hty))) h
          obtain ⟨h3, h4⟩ := ask_step (o := ⟨dst, .binOp op t x y yt, type, pos, after, guard⟩) hn (by rfl) (by rfl) (hx y) (tame_len _ _ _ t rfl (.inr (.inl hty))) h2
          refine ⟨fun hw => ?_, h4⟩
          obtain ⟨v, hv⟩ := h1 hw
          obtain ⟨u, hu⟩ := h3 hw
          rw [em] at hv hu
          exact ⟨string_of_len hty hv, string_of_len hty hu⟩
        rw [if_neg hst] at hl ⊢
        cases hl
        simp only [List.map_cons, List.map_nil, List.cons_append, List.nil_append] at h
        obtain ⟨h1, h2⟩ := ask_step (o := ⟨dst, .binOp op t x y yt, type, pos, after, guard⟩) hn (by rfl) (by rfl) (by rfl) (tame_or t x y (a.eval x) (a.eval y)) h
        refine ⟨fun hw => ?_, h2⟩
        obtain ⟨v, hv⟩ := h1 hw
        obtain ⟨_, _, _, hv⟩ := run_bind_ok hv
        exact or_ints hv
  case convert s d x =>
    simp only [List.map_cons, List.map_nil, List.cons_append, List.nil_append] at h
    obtain ⟨h1, h2⟩ := ask_step (o := ⟨dst, .convert s d x, type, pos, after, guard⟩) hn (by rfl) (by rfl) (by rfl) (tame_or s x x (a.eval x) (a.eval x)) h
    refine ⟨fun hw => ?_, h2⟩
    obtain ⟨v, hv⟩ := h1 hw
    obtain ⟨_, _, _, hv⟩ := run_bind_ok hv
    obtain ⟨k, n, _, hx, _⟩ := or_ints hv
    exact ⟨k, n, hx⟩
  case call c =>
    obtain ⟨callee, args, ats⟩ := c
    cases callee
    case value f => cases hl
    case invoke r m => cases hl
    rename_i b
    cases b <;> try (cases hl)
    exact ⟨fun _ => trivial, h⟩
  all_goals exact ⟨fun _ => trivial, h⟩

/-! ### The text in pieces: behind each operation that may write, and ahead of each load -/
inductive Sep where
  | start | wrote | loads
def isEff (bts : List TypeId × List TypeId) (o : Oper) : Bool := !isLoad o && (asks bts o).isNone
def segs (bts : List TypeId × List TypeId) : List Oper → List (List Oper)
  | [] => [[]]
  | o :: r =>
    if isEff bts o then [o] :: segs bts r
    else match segs bts r with
      | s :: t => if isLoad o then [] :: (o :: s) :: t else (askOps bts o ++ o :: s) :: t
      | [] => [[o]]

/-- ahead of a piece that begins with a load: it is one of the blocks ds'; ahead of each piece: the blocks ds are as they were -/
def wpSegs (P : Program) (ds : List Nat) (w0 : World) (ops : Array Oper) (Q : Exit → Act → World → Prop) : List (List Oper) → Act → World → Prop
  | [], a, w => Q .normal a w
  | s :: t, a, w => (StayB ds w0 w ∧ ∀ o, s.head? = some o → isLoad o = true → Region.wanted o (yielded ops a.tmps) = true → okLoad P w0 ds o a.eval) ∧
      wpList P ops (Exit.then (wpSegs P ds w0 ops Q t) (fun _ _ _ => False)) s a w

variable {ds : List Nat} {w0 : World}
theorem asks_no_load {o : Oper} {l : List Op} (ha : asks bts o = some l) : ∀ op ∈ l, (match op with | .load .. => true | .lookup .. => true | _ => false) = false := by
  obtain ⟨dst, op', type, pos, after, guard⟩ := o
  cases op' <;> simp only [asks] at ha <;> try (cases ha)
  case nilCheck x => intro op hop; simp only [List.mem_singleton] at hop; subst hop; rfl
  case convert s d x => intro op hop; simp only [List.mem_singleton] at hop; subst hop; rfl
  case binOp op t x y yt =>
    split at ha
    · cases ha; intro op hop; cases hop
    · by_cases hpq : ptrEq bts op t = true
      · rw [if_pos hpq] at ha; cases ha
      rw [if_neg hpq] at ha
      split at ha
      · cases ha
        intro op hop
        simp only [List.mem_cons, List.not_mem_nil, or_false] at hop
        rcases hop with rfl | rfl <;> rfl
      · split at ha
        · cases ha
          intro op hop
          simp only [List.mem_cons, List.not_mem_nil, or_false] at hop
          rcases hop with rfl | rfl <;> rfl
        · cases ha
          intro op hop
          simp only [List.mem_singleton] at hop
          subst hop; rfl
  case call c =>
    obtain ⟨callee, args, ats⟩ := c
    cases callee
    case value f => cases ha
    case invoke r m => cases ha
    rename_i b
    cases b <;> try (cases ha)
    intro op hop; cases hop
  all_goals (intro op hop; cases hop)
theorem askOps_no_load {o oA : Oper} (h : oA ∈ askOps bts o) : isLoad oA = false := by
  unfold askOps at h
  split at h
  · rename_i l ha
    simp only [List.mem_map] at h
    obtain ⟨op, hop, rfl⟩ := h
    exact asks_no_load ha op hop
  · cases h
theorem segs_head : ∀ (l : List Oper), ∃ s t, segs bts l = s :: t ∧ ∀ o, s.head? = some o → isLoad o = false := by
  intro l
  induction l with
  | nil => exact ⟨[], [], rfl, by simp⟩
  | cons o r ih =>
    obtain ⟨s, t, hst, _⟩ := ih
    unfold segs
    by_cases he : isEff bts o = true
    · rw [if_pos he]
      refine ⟨_, _, rfl, ?_⟩
      intro o' ho'
      simp only [List.head?_cons, Option.some.injEq] at ho'
      subst ho'
      simp only [isEff, Bool.and_eq_true, Bool.not_eq_true'] at he
      exact he.1
    · rw [if_neg he, hst]
      simp only
      by_cases hl : isLoad o = true
      · rw [if_pos hl]; exact ⟨_, _, rfl, by simp⟩
      · rw [if_neg hl]
        refine ⟨_, _, rfl, ?_⟩
        intro o' ho'
        cases ha : askOps bts o with
        | nil =>
          rw [ha] at ho'
          simp only [List.nil_append, List.head?_cons, Option.some.injEq] at ho'
          subst ho'
          simpa using hl
        | cons x xs =>
          rw [ha] at ho'
          simp only [List.cons_append, List.head?_cons, Option.some.injEq] at ho'
          subst ho'
          exact askOps_no_load (o := o) (by rw [ha]; exact List.mem_cons_self ..)

theorem wp_toQ {Q' : Exit → Act → World → Prop} (hn : OnlyNormal Q') {o : Oper} {a : Act} {w : World} {K K' : Act → World → Prop} (h : ∀ a w, K a w → K' a w) (hh : o.wp P a w K Q') : o.wp P a w K' Q := by
  unfold Oper.wp at *
  generalize (execOp a.eval o).run P w = r at *
  cases r with
  | ok n w' =>
    cases n <;> simp only [Oper.upon] at hh ⊢
    case value v => exact h _ _ hh
    case skip => exact h _ _ hh
    case defer d => exact h _ _ hh
    case enter f args =>
      exact Calls.mono hh (fun e w'' he => by
        cases e with
        | returned v => exact h _ _ he
        | panicked c => exact (hn.1 _ _ _ he).elim
        | outgrown => exact (hn.lets he).elim)
    case row row args => exact Rows.mono hh (fun _ _ he => h _ _ he)
  | halt x w' =>
    cases x <;> simp only [Oper.upon] at hh ⊢
    exact (hn.1 _ _ _ hh).elim

theorem only_then (K : Act → World → Prop) : OnlyNormal (Exit.then K (fun _ _ _ => False)) := ⟨fun _ _ _ h => h, fun _ _ h => h⟩

/-- the first operation of a list, and the rest -/
theorem list_op {k : Nat} {o : Oper} {l : List Oper} {K : Act → World → Prop} {a : Act} {w : World} (h0 : ops[k]? = some o) (h : wpList P ops (Exit.then K (fun _ _ _ => False)) (o :: l) a w) :
    wpOp P ops Q k (fun a w => wpList P ops (Exit.then K (fun _ _ _ => False)) l a w) a w := by
  unfold wpList at h
  unfold wpOp
  rw [h0]
  simp only
  split at h
  · rename_i hw
    rw [if_pos hw]
    rcases h with h | ⟨_, hl⟩
    · exact .inl (wp_toQ (only_then _) (fun a w h => h) h)
    · exact ((only_then _).lets hl).elim
  · rename_i hw
    rw [if_neg hw]
    exact h

/-- a mute one, or a load, leaves the world -/
theorem mute_op {k : Nat} {o : Oper} {K K' : Act → World → Prop} {a : Act} {w : World} (hc : CellsB ds w0) (hn : OnlyNormal Q) (h0 : ops[k]? = some o) (hm : muteB P bts o = true) (hS : StayB ds w0 w)
    (hok : Region.wanted o (yielded ops a.tmps) = true → okOp bts o a.eval ∧ okLoad P w0 ds o a.eval) (hK : ∀ a, K a w → K' a w) (h : wpOp P ops Q k K a w) : opT P bts ds w0 ops Q k K' a w := by
  refine ⟨fun o' ho' _ o'' ho'' hw => (by rw [h0] at ho''; cases ho''; exact hok hw), ?_⟩
  unfold wpOp at *
  rw [h0] at h ⊢
  simp only at h ⊢
  split at h
  · rename_i hw
    rw [if_pos hw]
    have hma := muteS_at hc hm (hok hw).1 (hok hw).2
    rcases h with h | ⟨_, h⟩
    · refine .inl ?_
      unfold Oper.wp at *
      cases hr : (execOp a.eval o).run P w with
      | ok n w1 =>
        obtain ⟨v, rfl, hv⟩ := hma _ _ _ hS hr
        have e := hv w hS
        rw [hr] at e
        simp only [Result.ok.injEq, true_and] at e
        subst e
        rw [hr] at h
        exact ⟨hS, hK _ h⟩
      | halt x w1 =>
        rw [hr] at h
        cases x <;> simp only [Oper.upon] at h
        exact (hn.1 _ _ _ h).elim
    · exact (hn.lets h).elim
  · rename_i hw
    rw [if_neg hw]
    exact ⟨hS, hK _ h⟩

theorem runT_of_segs (hc : CellsB ds w0) (hn : OnlyNormal Q) (hfit : ∀ (j : Nat) o, ops[j]? = some o → (asks bts o).isSome = true → fitsTypes P bts o = true) (l : List Oper) :
    ∀ (k : Nat) (s : List Oper) (t : List (List Oper)) (a : Act) (w : World), (∀ j, l[j]? = ops[k + j]?) → segs bts l = s :: t → StayB ds w0 w →
      wpList P ops (Exit.then (wpSegs P ds w0 ops Q t) (fun _ _ _ => False)) s a w → runT P bts ds w0 ops Q (List.range' k l.length) a w := by
  induction l with
  | nil => intro k s t a w _ hs _ h; simp only [segs, List.cons.injEq] at hs; obtain ⟨rfl, rfl⟩ := hs; exact h
  | cons o l ih =>
    intro k s t a w hk hs hS h
    have h0 : ops[k]? = some o := by have := hk 0; simpa using this.symm
    have hk' : ∀ j, l[j]? = ops[k + 1 + j]? := fun j => by have := hk (j + 1); rw [show k + 1 + j = k + (j + 1) by omega]; simpa using this
    obtain ⟨s', t', hs', hhead⟩ := segs_head (bts := bts) l
    simp only [List.length_cons, List.range'_succ, runT]
    unfold segs at hs
    by_cases he : isEff bts o = true
    · rw [if_pos he] at hs
      simp only [List.cons.injEq] at hs
      obtain ⟨rfl, rfl⟩ := hs
      have hnm : muteB P bts o = false := by
        simp only [isEff, Bool.and_eq_true, Bool.not_eq_true'] at he
        simp [muteB, he.1, Option.isNone_iff_eq_none.1 he.2]
      refine ⟨fun o' ho' hm => (by rw [h0] at ho'; cases ho'; rw [hnm] at hm; cases hm), ?_⟩
      refine wpOp_mono (fun a w h => ?_) (list_op h0 h)
      have h' : wpSegs P ds w0 ops Q (segs bts l) a w := h
      rw [hs'] at h'
      exact ⟨h'.1.1, ih (k + 1) s' t' a w hk' hs' h'.1.1 h'.2⟩
    · rw [if_neg he, hs'] at hs
      simp only at hs
      by_cases hl : isLoad o = true
      · rw [if_pos hl] at hs
        simp only [List.cons.injEq] at hs
        obtain ⟨rfl, rfl⟩ := hs
        have h' : wpSegs P ds w0 ops Q ((o :: s') :: t') a w := h
        obtain ⟨⟨_, hld⟩, h''⟩ := h'
        refine mute_op hc hn h0 (by simp [muteB, hl]) hS (fun hw => ⟨?_, hld o rfl hl hw⟩) (fun a' hk'' => ih (k + 1) s' t' a' w hk' hs' hS hk'') (list_op h0 h'')
        obtain ⟨dst, op, type, pos, after, guard⟩ := o
        cases op <;> simp only [isLoad] at hl <;> try (cases hl)
        all_goals trivial
      · rw [if_neg hl] at hs
        simp only [List.cons.injEq] at hs
        obtain ⟨rfl, rfl⟩ := hs
        have hsome : (asks bts o).isSome = true := by
          simp only [isEff, Bool.and_eq_true, Bool.not_eq_true', not_and] at he
          cases ha : asks bts o with
          | none => exact absurd (by simp [ha]) (he (by simpa using hl))
          | some l => rfl
        obtain ⟨l', hl'⟩ := Option.isSome_iff_exists.1 hsome
        obtain ⟨h1, h2⟩ := ask_met (only_then _) hl' (hfit k o h0 hsome) h
        refine mute_op hc hn h0 (by simp [muteB, hsome, hfit k o h0 hsome]) hS (fun hw => ⟨h1 hw, ?_⟩) (fun a' hk'' => ih (k + 1) s' t' a' w hk' hs' hS hk'') (list_op h0 h2)
        obtain ⟨dst, op, type, pos, after, guard⟩ := o
        cases op <;> first | trivial | (simp [isLoad] at hl)

/-- A REGION THAT DRAWS ITS ORDER, WALKED IN THE ORDER OF ITS TEXT, in pieces: whatever comes up. -/
theorem any_region_text {l : List Oper} {a : Act} {w : World} (bts : List TypeId × List TypeId) (ds : List Nat) (hk : chkRegion P bts l.toArray (befs l) = true) (hc : CellsB ds w) {sl : List (List Oper)} (hsl : segs bts l = sl)
    (h : wpSegs P ds w l.toArray (Exit.then (Q .normal) (fun _ _ _ => False)) sl a w.drew) : wpAny P .any l.toArray (Exit.then (Q .normal) (fun _ _ _ => False)) l.toArray.size (Array.replicate l.toArray.size false) a w.drew := by
  have hn : OnlyNormal (Exit.then (Q .normal) (fun _ _ _ => False)) := only_then _
  subst hsl
  obtain ⟨s, t, hst, _⟩ := segs_head (bts := bts) l
  rw [hst] at h
  have hS : StayB ds w w.drew := fun b _ => rfl
  have hr := runT_of_segs (ops := l.toArray) (bts := bts) hc hn (fun j o ho ha => (chk_edge hk ho).2.2 ha) l 0 s t a w.drew (fun j => by simp) hst hS h.2
  refine text_any hk hc hn l.toArray.size (List.range' 0 l.length) _ a _ (by simp) hS ?_ hr
  refine ⟨?_, ?_, by simp, ?_⟩
  · exact List.pairwise_lt_range'
  · intro i
    rw [List.mem_range']
    constructor
    · rintro ⟨j, hj, rfl⟩
      simp [hj]
    · rintro ⟨hi, _⟩
      exact ⟨i, by simpa using hi, by omega⟩
  · intro i o hi hl
    exfalso
    have hlt : i < l.toArray.size := (Array.getElem?_eq_some_iff.1 hi).1
    simp at hlt
    simp [hlt] at hl

/-- A REGION THAT DRAWS ITS ORDER, WALKED IN THE ORDER OF ITS TEXT, in pieces. -/
theorem wp_region_text {id : Nat} {l : List Oper} {a : Act} {w : World} (bts : List TypeId × List TypeId) (ds : List Nat) (hm : P.follows .mixedOrders = true) (hk : chkRegion P bts l.toArray (befs l) = true) (hc : CellsB ds w) {sl : List (List Oper)} (hsl : segs bts l = sl)
    (h : wpSegs P ds w l.toArray (Exit.then (Q .normal) (fun _ _ _ => False)) sl a w.drew) : (Code.region id l.toArray true).wp P Q a w :=
  wp_mono (Q := Exit.then (Q .normal) (fun _ _ _ => False)) (wp_region_any hm (any_region_text bts ds hk hc hsl h)) (fun e a w hq => by cases e <;> first | exact hq | exact hq.elim)

/-! ### How a piece is begun -/
theorem segs_nil {a : Act} {w : World} (h : Q .normal a w) : wpSegs P ds w0 ops Q [] a w := h
/-- a piece that begins with no load -/
theorem segs_go {s : List Oper} {t : List (List Oper)} {a : Act} {w : World} (hS : StayB ds w0 w) (hd : ∀ o, s.head? = some o → isLoad o = false)
    (h : wpList P ops (Exit.then (wpSegs P ds w0 ops Q t) (fun _ _ _ => False)) s a w) : wpSegs P ds w0 ops Q (s :: t) a w :=
  ⟨⟨hS, fun o ho hl _ => by rw [hd o ho] at hl; cases hl⟩, h⟩
/-- a piece that begins with a load -/
theorem segs_load {o : Oper} {s : List Oper} {t : List (List Oper)} {a : Act} {w : World} (hS : StayB ds w0 w) (hd : Region.wanted o (yielded ops a.tmps) = true → okLoad P w0 ds o a.eval)
    (h : wpList P ops (Exit.then (wpSegs P ds w0 ops Q t) (fun _ _ _ => False)) (o :: s) a w) : wpSegs P ds w0 ops Q ((o :: s) :: t) a w :=
  ⟨⟨hS, fun o' ho' _ hw => by simp only [List.head?_cons, Option.some.injEq] at ho'; subst ho'; exact hd hw⟩, h⟩
theorem stay_nil {w0 w : World} : StayB [] w0 w := fun b hb => by cases hb
theorem cellsB_nil {w0 : World} : CellsB [] w0 := fun b hb => by cases hb
theorem cellsB_map {b : Nat} {ds : List Nat} {w0 : World} (h : ∃ es k, w0.heap[b]? = some (.map es k)) (k : CellsB ds w0) : CellsB (b :: ds) w0 := fun x hx => by
  rcases List.mem_cons.1 hx with rfl | hx
  · exact .inr h
  · exact k x hx
theorem cellsB_cons {b : Nat} {ds : List Nat} {w0 : World} (h : ∃ c t f, w0.heap[b]? = some (.cells c t f)) (k : CellsB ds w0) : CellsB (b :: ds) w0 := fun x hx => by
  rcases List.mem_cons.1 hx with rfl | hx
  · exact .inl h
  · exact k x hx
theorem StayB.kept {ds : List Nat} {w0 w w' : World} {S : Nat → Prop} (h : StayB ds w0 w) (k : Kept S w w') (hs : ∀ b ∈ ds, b < w.heap.size ∧ ¬ S b) : StayB ds w0 w' := fun b hb =>
  (k.block b (hs b hb).1 (hs b hb).2).trans (h b hb)
theorem stay_drew {ds : List Nat} {w : World} : StayB ds w w.drew := fun _ _ => rfl
end
end Go.Proofs.Ytbikganlloopbaa
namespace Go.Proofs.Ytbikganlloopbaa
set_option linter.unusedVariables false
set_option linter.unusedSimpArgs false
open Go Go.RowKit

section
variable {P : Program} {bts : List TypeId × List TypeId} {ops : Array Oper} {Q : Exit → Act → World → Prop} {ds : List Nat} {w0 : World}

theorem stand_ready {B : List Nat} (h : chkRegion P bts ops B = true) {L : List Nat} {listed : Array Bool} (st : Stand ops L listed) (hne : L ≠ []) : Region.ready .any ops listed ≠ [] := by
  intro hnone
  cases L with
  | nil => exact hne rfl
  | cons i0 L =>
    obtain ⟨hlt, hun⟩ := (st.mem i0).1 (List.mem_cons_self ..)
    have : i0 ∈ Region.ready .any ops listed := by
      refine mem_ready.2 ⟨hun, _, Array.getElem?_eq_getElem hlt, fun e he hb => ?_⟩
      have hon := (chk_edge h (Array.getElem?_eq_getElem hlt)).2.1 e he hb
      have hnot : e.on ∉ i0 :: L := by
        intro hm
        rcases List.mem_cons.1 hm with hm | hm
        · omega
        · have := List.rel_of_pairwise_cons st.sorted hm; omega
      have hsz : e.on < listed.size := by rw [st.size]; omega
      by_cases hl : listed.getD e.on false = true
      · exact hl
      · exfalso
        apply hnot
        rw [st.mem]
        refine ⟨by omega, ?_⟩
        simp only [Array.getD_eq_getD_getElem?, Array.getElem?_eq_getElem hsz, Option.getD_some] at hl ⊢
        simpa using hl
    rw [hnone] at this
    cases this
theorem stand_none {listed : Array Bool} (st : Stand ops [] listed) : Region.ready .any ops listed = [] := by
  cases hrd : Region.ready .any ops listed with
  | nil => rfl
  | cons j js =>
    have hj : j ∈ Region.ready .any ops listed := by rw [hrd]; exact List.mem_cons_self ..
    obtain ⟨h0, o, ho, _⟩ := mem_ready.1 hj
    have := (st.mem j).2 ⟨(Array.getElem?_eq_some_iff.1 ho).1, h0⟩
    cases this
theorem stand_step {pre post : List Nat} {j : Nat} {oj : Oper} {listed : Array Bool} (st : Stand ops (pre ++ j :: post) listed) (hoj : ops[j]? = some oj)
    (hall : ∀ e ∈ oj.after, Region.binds .any e = true → listed.getD e.on false = true) : Stand ops (pre ++ post) (listed.setIfInBounds j true) := by
  have hpw := List.pairwise_append.1 st.sorted
  have hjs : j < listed.size := by rw [st.size]; exact (Array.getElem?_eq_some_iff.1 hoj).1
  have hnd : j ∉ pre ++ post := by
    intro hm
    rcases List.mem_append.1 hm with hm | hm
    · have := hpw.2.2 j hm j (List.mem_cons_self ..); omega
    · have := List.rel_of_pairwise_cons hpw.2.1 hm; omega
  refine ⟨?_, ?_, by simpa using st.size, ?_⟩
  · refine List.pairwise_append.2 ⟨hpw.1, (List.pairwise_cons.1 hpw.2.1).2, fun x hx y hy => hpw.2.2 x hx y (List.mem_cons_of_mem _ hy)⟩
  · intro i
    by_cases hij : i = j
    · subst hij
      constructor
      · intro hm; exact absurd hm hnd
      · intro hm; simp [hjs] at hm
    · rw [getD_set_ne true (Ne.symm hij), ← st.mem i]
      simp only [List.mem_append, List.mem_cons]
      constructor
      · rintro (hm | hm)
        · exact .inl hm
        · exact .inr (.inr hm)
      · rintro (hm | hm | hm)
        · exact .inl hm
        · exact absurd hm hij
        · exact .inr hm
  · intro i o hi hl e he hb
    by_cases hij : i = j
    · subst hij
      rw [hoj] at hi; cases hi
      exact getD_set_true (hall e he hb)
    · rw [getD_set_ne false (Ne.symm hij)] at hl
      exact getD_set_true (st.closed i o hi hl e he hb)
theorem stand_indep {B : List Nat} (h : chkRegion P bts ops B = true) {pre post : List Nat} {j : Nat} {oj : Oper} {listed : Array Bool} (st : Stand ops (pre ++ j :: post) listed) (hoj : ops[j]? = some oj)
    (hall : ∀ e ∈ oj.after, Region.binds .any e = true → listed.getD e.on false = true) : ∀ p ∈ pre, indep P bts ops p j := by
  have hpw := List.pairwise_append.1 st.sorted
  intro p hp
  have hlt : p < j := hpw.2.2 p hp j (List.mem_cons_self ..)
  cases hb : (B.getD j 0).testBit p with
  | false => exact (chk_pair h hoj hlt).2 hb
  | true =>
    exfalso
    have hlp := closed_bits h st (j + 1) j (by omega) oj hoj hall p hlt hb
    have hpu := ((st.mem p).1 (List.mem_append_left _ hp)).2
    have hsz : p < listed.size := by rw [st.size]; exact ((st.mem p).1 (List.mem_append_left _ hp)).1
    simp only [Array.getD_eq_getD_getElem?, Array.getElem?_eq_getElem hsz, Option.getD_some] at hlp hpu
    rw [hlp] at hpu; cases hpu
theorem wpOp_toQ {Q' : Exit → Act → World → Prop} (hn : OnlyNormal Q') {i : Nat} {a : Act} {w : World} {K K' : Act → World → Prop} (h : ∀ a w, K a w → K' a w) (hh : wpOp P ops Q' i K a w) : wpOp P ops Q i K' a w := by
  unfold wpOp at *
  split at hh
  · exact h _ _ hh
  · split at hh
    · rename_i hw
      rw [if_pos hw]
      rcases hh with hh | ⟨_, hl⟩
      · exact .inl (wp_toQ hn h hh)
      · exact (hn.lets hl).elim
    · rename_i hw
      rw [if_neg hw]
      exact h _ _ hh

theorem text_last {B : List Nat} (h : chkRegion P bts ops B = true) (hc : CellsB ds w0) (z : Nat) (hz : ∀ p, p < z → (B.getD z 0).testBit p = true) : ∀ (k : Nat) (L : List Nat) (listed : Array Bool) (a : Act) (w : World), L.length = k → StayB ds w0 w → Stand ops (L ++ [z]) listed →
    runT P bts ds w0 ops (Exit.then (fun a w => wpOp P ops Q z (fun a w => Q .normal a w) a w) (fun _ _ _ => False)) L a w → wpAny P .any ops Q (k + 1) listed a w := by
  intro k
  induction k with
  | zero =>
    intro L listed a w hk hS st hr
    obtain rfl : L = [] := List.length_eq_zero_iff.1 hk
    refine ⟨fun hnone => absurd hnone (stand_ready h st (by simp)), fun j hj => ?_⟩
    obtain ⟨h0, oj, hoj, hall⟩ := mem_ready.1 hj
    have hjL : j ∈ [z] := (st.mem j).2 ⟨(Array.getElem?_eq_some_iff.1 hoj).1, h0⟩
    obtain rfl := List.mem_singleton.1 hjL
    have st' := stand_step (pre := []) (post := []) st hoj hall
    have hr' : wpOp P ops Q j (fun a w => Q .normal a w) a w := hr
    exact wpOp_mono (fun a w h => ⟨stand_none st', h⟩) hr'
  | succ k ih =>
    intro L listed a w hk hS st hr
    refine ⟨fun hnone => absurd hnone (stand_ready h st (by simp)), fun j hj => ?_⟩
    obtain ⟨h0, oj, hoj, hall⟩ := mem_ready.1 hj
    have hjL : j ∈ L ++ [z] := (st.mem j).2 ⟨(Array.getElem?_eq_some_iff.1 hoj).1, h0⟩
    have hjL2 : j ∈ L := by
      rcases List.mem_append.1 hjL with hm | hm
      · exact hm
      · exfalso
        obtain rfl := List.mem_singleton.1 hm
        cases L with
        | nil => simp at hk
        | cons p L =>
          have hpl : p < j := (List.pairwise_append.1 st.sorted).2.2 p (List.mem_cons_self ..) j (by simp)
          have hlp := closed_bits h st (j + 1) j (by omega) oj hoj hall p hpl (hz p hpl)
          obtain ⟨hp1, hpu⟩ := (st.mem p).1 (by simp)
          have hsz : p < listed.size := by rw [st.size]; exact hp1
          simp only [Array.getD_eq_getD_getElem?, Array.getElem?_eq_getElem hsz, Option.getD_some] at hlp hpu
          rw [hlp] at hpu; cases hpu
    obtain ⟨pre, post, rfl⟩ := List.append_of_mem hjL2
    have st2 : Stand ops (pre ++ j :: (post ++ [z])) listed := by simpa using st
    have hfr := to_front hc (only_then _) pre a w hS (stand_indep h st2 hoj hall) hr
    refine wpOp_toQ (only_then _) (fun a' w' h' => ih (pre ++ post) (listed.setIfInBounds j true) a' w' ?_ h'.1 ?_ h'.2) hfr.2
    · simp only [List.length_append, List.length_cons] at hk ⊢; omega
    · have := stand_step st2 hoj hall
      simpa using this

theorem runT_pre {Q1 : Exit → Act → World → Prop} (hc : CellsB ds w0) (hn : OnlyNormal Q) (hfit : ∀ (j : Nat) o, ops[j]? = some o → (asks bts o).isSome = true → fitsTypes P bts o = true) (l : List Oper) :
    ∀ (k : Nat) (s : List Oper) (t : List (List Oper)) (a : Act) (w : World), (∀ j o, l[j]? = some o → ops[k + j]? = some o) → segs bts l = s :: t → StayB ds w0 w → (∀ a w, Q1 .normal a w → Q .normal a w) →
      wpList P ops (Exit.then (wpSegs P ds w0 ops Q1 t) (fun _ _ _ => False)) s a w → runT P bts ds w0 ops Q (List.range' k l.length) a w := by
  induction l with
  | nil => intro k s t a w _ hs _ hq h; simp only [segs, List.cons.injEq] at hs; obtain ⟨rfl, rfl⟩ := hs; exact hq _ _ h
  | cons o l ih =>
    intro k s t a w hk hs hS hq h
    have h0 : ops[k]? = some o := hk 0 o (by simp)
    have hk' : ∀ j o, l[j]? = some o → ops[k + 1 + j]? = some o := fun j o ho => by rw [show k + 1 + j = k + (j + 1) by omega]; exact hk (j + 1) o (by simpa using ho)
    obtain ⟨s', t', hs', hhead⟩ := segs_head (bts := bts) l
    simp only [List.length_cons, List.range'_succ, runT]
    unfold segs at hs
    by_cases he : isEff bts o = true
    · rw [if_pos he] at hs
      simp only [List.cons.injEq] at hs
      obtain ⟨rfl, rfl⟩ := hs
      have hnm : muteB P bts o = false := by
        simp only [isEff, Bool.and_eq_true, Bool.not_eq_true'] at he
        simp [muteB, he.1, Option.isNone_iff_eq_none.1 he.2]
      refine ⟨fun o' ho' hm => (by rw [h0] at ho'; cases ho'; rw [hnm] at hm; cases hm), ?_⟩
      refine wpOp_mono (fun a w h => ?_) (list_op h0 h)
      have h' : wpSegs P ds w0 ops Q1 (segs bts l) a w := h
      rw [hs'] at h'
      exact ⟨h'.1.1, ih (k + 1) s' t' a w hk' hs' h'.1.1 hq h'.2⟩
    · rw [if_neg he, hs'] at hs
      simp only at hs
      by_cases hl : isLoad o = true
      · rw [if_pos hl] at hs
        simp only [List.cons.injEq] at hs
        obtain ⟨rfl, rfl⟩ := hs
        have h' : wpSegs P ds w0 ops Q1 ((o :: s') :: t') a w := h
        obtain ⟨⟨_, hld⟩, h''⟩ := h'
        refine mute_op hc hn h0 (by simp [muteB, hl]) hS (fun hw => ⟨?_, hld o rfl hl hw⟩) (fun a' hk'' => ih (k + 1) s' t' a' w hk' hs' hS hq hk'') (list_op h0 h'')
        obtain ⟨dst, op, type, pos, after, guard⟩ := o
        cases op <;> simp only [isLoad] at hl <;> try (cases hl)
        all_goals trivial
      · rw [if_neg hl] at hs
        simp only [List.cons.injEq] at hs
        obtain ⟨rfl, rfl⟩ := hs
        have hsome : (asks bts o).isSome = true := by
          simp only [isEff, Bool.and_eq_true, Bool.not_eq_true', not_and] at he
          cases ha : asks bts o with
          | none => exact absurd (by simp [ha]) (he (by simpa using hl))
          | some l => rfl
        obtain ⟨l', hl'⟩ := Option.isSome_iff_exists.1 hsome
        obtain ⟨h1, h2⟩ := ask_met (only_then _) hl' (hfit k o h0 hsome) h
        refine mute_op hc hn h0 (by simp [muteB, hsome, hfit k o h0 hsome]) hS (fun hw => ⟨h1 hw, ?_⟩) (fun a' hk'' => ih (k + 1) s' t' a' w hk' hs' hS hq hk'') (list_op h0 h2)
        obtain ⟨dst, op, type, pos, after, guard⟩ := o
        cases op <;> first | trivial | (simp [isLoad] at hl)

theorem any_region_last {l : List Oper} {z : Oper} {a : Act} {w : World} (bts : List TypeId × List TypeId) (ds : List Nat) (hk : chkRegion P bts (l ++ [z]).toArray (befs (l ++ [z])) = true)
    (hz : ((List.range l.length).all fun p => ((befs (l ++ [z])).getD l.length 0).testBit p) = true) (hc : CellsB ds w) {sl : List (List Oper)} (hsl : segs bts l = sl)
    (h : wpSegs P ds w (l ++ [z]).toArray (Exit.then (fun a w => wpList P (l ++ [z]).toArray (Exit.then (fun a w => Q .normal a w) (fun _ _ _ => False)) [z] a w) (fun _ _ _ => False)) sl a w.drew) : wpAny P .any (l ++ [z]).toArray (Exit.then (Q .normal) (fun _ _ _ => False)) (l ++ [z]).toArray.size (Array.replicate (l ++ [z]).toArray.size false) a w.drew := by
  have hn : OnlyNormal (Exit.then (Q .normal) (fun _ _ _ => False)) := only_then _
  subst hsl
  obtain ⟨s, t, hst, _⟩ := segs_head (bts := bts) l
  rw [hst] at h
  have hS : StayB ds w w.drew := fun b _ => rfl
  have hzl : (l ++ [z]).toArray[l.length]? = some z := by simp
  -- the list l, seen as the beginning of l ++ [z]
  have hr2 : runT P bts ds w (l ++ [z]).toArray (Exit.then (fun a w' => wpOp P (l ++ [z]).toArray (Exit.then (Q .normal) (fun _ _ _ => False)) l.length (fun a w' => Q .normal a w') a w') (fun _ _ _ => False)) (List.range' 0 l.length) a w.drew := by
    refine runT_pre hc (only_then _) (fun j o ho ha => (chk_edge hk ho).2.2 ha) l 0 s t a w.drew (fun j o hj => ?_) hst hS (fun a' w' hh => ?_) h.2
    · rw [Nat.zero_add]; simp only [List.getElem?_toArray]; rw [List.getElem?_append_left (List.getElem?_eq_some_iff.1 hj).1]; exact hj
    · exact list_op (Q := Exit.then (Q .normal) (fun _ _ _ => False)) hzl hh
  have hsz : (l ++ [z]).toArray.size = l.length + 1 := by simp
  rw [hsz]
  refine text_last hk hc l.length (fun p hp => List.all_eq_true.1 hz p (List.mem_range.2 hp)) l.length (List.range' 0 l.length) _ a _ (by simp) hS ?_ hr2
  refine ⟨?_, ?_, by simp, ?_⟩
  · have : List.range' 0 l.length ++ [l.length] = List.range' 0 (l.length + 1) := by rw [List.range'_concat]; simp
    rw [this]; exact List.pairwise_lt_range'
  · intro i
    have : List.range' 0 l.length ++ [l.length] = List.range' 0 (l.length + 1) := by rw [List.range'_concat]; simp
    rw [this, List.mem_range']
    constructor
    · rintro ⟨j, hj, rfl⟩
      simp [hj]
    · rintro ⟨hi, _⟩
      exact ⟨i, by simpa using hi, by omega⟩
  · intro i o hi hl
    exfalso
    have hlt : i < (l ++ [z]).toArray.size := (Array.getElem?_eq_some_iff.1 hi).1
    simp at hlt
    simp [hlt] at hl
/-- the same, the region's list as it stands -/
theorem any_region_end {L : List Oper} {z : Oper} {a : Act} {w : World} (bts : List TypeId × List TypeId) (ds : List Nat) (hL : L.getLast? = some z) (hk : chkRegion P bts L.toArray (befs L) = true)
    (hz : ((List.range L.dropLast.length).all fun p => ((befs L).getD L.dropLast.length 0).testBit p) = true) (hc : CellsB ds w) {sl : List (List Oper)} (hsl : segs bts L.dropLast = sl)
    (h : wpSegs P ds w L.toArray (Exit.then (fun a w => wpList P L.toArray (Exit.then (fun a w => Q .normal a w) (fun _ _ _ => False)) [z] a w) (fun _ _ _ => False)) sl a w.drew) : wpAny P .any L.toArray (Exit.then (Q .normal) (fun _ _ _ => False)) L.toArray.size (Array.replicate L.toArray.size false) a w.drew := by
  have hl : L = L.dropLast ++ [z] := by
    have hne : L ≠ [] := by intro e; subst e; simp at hL
    rw [List.getLast?_eq_some_getLast hne, Option.some.injEq] at hL
    rw [← hL]; exact (List.dropLast_concat_getLast hne).symm
  generalize L.dropLast = l at *
  subst hl
  exact any_region_last bts ds hk hz hc hsl h

theorem wp_region_end {id : Nat} {L : List Oper} {z : Oper} {a : Act} {w : World} (bts : List TypeId × List TypeId) (ds : List Nat) (hL : L.getLast? = some z) (hm : P.follows .mixedOrders = true) (hk : chkRegion P bts L.toArray (befs L) = true)
    (hz : ((List.range L.dropLast.length).all fun p => ((befs L).getD L.dropLast.length 0).testBit p) = true) (hc : CellsB ds w) {sl : List (List Oper)} (hsl : segs bts L.dropLast = sl)
    (h : wpSegs P ds w L.toArray (Exit.then (fun a w => wpList P L.toArray (Exit.then (fun a w => Q .normal a w) (fun _ _ _ => False)) [z] a w) (fun _ _ _ => False)) sl a w.drew) : (Code.region id L.toArray true).wp P Q a w := 
  wp_mono (Q := Exit.then (Q .normal) (fun _ _ _ => False)) (wp_region_any hm (any_region_end bts ds hL hk hz hc hsl h)) (fun e a w hq => by cases e <;> first | exact hq | exact hq.elim)

/-! ### Two parts, the second behind all of the first: each has its own blocks that stay -/
theorem text_split {B : List Nat} {ds' : List Nat} (h : chkRegion P bts ops B = true) (hc : CellsB ds w0) (hn : OnlyNormal Q) (n1 : Nat) (Z : List Nat) (hz : ∀ z ∈ Z, ∀ p, p < n1 → (B.getD z 0).testBit p = true ∧ p < z) : ∀ (k : Nat) (L : List Nat) (listed : Array Bool) (a : Act) (w : World), L.length = k → StayB ds w0 w → (∀ p ∈ L, p < n1) → Stand ops (L ++ Z) listed →
    runT P bts ds w0 ops (Exit.then (fun a w => CellsB ds' w ∧ runT P bts ds' w ops Q Z a w) (fun _ _ _ => False)) L a w → wpAny P .any ops Q (k + Z.length) listed a w := by
  intro k
  induction k with
  | zero =>
    intro L listed a w hk hS hL st hr
    obtain rfl : L = [] := List.length_eq_zero_iff.1 hk
    have hr' : CellsB ds' w ∧ runT P bts ds' w ops Q Z a w := hr
    rw [Nat.zero_add]
    exact text_any h hr'.1 hn Z.length Z listed a w rfl (fun b hb => rfl) (by simpa using st) hr'.2
  | succ k ih =>
    intro L listed a w hk hS hL st hr
    rw [show k + 1 + Z.length = k + Z.length + 1 by omega]
    refine ⟨fun hnone => absurd hnone (stand_ready h st (by intro e; simp only [List.append_eq_nil_iff] at e; rw [e.1] at hk; simp at hk)), fun j hj => ?_⟩
    obtain ⟨h0, oj, hoj, hall⟩ := mem_ready.1 hj
    have hjL : j ∈ L ++ Z := (st.mem j).2 ⟨(Array.getElem?_eq_some_iff.1 hoj).1, h0⟩
    have hjL2 : j ∈ L := by
      rcases List.mem_append.1 hjL with hm | hm
      · exact hm
      · exfalso
        cases L with
        | nil => simp at hk
        | cons p L =>
          have hp1 := hL p (List.mem_cons_self ..)
          obtain ⟨hbit, hpl⟩ := hz j hm p hp1
          have hlp := closed_bits h st (j + 1) j (by omega) oj hoj hall p hpl hbit
          obtain ⟨hp1, hpu⟩ := (st.mem p).1 (by simp)
          have hsz : p < listed.size := by rw [st.size]; exact hp1
          simp only [Array.getD_eq_getD_getElem?, Array.getElem?_eq_getElem hsz, Option.getD_some] at hlp hpu
          rw [hlp] at hpu; cases hpu
    obtain ⟨pre, post, rfl⟩ := List.append_of_mem hjL2
    have st2 : Stand ops (pre ++ j :: (post ++ Z)) listed := by simpa using st
    have hfr := to_front hc (only_then _) pre a w hS (stand_indep h st2 hoj hall) hr
    refine wpOp_toQ (only_then _) (fun a' w' h' => ih (pre ++ post) (listed.setIfInBounds j true) a' w' ?_ h'.1 ?_ ?_ h'.2) hfr.2
    · simp only [List.length_append, List.length_cons] at hk ⊢; omega
    · intro p hp; exact hL p (by simp only [List.mem_append, List.mem_cons] at hp ⊢; rcases hp with hp | hp; exact .inl hp; exact .inr (.inr hp))
    · have := stand_step st2 hoj hall
      simpa using this

/-- A REGION THAT DRAWS ITS ORDER, WALKED IN THE ORDER OF ITS TEXT, IN TWO PARTS: n1 operations, and those behind them all. -/
theorem any_region_two {L : List Oper} {a : Act} {w : World} (bts : List TypeId × List TypeId) (n1 : Nat) (ds ds' : List Nat) (hk : chkRegion P bts L.toArray (befs L) = true)
    (hz : ((List.range' n1 (L.length - n1)).all fun z => (List.range n1).all fun p => ((befs L).getD z 0).testBit p) = true) (hn1 : n1 ≤ L.length) (hc : CellsB ds w) {sl sl' : List (List Oper)} (hsl : segs bts (L.take n1) = sl) (hsl' : segs bts (L.drop n1) = sl')
    (h : wpSegs P ds w L.toArray (Exit.then (fun a w => CellsB ds' w ∧ wpSegs P ds' w L.toArray (Exit.then (Q .normal) (fun _ _ _ => False)) sl' a w) (fun _ _ _ => False)) sl a w.drew) : wpAny P .any L.toArray (Exit.then (Q .normal) (fun _ _ _ => False)) L.toArray.size (Array.replicate L.toArray.size false) a w.drew := by
  have hn : OnlyNormal (Exit.then (Q .normal) (fun _ _ _ => False)) := only_then _
  subst hsl hsl'
  obtain ⟨s, t, hst, _⟩ := segs_head (bts := bts) (L.take n1)
  obtain ⟨s', t', hst', _⟩ := segs_head (bts := bts) (L.drop n1)
  rw [hst] at h
  have hS : StayB ds w w.drew := fun b _ => rfl
  have hfit : ∀ (j : Nat) o, L.toArray[j]? = some o → (asks bts o).isSome = true → fitsTypes P bts o = true := fun j o ho ha => (chk_edge hk ho).2.2 ha
  have hr2 : runT P bts ds w L.toArray (Exit.then (fun a w' => CellsB ds' w' ∧ runT P bts ds' w' L.toArray (Exit.then (Q .normal) (fun _ _ _ => False)) (List.range' n1 (L.length - n1)) a w') (fun _ _ _ => False)) (List.range' 0 n1) a w.drew := by
    have h2 := runT_pre (Q := Exit.then (fun a w' => CellsB ds' w' ∧ runT P bts ds' w' L.toArray (Exit.then (Q .normal) (fun _ _ _ => False)) (List.range' n1 (L.length - n1)) a w') (fun _ _ _ => False)) hc (only_then _) hfit (L.take n1) 0 s t a w.drew (fun j o hj => ?_) hst hS (fun a' w' hh => ?_) h.2
    · rw [List.length_take, Nat.min_eq_left hn1] at h2
      exact h2
    · rw [Nat.zero_add, List.getElem?_toArray]
      rw [List.getElem?_take] at hj
      split at hj
      · exact hj
      · cases hj
    · obtain ⟨hc', hh2⟩ := hh
      refine ⟨hc', ?_⟩
      rw [hst'] at hh2
      have h3 := runT_of_segs hc' (only_then (Q .normal)) hfit (L.drop n1) n1 s' t' a' w' (fun j => by rw [List.getElem?_drop, List.getElem?_toArray]) hst' hh2.1.1 hh2.2
      rw [List.length_drop] at h3
      exact h3
  have hrng : List.range' 0 n1 ++ List.range' n1 (L.length - n1) = List.range' 0 L.length := by
    have := @List.range'_append 0 n1 (L.length - n1) 1
    simp only [Nat.one_mul, Nat.zero_add] at this
    rw [this, show n1 + (L.length - n1) = L.length by omega]
  have hf := text_split (Q := Exit.then (Q .normal) (fun _ _ _ => False)) (ds' := ds') hk hc (only_then _) n1 (List.range' n1 (L.length - n1)) (fun z hzm p hp => by
    have h1 := List.all_eq_true.1 hz z hzm
    refine ⟨List.all_eq_true.1 h1 p (List.mem_range.2 hp), ?_⟩
    rw [List.mem_range'] at hzm
    obtain ⟨i, _, rfl⟩ := hzm
    omega) n1 (List.range' 0 n1) (Array.replicate L.toArray.size false) a w.drew (by simp) hS (fun p hp => by rw [List.mem_range'] at hp; obtain ⟨i, hi, rfl⟩ := hp; omega) ?_ hr2
  · rw [List.length_range', show n1 + (L.length - n1) = L.length by omega] at hf
    exact hf
  · rw [hrng]
    refine ⟨List.pairwise_lt_range', ?_, by simp, ?_⟩
    · intro i
      rw [List.mem_range']
      constructor
      · rintro ⟨j, hj, rfl⟩
        simp [hj]
      · rintro ⟨hi, _⟩
        exact ⟨i, by simpa using hi, by omega⟩
    · intro i o hi hl
      exfalso
      have hlt : i < L.toArray.size := (Array.getElem?_eq_some_iff.1 hi).1
      simp at hlt
      simp [hlt] at hl
theorem wp_region_two {id : Nat} {L : List Oper} {a : Act} {w : World} (bts : List TypeId × List TypeId) (n1 : Nat) (ds ds' : List Nat) (hm : P.follows .mixedOrders = true) (hk : chkRegion P bts L.toArray (befs L) = true)
    (hz : ((List.range' n1 (L.length - n1)).all fun z => (List.range n1).all fun p => ((befs L).getD z 0).testBit p) = true) (hn1 : n1 ≤ L.length) (hc : CellsB ds w) {sl sl' : List (List Oper)} (hsl : segs bts (L.take n1) = sl) (hsl' : segs bts (L.drop n1) = sl')
    (h : wpSegs P ds w L.toArray (Exit.then (fun a w => CellsB ds' w ∧ wpSegs P ds' w L.toArray (Exit.then (Q .normal) (fun _ _ _ => False)) sl' a w) (fun _ _ _ => False)) sl a w.drew) : (Code.region id L.toArray true).wp P Q a w := 
  wp_mono (Q := Exit.then (Q .normal) (fun _ _ _ => False)) (wp_region_any hm (any_region_two bts n1 ds ds' hk hz hn1 hc hsl hsl' h)) (fun e a w hq => by cases e <;> first | exact hq | exact hq.elim)
end
end Go.Proofs.Ytbikganlloopbaa
namespace Go.Proofs.Ytbikganlloopbaa
set_option linter.unusedVariables false
set_option linter.unusedSimpArgs false
open Go Go.RowKit

/-- a fence that bars nothing -/
structure Wide (F : Fence) : Prop where
  fn : ∀ f, F.fn f
  depth : F.depth = none
  alive : F.alive = false
theorem wide_wide : Wide Fence.wide := ⟨fun _ => trivial, rfl, rfl⟩
theorem wide_round (l : Nat) : Wide (Fence.wide.inRound l) := ⟨fun _ => trivial, rfl, rfl⟩
section
variable {F : Fence} {n : Nat} {P : Program} {ops : Array Oper} {Q : Exit → Act → World → Prop} {md : Region.Mode}
theorem Wide.fenced (h : Wide F) (m : Machine) : m.fenced P F := by
  intro g _
  refine ⟨fun h' => ?_, Or.inl (h.fn _), fun f _ => h.fn f, fun d hd => ?_⟩
  · rw [h.alive] at h'; cases h'
  · rw [h.depth] at hd; cases hd
theorem Wide.room (h : Wide F) (k : Nat) : F.room k := fun d hd => by rw [h.depth] at hd; cases hd
theorem Wide.steps (h : Wide F) {m m' : Machine} : StepsIn (Machine.fenced P F) P m m' ↔ Steps P m m' :=
  ⟨StepsIn.steps, fun hs => (StepsIn.of_steps hs).mono fun m _ => h.fenced m⟩
theorem Wide.comes (h : Wide F) {m m' : Machine} {e : Ending} : ComesIn (Machine.fenced P F) P m m' e ↔ Comes P m m' e := by
  cases e with
  | returned v => exact h.steps
  | panicked chain => exact h.steps
  | outgrown => exact Iff.rfl
theorem Wide.calls (h : Wide F) {f : FuncId} {args : Array Value} {w : World} {R : Ending → World → Prop} : CallsIn F n P f args w R ↔ Calls P f args w R :=
  ⟨fun hc cs => let ⟨e, w', fr, r, s, x⟩ := hc.2 cs (h.room _); ⟨e, w', fr, r, h.comes.1 s, x⟩,
   fun hc => ⟨h.fn f, fun cs _ => let ⟨e, w', fr, r, s, x⟩ := hc cs; ⟨e, w', fr, r, h.comes.2 s, x⟩⟩⟩
theorem Wide.rows (h : Wide F) {row : String} {args : Array Value} {w : World} {R : Value → World → Prop} (hr : Rows P row args w R) : RowsIn F n P row args w R :=
  fun c cs _ => let ⟨v, w', r, s⟩ := hr c cs; ⟨v, w', r, h.steps.2 s⟩
theorem Wide.oper (h : Wide F) {o : Oper} (hd : ∀ c, o.op ≠ .defer c) {a : Act} {w : World} {K : Act → World → Prop} (hh : o.wp P a w K Q) : o.wpIn F n P a w K Q := by
  refine ⟨fun f _ => h.fn f, ?_⟩
  rw [Oper.semAt_eq _ _ _ hd]
  unfold Oper.wp at hh
  have hnp : ∀ {p : Prop}, (F.depth.isSome = true → p) := fun {p} hs => by rw [h.depth] at hs; cases hs
  generalize (execOp a.eval o).run P w = r at *
  cases r with
  | ok x w' =>
    cases x <;> simp only [Oper.upon, Oper.uponIn] at hh ⊢ <;>
      first
        | exact hh
        | exact ⟨hnp, h.calls.2 hh⟩
        | exact ⟨hnp, h.rows hh⟩
  | halt x w' => cases x <;> simp only [Oper.upon, Oper.uponIn] at hh ⊢ <;> exact hh
theorem Wide.op (h : Wide F) (hn : OnlyNormal Q) {i : Nat} (hd : ∀ o, ops[i]? = some o → ∀ c, o.op ≠ .defer c) {a : Act} {w : World} {K : Act → World → Prop} (hh : wpOp P ops Q i K a w) : wpOpIn F n P ops Q i K a w := by
  unfold wpOp at hh
  unfold wpOpIn
  cases ho : ops[i]? with
  | none => rw [ho] at hh; exact hh
  | some o =>
    rw [ho] at hh
    simp only at hh ⊢
    split
    · rename_i hw
      rw [if_pos hw] at hh
      rcases hh with hh | ⟨_, hl⟩
      · exact h.oper (hd o ho) hh
      · exact (hn.lets hl).elim
    · rename_i hw
      rw [if_neg hw] at hh
      exact ⟨fun f _ => h.fn f, hh⟩
theorem Wide.any (h : Wide F) (hn : OnlyNormal Q) (hd : ∀ (i : Nat) o, ops[i]? = some o → ∀ c, o.op ≠ .defer c) : ∀ (k : Nat) (listed : Array Bool) (a : Act) (w : World), wpAny P md ops Q k listed a w → wpAnyIn F n P md ops Q k listed a w
  | 0, _, _, _, hh => hh
  | k + 1, listed, a, w, hh => ⟨hh.1, fun i hi => wpOpIn_mono (fun a w => h.any hn hd k _ a w) (h.op hn (hd i) (hh.2 i hi))⟩

def noDefer (l : List Oper) : Bool := l.all fun o => match o.op with | .defer _ => false | _ => true
theorem noDefer_at {l : List Oper} (h : noDefer l = true) (i : Nat) (o : Oper) (ho : l.toArray[i]? = some o) (c : Call) : o.op ≠ .defer c := by
  intro e
  have hm : o ∈ l := by rw [List.getElem?_toArray] at ho; exact List.mem_of_getElem? ho
  have := List.all_eq_true.1 h o hm
  rw [e] at this
  cases this
theorem wpIn_of_any (h : Wide F) {id : Nat} {l : List Oper} {a : Act} {w : World} (hm : P.follows .mixedOrders = true) (hd : noDefer l = true)
    (hh : wpAny P .any l.toArray (Exit.then (Q .normal) (fun _ _ _ => False)) l.toArray.size (Array.replicate l.toArray.size false) a w.drew) : (Code.region id l.toArray true).wpIn F n P Q a w :=
  wpIn_mono (Q := Exit.then (Q .normal) (fun _ _ _ => False)) (wpIn_region_any hm (h.any (only_then _) (noDefer_at hd) _ _ _ _ hh)) (fun e a w hq => by cases e <;> first | exact hq | exact hq.elim)

theorem wpIn_region_text {id : Nat} {l : List Oper} {a : Act} {w : World} (h : Wide F) (bts : List TypeId × List TypeId) (ds : List Nat) (hm : P.follows .mixedOrders = true) (hd : noDefer l = true) (hk : chkRegion P bts l.toArray (befs l) = true) (hc : CellsB ds w) {sl : List (List Oper)} (hsl : segs bts l = sl)
    (hh : wpSegs P ds w l.toArray (Exit.then (Q .normal) (fun _ _ _ => False)) sl a w.drew) : (Code.region id l.toArray true).wpIn F n P Q a w :=
  wpIn_of_any h hm hd (any_region_text bts ds hk hc hsl hh)
theorem wpIn_region_end {id : Nat} {L : List Oper} {z : Oper} {a : Act} {w : World} (h : Wide F) (bts : List TypeId × List TypeId) (ds : List Nat) (hL : L.getLast? = some z) (hm : P.follows .mixedOrders = true) (hd : noDefer L = true) (hk : chkRegion P bts L.toArray (befs L) = true)
    (hz : ((List.range L.dropLast.length).all fun p => ((befs L).getD L.dropLast.length 0).testBit p) = true) (hc : CellsB ds w) {sl : List (List Oper)} (hsl : segs bts L.dropLast = sl)
    (hh : wpSegs P ds w L.toArray (Exit.then (fun a w => wpList P L.toArray (Exit.then (fun a w => Q .normal a w) (fun _ _ _ => False)) [z] a w) (fun _ _ _ => False)) sl a w.drew) : (Code.region id L.toArray true).wpIn F n P Q a w :=
  wpIn_of_any h hm hd (any_region_end bts ds hL hk hz hc hsl hh)
theorem wpIn_region_two {id : Nat} {L : List Oper} {a : Act} {w : World} (h : Wide F) (bts : List TypeId × List TypeId) (n1 : Nat) (ds ds' : List Nat) (hm : P.follows .mixedOrders = true) (hd : noDefer L = true) (hk : chkRegion P bts L.toArray (befs L) = true)
    (hz : ((List.range' n1 (L.length - n1)).all fun z => (List.range n1).all fun p => ((befs L).getD z 0).testBit p) = true) (hn1 : n1 ≤ L.length) (hc : CellsB ds w) {sl sl' : List (List Oper)} (hsl : segs bts (L.take n1) = sl) (hsl' : segs bts (L.drop n1) = sl')
    (hh : wpSegs P ds w L.toArray (Exit.then (fun a w => CellsB ds' w ∧ wpSegs P ds' w L.toArray (Exit.then (Q .normal) (fun _ _ _ => False)) sl' a w) (fun _ _ _ => False)) sl a w.drew) : (Code.region id L.toArray true).wpIn F n P Q a w :=
  wpIn_of_any h hm hd (any_region_two bts n1 ds ds' hk hz hn1 hc hsl hsl' hh)
end
end Go.Proofs.Ytbikganlloopbaa
