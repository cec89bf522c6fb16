/-
  What stands here: the card ShardNoneCardSaid: for every input the call returns true and each argument reads as it did. Under the condition that the library's table is as its initialiser lays it, which the card ties to the program's text.
-/
import Derived.Test.YthamdbfilpegjaaDoorCards
import Derived.Test.YthamdbfilpegjaaDoorTie
import Derived.Test.YthamdbfilpegjaaDoorShardNoneWalk
import Derived.Test.YthamdbfilpegjaaDoorOpen
import Derived.WalkKit
import Derived.ProofKit
import Derived.OpenShut
import Derived.ShutString
import Derived.ChangeOld
import Derived.Below
import Derived.Deep.DeepHandedRow
import Derived.Lib.LaidTab
namespace Go.Proofs.YthamdbfilpegjaaDoor.shardNone
open Go.Proofs.YthamdbfilpegjaaDoor
open Go.ChangeShapes Go.WideShapes Go.ChangeAt Go.RowKit Go.Deep
set_option linter.unusedVariables false
set_option linter.unusedSimpArgs false

theorem own : ownKnob Tryd.prog.godebug = none := by kernel_rfl
theorem laidOut : laidOutB Tryd.prog = true := by kernel_rfl
theorem gTab : Tryd.prog.globalNamed "math/bits.deBruijn64tab" = some 0 := by kernel_rfl
theorem gTabType : (Tryd.prog.globals[0]?).map (·.type) = some 163 := by kernel_rfl
theorem cellsT : Tryd.prog.cellsOf 163 = 64 := by kernel_rfl
theorem cellsE : Tryd.prog.cellsOf 5 = 1 := by kernel_rfl
theorem tabEq : ∀ j, j < 64 → ([0, 1, 56, 2, 57, 49, 28, 3, 61, 58, 42, 50, 38, 29, 17, 4, 62, 47, 59, 36, 45, 43, 51, 22, 53, 39, 33, 30, 24, 18, 12, 5, 63, 55, 48, 27, 60, 41, 37, 16, 46, 35, 44, 21, 52, 32, 23, 11, 54, 26, 40, 15, 34, 20, 31, 10, 25, 14, 19, 9, 13, 8, 7, 6] : List Int).getD j 0 = ((Lib.deBruijn64tab.getD j 0 : Nat) : Int) := by decide +kernel
theorem table {W : World} (h : laidMetH Tryd.prog Rows.shardNoneRow.laid W) : Lib.TabIs Tryd.prog W "math/bits.deBruijn64tab" .u8 [0, 1, 56, 2, 57, 49, 28, 3, 61, 58, 42, 50, 38, 29, 17, 4, 62, 47, 59, 36, 45, 43, 51, 22, 53, 39, 33, 30, 24, 18, 12, 5, 63, 55, 48, 27, 60, 41, 37, 16, 46, 35, 44, 21, 52, 32, 23, 11, 54, 26, 40, 15, 34, 20, 31, 10, 25, 14, 19, 9, 13, 8, 7, 6] :=
  Lib.tabIs_of_head (rest := []) gTab gTabType Tryd.underlying163 Tryd.underlying5 cellsE cellsT h
theorem tab {W : World} (h : laidMetH Tryd.prog Rows.shardNoneRow.laid W) : Tab W := fun j hj => by
  rw [(table h).cell gTab j hj, tabEq j hj]

set_option maxRecDepth 100000 in
theorem contract (H : Type) (enc : TypeId × Value → H) (W : World) (base : Nat) (args : Array Value) (ds gs : List (DataW H)) (before : List MemPlace)
    (hval0 : ∀ (j : Nat) t v, Tryd.f5.params[j]? = some t → args[j]? = some v → Value.okWide Tryd.prog W .any base t v)
    (hW : DataW.Whole enc Tryd.prog Tryd.f5.params.toList Rows.shardNoneSpec.vars false W args.toList ds gs before) (hL : laidMetH Tryd.prog Rows.shardNoneRow.laid W) :
    Calls Tryd.prog 5 args W fun e W' => ∃ v, e = .returned v ∧ Rows.shardNoneSpec.post enc Tryd.prog Tryd.f5 false true false false W args v W' := by
  have hval : ∀ (j : Nat) t v, Tryd.f5.params[j]? = some t → args[j]? = some v → Value.okWide Tryd.prog W .any base t v := hval0
  have hW' := hW
  obtain ⟨p, q, hA0, hV, rfl, hfz, hnd⟩ := hW
  have hA : DataW.TrodAll enc Tryd.prog W 0 (fun _ => true) true Tryd.f5.params.toList args.toList ds p := hA0
  rw [Tryd.params5] at hA hval
  obtain ⟨v0, vs0, d0, ds0, p0, q0, hargs, rfl, rfl, h0, r0⟩ := trodAll_cons hA
  obtain ⟨rfl, rfl, rfl⟩ := trodAll_nil r0
  obtain rfl : args = #[v0] := by cases args; simp_all
  obtain ⟨rfl, rfl⟩ := trodVars_none hV
  obtain ⟨cs0, rfl, hsz0⟩ := okWide_struct Tryd.underlying31 (hval 0 31 v0 rfl rfl)
  obtain ⟨c0_0, c0_1, c0_2, c0_3, c0_4, rfl⟩ : ∃ c0_0 c0_1 c0_2 c0_3 c0_4, cs0 = #[c0_0, c0_1, c0_2, c0_3, c0_4] := by
    obtain ⟨l⟩ := cs0
    match l, hsz0.trans (show Tryd.prog.cellsOf 31 = 5 by kernel_rfl) with
    | [x0, x1, x2, x3, x4], _ => exact ⟨x0, x1, x2, x3, x4, rfl⟩
  have k0 := h0
  have lt0 : ∀ x ∈ p0, x.block < W.heap.size := by obtain ⟨m, hm⟩ := k0; exact DataW.trod_lt m _ _ _ hm
  have hh0 := h0
  obtain ⟨fuel0, hf0⟩ := hh0
  obtain ⟨v9, n9, d9, hv9, hd9⟩ := field_at Tryd.underlying31 hf0 0 (f := _) rfl (by kernel_rfl) (of_decide_eq_true (by kernel_rfl))
  obtain ⟨a0_0, e9, w0_0⟩ := val_int Tryd.underlying29 hd9
  obtain rfl : c0_0 = .int .u64 a0_0 := (Option.some.inj hv9).trans e9
  clear hv9 hd9 n9 d9
  obtain ⟨v9, n9, d9, hv9, hd9⟩ := field_at Tryd.underlying31 hf0 1 (f := _) rfl (by kernel_rfl) (of_decide_eq_true (by kernel_rfl))
  obtain ⟨a0_1, e9, w0_1⟩ := val_int Tryd.underlying3 hd9
  obtain rfl : c0_1 = .int .i64 a0_1 := (Option.some.inj hv9).trans e9
  clear hv9 hd9 n9 d9
  obtain ⟨v9, n9, d9, hv9, hd9⟩ := field_at Tryd.underlying31 hf0 2 (f := _) rfl (by kernel_rfl) (of_decide_eq_true (by kernel_rfl))
  obtain ⟨a0_2, e9, w0_2⟩ := val_int Tryd.underlying29 hd9
  obtain rfl : c0_2 = .int .u64 a0_2 := (Option.some.inj hv9).trans e9
  clear hv9 hd9 n9 d9
  obtain ⟨v9, n9, d9, hv9, hd9⟩ := field_at Tryd.underlying31 hf0 3 (f := _) rfl (by kernel_rfl) (of_decide_eq_true (by kernel_rfl))
  obtain ⟨a0_3, e9, w0_3⟩ := val_int Tryd.underlying29 hd9
  obtain rfl : c0_3 = .int .u64 a0_3 := (Option.some.inj hv9).trans e9
  clear hv9 hd9 n9 d9
  obtain ⟨v9, n9, d9, hv9, hd9⟩ := field_at Tryd.underlying31 hf0 4 (f := _) rfl (by kernel_rfl) (of_decide_eq_true (by kernel_rfl))
  obtain ⟨a0_4, e9, w0_4⟩ := val_int Tryd.underlying29 hd9
  obtain rfl : c0_4 = .int .u64 a0_4 := (Option.some.inj hv9).trans e9
  clear hv9 hd9 n9 d9
  clear hA0 hval0
  refine (shardNone_walk a0_0 a0_1 a0_2 a0_3 a0_4 W ⟨w0_0, w0_1, w0_2, w0_3, w0_4⟩ (tab hL)).mono fun e W' ⟨he, bel⟩ => ?_
  subst he
  exact ⟨_, rfl, _, _, _, [], _, [], hW', trodAll_mk1 (shut_bool Tryd.underlying4 _), (trodAll_cons_mk (Below.trod laidOut (by kernel_rfl) (of_decide_eq_true (by kernel_rfl)) k0 bel lt0) trodAll_mk0), rfl, bel.frame _, fun h => by cases h⟩

noncomputable def laidWorld (os : Os) : World :=
  { World.holding Tryd.prog os ⟨#[], #[], []⟩ with heap := (World.holding Tryd.prog os ⟨#[], #[], []⟩).heap.modify 0 fun
      | .cells _ t frozen => .cells #[.int .u8 0, .int .u8 1, .int .u8 56, .int .u8 2, .int .u8 57, .int .u8 49, .int .u8 28, .int .u8 3, .int .u8 61, .int .u8 58, .int .u8 42, .int .u8 50, .int .u8 38, .int .u8 29, .int .u8 17, .int .u8 4, .int .u8 62, .int .u8 47, .int .u8 59, .int .u8 36, .int .u8 45, .int .u8 43, .int .u8 51, .int .u8 22, .int .u8 53, .int .u8 39, .int .u8 33, .int .u8 30, .int .u8 24, .int .u8 18, .int .u8 12, .int .u8 5, .int .u8 63, .int .u8 55, .int .u8 48, .int .u8 27, .int .u8 60, .int .u8 41, .int .u8 37, .int .u8 16, .int .u8 46, .int .u8 35, .int .u8 44, .int .u8 21, .int .u8 52, .int .u8 32, .int .u8 23, .int .u8 11, .int .u8 54, .int .u8 26, .int .u8 40, .int .u8 15, .int .u8 34, .int .u8 20, .int .u8 31, .int .u8 10, .int .u8 25, .int .u8 14, .int .u8 19, .int .u8 9, .int .u8 13, .int .u8 8, .int .u8 7, .int .u8 6] t frozen
      | o => o }
theorem laid_met (os : Os) : laidMet Tryd.prog Rows.shardNoneRow.laid ((laidWorld os).forCall (fun _ _ => 0) ⟨#[], #[.agg #[.int .u64 0, .int .i64 0, .int .u64 0, .int .u64 0, .int .u64 0]], []⟩).memory :=
  laidMet_of_run' 8 (by kernel_rfl) (by kernel_rfl)
theorem reads (os : Os) {H : Type} (enc : TypeId × Value → H) : ∃ places, DataW.whole enc Tryd.prog ((laidWorld os).forCall (fun _ _ => 0) ⟨#[], #[.agg #[.int .u64 0, .int .i64 0, .int .u64 0, .int .u64 0, .int .u64 0]], []⟩).memory Tryd.f5.params.toList Rows.shardNoneSpec.vars false (#[.agg #[.int .u64 0, .int .i64 0, .int .u64 0, .int .u64 0, .int .u64 0]] : Array Value).toList 8 = some ([.agg [.lit (.int .u64 0), .lit (.int .i64 0), .lit (.int .u64 0), .lit (.int .u64 0), .lit (.int .u64 0)]], [], places) :=
  ⟨[], by kernel_rfl⟩

set_option maxRecDepth 100000 in
theorem lifted (os : Os) (started : os.Started) (H : Type) (enc : TypeId × Value → H) (F : Stop.Interp) :
    ReturnsInHanded {} Tryd.checked os 5 .any ((OpenSpec.ofChange Rows.shardNoneSpec).preRow enc Tryd.prog Tryd.f5 Rows.shardNoneRow.domain false Rows.shardNoneRow.laid) (((OpenSpec.ofChange Rows.shardNoneSpec).at F).post enc Tryd.prog Tryd.f5 false true false false) := by
  obtain ⟨places, hx⟩ := reads os enc
  refine returnsInHanded_of_row (C := Tryd.checked) (s := OpenSpec.ofChange Rows.shardNoneSpec) own started (by kernel_rfl) Tryd.func5
    (witness_row_at (enc := enc) (C := Tryd.checked) false (laidWorld os) #[.agg #[.int .u64 0, .int .i64 0, .int .u64 0, .int .u64 0, .int .u64 0]] rfl (by kernel_rfl) (by kernel_rfl) (by kernel_rfl)
      (OpenSpec.preRow_of_cond 8 hx (by kernel_rfl) (fun k hk => by cases hk) (by kernel_rfl) (laid_met os))) ?_
  intro W base args ds gs before hval hW _ _ _ hL _ _
  exact contract H enc W base args ds gs before hval hW hL

theorem said : Rows.ShardNoneSaid :=
  OpenClaim.holds_of_cond 5 Tryd.f5 rfl rfl rfl rfl rfl rfl rfl ⟨rfl, rfl, rfl, rfl, rfl⟩ rfl rfl rfl rfl rfl (by kernel_rfl) Tryd.func5 (by kernel_rfl)
    (of_decide_eq_true (by kernel_rfl)) (by unfold Func.isWrapper; first | (rw [if_pos (by decide +kernel)]; kernel_rfl) | (rw [if_neg (by decide +kernel)]; exact ⟨rfl, rfl⟩))
    (fun os started H enc _ F => by rw [OpenClaim.pre_eq_preRow]; exact lifted os started H enc F)
theorem plain (f : FuncId) (fn : Func) (hf : Tryd.pinned.checked.prog.funcNamed "verge/vergelaw13.ShardNone" = some f) (hfn : Tryd.pinned.checked.prog.funcs[f]? = some fn) :
    false = Tryd.pinned.checked.prog.looks [] ∧ ∀ (j : Nat) t, fn.params[j]? = some t → Tryd.pinned.checked.prog.wantsStandIn t = false := by
  obtain rfl : f = 5 := Option.some.inj ((show Tryd.prog.funcNamed "verge/vergelaw13.ShardNone" = some 5 by kernel_rfl).symm.trans hf) |>.symm
  obtain rfl : fn = Tryd.f5 := (Option.some.inj (Tryd.func5.symm.trans hfn)).symm
  refine ⟨by kernel_rfl, fun j t ht => ?_⟩
  rw [Tryd.params5] at ht
  have hm := Array.mem_of_getElem? ht
  have hor : t = 31 := by simpa using hm
  subst hor
  · exact (show Tryd.prog.wantsStandIn 31 = false by kernel_rfl)
theorem proved : Rows.ShardNoneCardSaid :=
  Claim7.holds_tied_plain_at .later [] _ _ _ _ said (fun _ h => by cases h) (by kernel_rfl) (fun _ h => by cases h) shardNone_row_tie rfl ⟨rfl, rfl⟩ (by kernel_rfl) rfl plain (by kernel_rfl)
#print axioms proved
end Go.Proofs.YthamdbfilpegjaaDoor.shardNone
