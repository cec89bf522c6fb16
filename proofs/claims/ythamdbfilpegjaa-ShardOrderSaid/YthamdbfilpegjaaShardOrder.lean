/-
  What stands here: the statement ShardOrderSaid: for every input the call returns true and each argument reads as it did. Under no condition.
-/
import Derived.Test.YthamdbfilpegjaaRows
import Derived.Test.YthamdbfilpegjaaShardOrderWalk
import Derived.Test.YthamdbfilpegjaaOpen
import Derived.WalkKit
import Derived.ProofKit
import Derived.OpenShut
import Derived.ShutString
import Derived.ChangeOld
import Derived.Below
namespace Go.Proofs.Ythamdbfilpegjaa.shardOrder
open Go.Proofs.Ythamdbfilpegjaa
open Go.ChangeShapes Go.WideShapes Go.ChangeAt Go.RowKit Go.Deep
open Go.ChangeMaps (open_string shut_string)
set_option linter.unusedVariables false
set_option linter.unusedSimpArgs false

theorem own : ownKnob Try.prog.godebug = none := by kernel_rfl
theorem laidOut : laidOutB Try.prog = true := by kernel_rfl

set_option maxRecDepth 100000 in
theorem lifted (os : Os) (started : os.Started) (H : Type) (enc : TypeId × Value → H) :
    ReturnsInHanded {} Try.checked os 3 .any (Rows.shardOrderSpec.pre6 enc Try.prog Try.f3 Rows.shardOrderRow.domain false) (Rows.shardOrderSpec.post enc Try.prog Try.f3 false true false false) := by
  refine returnsInHanded_of_change (C := Try.checked) own started (by kernel_rfl) Try.func3
    (ChangeSpec.witness6 (enc := enc) (C := Try.checked) false ⟨#[], #[.slice none 0 0], []⟩ 8 (by kernel_rfl) (by kernel_rfl) (by kernel_rfl) (by kernel_rfl)) ?_
  intro W base args ds gs before hval0 hW hcnd _
  have hval : ∀ (j : Nat) t v, Try.f3.params[j]? = some t → args[j]? = some v → Value.okWide Try.prog W .any base t v := hval0
  have hW' := hW
  obtain ⟨p, q, hA0, hV, rfl, hfz, hnd⟩ := hW
  have hA : DataW.TrodAll enc Try.prog W 0 (fun _ => true) true Try.f3.params.toList args.toList ds p := hA0
  rw [Try.params3] at hA hval
  obtain ⟨v0, vs0, d0, ds0, p0, q0, hargs, rfl, rfl, h0, r0⟩ := trodAll_cons hA
  obtain ⟨rfl, rfl, rfl⟩ := trodAll_nil r0
  obtain rfl : args = #[v0] := by cases args; simp_all
  obtain ⟨rfl, rfl⟩ := trodVars_none hV
  obtain ⟨a0, len0, cap0, rfl⟩ := okWide_slice Try.underlying22 (hval 0 22 v0 rfl rfl)
  have k0 := h0
  have lt0 : ∀ x ∈ p0, x.block < W.heap.size := by obtain ⟨m, hm⟩ := k0; exact DataW.trod_lt m _ _ _ hm
  obtain ⟨fuel0, hf0⟩ := h0
  obtain ⟨hle0, hro0⟩ := open_rows (k := 7) Try.underlying22 (by kernel_rfl) (by omega) hf0 (fun _ => rfl)
  obtain ⟨f0_0, f0_1, f0_2, f0_3, f0_4, f0_5, f0_6, w0⟩ : ∃ (f0_0 : Nat → Int) (f0_1 : Nat → Int) (f0_2 : Nat → Int) (f0_3 : Nat → Int) (f0_4 : Nat → Int) (f0_5 : Nat → Int) (f0_6 : Nat → Int), (len0 ≤ cap0 ∧ cap0 ≤ maxLen) ∧ (0 < len0 → ∃ b o, a0 = some ⟨b, o, none⟩ ∧ b < W.heap.size ∧ ∀ i, i < len0 → W.cell? ⟨b, o + i * 7, none⟩ = some (.int .i64 (f0_0 i)) ∧ (Lit.int .i64 (f0_0 i)).wf = true ∧ W.cell? ⟨b, o + i * 7 + 1, none⟩ = some (.int .i64 (f0_1 i)) ∧ (Lit.int .i64 (f0_1 i)).wf = true ∧ W.cell? ⟨b, o + i * 7 + 2, none⟩ = some (.int .u64 (f0_2 i)) ∧ (Lit.int .u64 (f0_2 i)).wf = true ∧ W.cell? ⟨b, o + i * 7 + 3, none⟩ = some (.int .i64 (f0_3 i)) ∧ (Lit.int .i64 (f0_3 i)).wf = true ∧ W.cell? ⟨b, o + i * 7 + 4, none⟩ = some (.int .u64 (f0_4 i)) ∧ (Lit.int .u64 (f0_4 i)).wf = true ∧ W.cell? ⟨b, o + i * 7 + 5, none⟩ = some (.int .u64 (f0_5 i)) ∧ (Lit.int .u64 (f0_5 i)).wf = true ∧ W.cell? ⟨b, o + i * 7 + 6, none⟩ = some (.int .u64 (f0_6 i)) ∧ (Lit.int .u64 (f0_6 i)).wf = true) := by
    by_cases hp : 0 < len0
    · obtain ⟨b, o, m, ha, hb, hr⟩ := hro0 hp
      obtain ⟨f0_0, hf0_0⟩ := choose_lt (n := len0) (p := fun i (x : Int) => W.cell? ⟨b, o + i * 7 + 0, none⟩ = some (.int .i64 x) ∧ (Lit.int .i64 x).wf = true) (fun i hi => by
        obtain ⟨cs, d, hl, hc, ht⟩ := hr i hi
        obtain ⟨v, n', d', hv, hd⟩ := field_at Try.underlying33 ht 0 (f := _) rfl (by kernel_rfl) (by rw [hl]; exact of_decide_eq_true (by kernel_rfl))
        obtain ⟨z, rfl, hz⟩ := val_int Try.underlying3 hd
        exact ⟨z, (hc 0 (by omega)).trans hv, hz⟩)
      obtain ⟨f0_1, hf0_1⟩ := choose_lt (n := len0) (p := fun i (x : Int) => W.cell? ⟨b, o + i * 7 + 1, none⟩ = some (.int .i64 x) ∧ (Lit.int .i64 x).wf = true) (fun i hi => by
        obtain ⟨cs, d, hl, hc, ht⟩ := hr i hi
        obtain ⟨v, n', d', hv, hd⟩ := field_at Try.underlying33 ht 1 (f := _) rfl (by kernel_rfl) (by rw [hl]; exact of_decide_eq_true (by kernel_rfl))
        obtain ⟨z, rfl, hz⟩ := val_int Try.underlying3 hd
        exact ⟨z, (hc 1 (by omega)).trans hv, hz⟩)
      obtain ⟨f0_2, hf0_2⟩ := choose_lt (n := len0) (p := fun i (x : Int) => W.cell? ⟨b, o + i * 7 + 2, none⟩ = some (.int .u64 x) ∧ (Lit.int .u64 x).wf = true) (fun i hi => by
        obtain ⟨cs, d, hl, hc, ht⟩ := hr i hi
        obtain ⟨n1, d1, cs1, hl1, hc1, ht1⟩ := field_in (m := 5) Try.underlying33 ht 2 (f := _) rfl (by kernel_rfl) (by rw [hl]; exact of_decide_eq_true (by kernel_rfl))
        obtain ⟨v, n', d', hv, hd⟩ := field_at Try.underlying31 ht1 0 (f := _) rfl (by kernel_rfl) (by rw [hl1]; exact of_decide_eq_true (by kernel_rfl))
        obtain ⟨z, rfl, hz⟩ := val_int Try.underlying29 hd
        exact ⟨z, ((hc 2 (by omega)).trans (hc1 0 (by omega)).symm).trans hv, hz⟩)
      obtain ⟨f0_3, hf0_3⟩ := choose_lt (n := len0) (p := fun i (x : Int) => W.cell? ⟨b, o + i * 7 + 3, none⟩ = some (.int .i64 x) ∧ (Lit.int .i64 x).wf = true) (fun i hi => by
        obtain ⟨cs, d, hl, hc, ht⟩ := hr i hi
        obtain ⟨n1, d1, cs1, hl1, hc1, ht1⟩ := field_in (m := 5) Try.underlying33 ht 2 (f := _) rfl (by kernel_rfl) (by rw [hl]; exact of_decide_eq_true (by kernel_rfl))
        obtain ⟨v, n', d', hv, hd⟩ := field_at Try.underlying31 ht1 1 (f := _) rfl (by kernel_rfl) (by rw [hl1]; exact of_decide_eq_true (by kernel_rfl))
        obtain ⟨z, rfl, hz⟩ := val_int Try.underlying3 hd
        exact ⟨z, ((hc 3 (by omega)).trans (hc1 1 (by omega)).symm).trans hv, hz⟩)
      obtain ⟨f0_4, hf0_4⟩ := choose_lt (n := len0) (p := fun i (x : Int) => W.cell? ⟨b, o + i * 7 + 4, none⟩ = some (.int .u64 x) ∧ (Lit.int .u64 x).wf = true) (fun i hi => by
        obtain ⟨cs, d, hl, hc, ht⟩ := hr i hi
        obtain ⟨n1, d1, cs1, hl1, hc1, ht1⟩ := field_in (m := 5) Try.underlying33 ht 2 (f := _) rfl (by kernel_rfl) (by rw [hl]; exact of_decide_eq_true (by kernel_rfl))
        obtain ⟨v, n', d', hv, hd⟩ := field_at Try.underlying31 ht1 2 (f := _) rfl (by kernel_rfl) (by rw [hl1]; exact of_decide_eq_true (by kernel_rfl))
        obtain ⟨z, rfl, hz⟩ := val_int Try.underlying29 hd
        exact ⟨z, ((hc 4 (by omega)).trans (hc1 2 (by omega)).symm).trans hv, hz⟩)
      obtain ⟨f0_5, hf0_5⟩ := choose_lt (n := len0) (p := fun i (x : Int) => W.cell? ⟨b, o + i * 7 + 5, none⟩ = some (.int .u64 x) ∧ (Lit.int .u64 x).wf = true) (fun i hi => by
        obtain ⟨cs, d, hl, hc, ht⟩ := hr i hi
        obtain ⟨n1, d1, cs1, hl1, hc1, ht1⟩ := field_in (m := 5) Try.underlying33 ht 2 (f := _) rfl (by kernel_rfl) (by rw [hl]; exact of_decide_eq_true (by kernel_rfl))
        obtain ⟨v, n', d', hv, hd⟩ := field_at Try.underlying31 ht1 3 (f := _) rfl (by kernel_rfl) (by rw [hl1]; exact of_decide_eq_true (by kernel_rfl))
        obtain ⟨z, rfl, hz⟩ := val_int Try.underlying29 hd
        exact ⟨z, ((hc 5 (by omega)).trans (hc1 3 (by omega)).symm).trans hv, hz⟩)
      obtain ⟨f0_6, hf0_6⟩ := choose_lt (n := len0) (p := fun i (x : Int) => W.cell? ⟨b, o + i * 7 + 6, none⟩ = some (.int .u64 x) ∧ (Lit.int .u64 x).wf = true) (fun i hi => by
        obtain ⟨cs, d, hl, hc, ht⟩ := hr i hi
        obtain ⟨n1, d1, cs1, hl1, hc1, ht1⟩ := field_in (m := 5) Try.underlying33 ht 2 (f := _) rfl (by kernel_rfl) (by rw [hl]; exact of_decide_eq_true (by kernel_rfl))
        obtain ⟨v, n', d', hv, hd⟩ := field_at Try.underlying31 ht1 4 (f := _) rfl (by kernel_rfl) (by rw [hl1]; exact of_decide_eq_true (by kernel_rfl))
        obtain ⟨z, rfl, hz⟩ := val_int Try.underlying29 hd
        exact ⟨z, ((hc 6 (by omega)).trans (hc1 4 (by omega)).symm).trans hv, hz⟩)
      exact ⟨f0_0, f0_1, f0_2, f0_3, f0_4, f0_5, f0_6, hle0, fun _ => ⟨b, o, ha, hb, fun i hi => ⟨(hf0_0 i hi).1, (hf0_0 i hi).2, (hf0_1 i hi).1, (hf0_1 i hi).2, (hf0_2 i hi).1, (hf0_2 i hi).2, (hf0_3 i hi).1, (hf0_3 i hi).2, (hf0_4 i hi).1, (hf0_4 i hi).2, (hf0_5 i hi).1, (hf0_5 i hi).2, (hf0_6 i hi).1, (hf0_6 i hi).2⟩⟩⟩
    · exact ⟨fun _ => 0, fun _ => 0, fun _ => 0, fun _ => 0, fun _ => 0, fun _ => 0, fun _ => 0, hle0, fun h => absurd h hp⟩
  clear hA0 hval0
  refine (shardOrder_walk a0 len0 cap0 f0_0 f0_1 f0_2 f0_3 f0_4 f0_5 f0_6 W w0).mono fun e W' ⟨he, bel⟩ => ?_
  subst he
  exact ⟨_, rfl, _, _, _, [], _, [], hW', trodAll_mk1 (shut_bool Try.underlying4 _), (trodAll_cons_mk (Below.trod laidOut (by kernel_rfl) (of_decide_eq_true (by kernel_rfl)) k0 bel lt0) trodAll_mk0), rfl, bel.frame _, fun h => by cases h⟩

theorem over : Rows.shardOrderRow.holds Try.pinned (OpenSpec.ofChange Rows.shardOrderSpec) :=
  OpenClaim.holds_of_wide 3 Try.f3 rfl rfl rfl rfl rfl rfl rfl ⟨rfl, rfl, rfl, rfl, rfl⟩ rfl rfl rfl rfl rfl (by kernel_rfl) Try.func3 (by kernel_rfl)
    (of_decide_eq_true (by kernel_rfl)) (by unfold Func.isWrapper; first | (rw [if_pos (by decide +kernel)]; kernel_rfl) | (rw [if_neg (by decide +kernel)]; exact ⟨rfl, rfl⟩))
    (fun os started H enc _ => lifted os started H enc)

theorem proved : Rows.ShardOrderSaid := over
#print axioms proved
end Go.Proofs.Ythamdbfilpegjaa.shardOrder
