/-
  What stands here: the statement ShardQueuesSaid: for every input the call returns true and each argument reads as it did. Under no condition.
-/
import Derived.Test.YthamdbfilpegjaaRows
import Derived.Test.YthamdbfilpegjaaShardQueuesWalk
import Derived.Test.YthamdbfilpegjaaOpen
import Derived.WalkKit
import Derived.ProofKit
import Derived.OpenShut
import Derived.ShutString
import Derived.ChangeOld
import Derived.Below
namespace Go.Proofs.Ythamdbfilpegjaa.shardQueues
open Go.Proofs.Ythamdbfilpegjaa
open Go.ChangeShapes Go.WideShapes Go.ChangeAt Go.RowKit Go.Deep
open Go.ChangeMaps (open_string shut_string)
set_option linter.unusedVariables false
set_option linter.unusedSimpArgs false

theorem own : ownKnob Try.prog.godebug = none := by kernel_rfl
theorem laidOut : laidOutB Try.prog = true := by kernel_rfl

set_option maxRecDepth 100000 in
theorem lifted (os : Os) (started : os.Started) (H : Type) (enc : TypeId × Value → H) :
    ReturnsInHanded {} Try.checked os 4 .any (Rows.shardQueuesSpec.pre6 enc Try.prog Try.f4 Rows.shardQueuesRow.domain false) (Rows.shardQueuesSpec.post enc Try.prog Try.f4 false true false false) := by
  refine returnsInHanded_of_change (C := Try.checked) own started (by kernel_rfl) Try.func4
    (ChangeSpec.witness6 (enc := enc) (C := Try.checked) false ⟨#[], #[.int .u8 0, .slice none 0 0, .int .u8 0], []⟩ 8 (by kernel_rfl) (by kernel_rfl) (by kernel_rfl) (by kernel_rfl)) ?_
  intro W base args ds gs before hval0 hW hcnd _
  have hval : ∀ (j : Nat) t v, Try.f4.params[j]? = some t → args[j]? = some v → Value.okWide Try.prog W .any base t v := hval0
  have hW' := hW
  obtain ⟨p, q, hA0, hV, rfl, hfz, hnd⟩ := hW
  have hA : DataW.TrodAll enc Try.prog W 0 (fun _ => true) true Try.f4.params.toList args.toList ds p := hA0
  rw [Try.params4] at hA hval
  obtain ⟨v0, vs0, d0, ds0, p0, q0, hargs, rfl, rfl, h0, r0⟩ := trodAll_cons hA
  obtain ⟨v1, vs1, d1, ds1, p1, q1, rfl, rfl, rfl, h1, r1⟩ := trodAll_cons r0
  obtain ⟨v2, vs2, d2, ds2, p2, q2, rfl, rfl, rfl, h2, r2⟩ := trodAll_cons r1
  obtain ⟨rfl, rfl, rfl⟩ := trodAll_nil r2
  obtain rfl : args = #[v0, v1, v2] := by cases args; simp_all
  obtain ⟨rfl, rfl⟩ := trodVars_none hV
  obtain ⟨a0, rfl, rfl, rfl, w0⟩ := open_int Try.underlying5 (hval 0 5 v0 rfl rfl) h0
  obtain ⟨a1, len1, cap1, rfl⟩ := okWide_slice Try.underlying37 (hval 1 37 v1 rfl rfl)
  have k1 := h1
  have lt1 : ∀ x ∈ p1, x.block < W.heap.size := by obtain ⟨m, hm⟩ := k1; exact DataW.trod_lt m _ _ _ hm
  obtain ⟨fuel1, hf1⟩ := h1
  obtain ⟨hle1, hro1⟩ := open_rows (k := 5) Try.underlying37 (by kernel_rfl) (by omega) hf1 (fun _ => rfl)
  obtain ⟨f1_0, f1_1, f1_2, f1_3, f1_4, w1⟩ : ∃ (f1_0 : Nat → Int) (f1_1 : Nat → Int) (f1_2 : Nat → Int) (f1_3 : Nat → Int) (f1_4 : Nat → Int), (len1 ≤ cap1 ∧ cap1 ≤ maxLen) ∧ (0 < len1 → ∃ b o, a1 = some ⟨b, o, none⟩ ∧ b < W.heap.size ∧ ∀ i, i < len1 → W.cell? ⟨b, o + i * 5, none⟩ = some (.int .u64 (f1_0 i)) ∧ (Lit.int .u64 (f1_0 i)).wf = true ∧ W.cell? ⟨b, o + i * 5 + 1, none⟩ = some (.int .i64 (f1_1 i)) ∧ (Lit.int .i64 (f1_1 i)).wf = true ∧ W.cell? ⟨b, o + i * 5 + 2, none⟩ = some (.int .u64 (f1_2 i)) ∧ (Lit.int .u64 (f1_2 i)).wf = true ∧ W.cell? ⟨b, o + i * 5 + 3, none⟩ = some (.int .u64 (f1_3 i)) ∧ (Lit.int .u64 (f1_3 i)).wf = true ∧ W.cell? ⟨b, o + i * 5 + 4, none⟩ = some (.int .u64 (f1_4 i)) ∧ (Lit.int .u64 (f1_4 i)).wf = true) := by
    by_cases hp : 0 < len1
    · obtain ⟨b, o, m, ha, hb, hr⟩ := hro1 hp
      obtain ⟨f1_0, hf1_0⟩ := choose_lt (n := len1) (p := fun i (x : Int) => W.cell? ⟨b, o + i * 5 + 0, none⟩ = some (.int .u64 x) ∧ (Lit.int .u64 x).wf = true) (fun i hi => by
        obtain ⟨cs, d, hl, hc, ht⟩ := hr i hi
        obtain ⟨v, n', d', hv, hd⟩ := field_at Try.underlying31 ht 0 (f := _) rfl (by kernel_rfl) (by rw [hl]; exact of_decide_eq_true (by kernel_rfl))
        obtain ⟨z, rfl, hz⟩ := val_int Try.underlying29 hd
        exact ⟨z, (hc 0 (by omega)).trans hv, hz⟩)
      obtain ⟨f1_1, hf1_1⟩ := choose_lt (n := len1) (p := fun i (x : Int) => W.cell? ⟨b, o + i * 5 + 1, none⟩ = some (.int .i64 x) ∧ (Lit.int .i64 x).wf = true) (fun i hi => by
        obtain ⟨cs, d, hl, hc, ht⟩ := hr i hi
        obtain ⟨v, n', d', hv, hd⟩ := field_at Try.underlying31 ht 1 (f := _) rfl (by kernel_rfl) (by rw [hl]; exact of_decide_eq_true (by kernel_rfl))
        obtain ⟨z, rfl, hz⟩ := val_int Try.underlying3 hd
        exact ⟨z, (hc 1 (by omega)).trans hv, hz⟩)
      obtain ⟨f1_2, hf1_2⟩ := choose_lt (n := len1) (p := fun i (x : Int) => W.cell? ⟨b, o + i * 5 + 2, none⟩ = some (.int .u64 x) ∧ (Lit.int .u64 x).wf = true) (fun i hi => by
        obtain ⟨cs, d, hl, hc, ht⟩ := hr i hi
        obtain ⟨v, n', d', hv, hd⟩ := field_at Try.underlying31 ht 2 (f := _) rfl (by kernel_rfl) (by rw [hl]; exact of_decide_eq_true (by kernel_rfl))
        obtain ⟨z, rfl, hz⟩ := val_int Try.underlying29 hd
        exact ⟨z, (hc 2 (by omega)).trans hv, hz⟩)
      obtain ⟨f1_3, hf1_3⟩ := choose_lt (n := len1) (p := fun i (x : Int) => W.cell? ⟨b, o + i * 5 + 3, none⟩ = some (.int .u64 x) ∧ (Lit.int .u64 x).wf = true) (fun i hi => by
        obtain ⟨cs, d, hl, hc, ht⟩ := hr i hi
        obtain ⟨v, n', d', hv, hd⟩ := field_at Try.underlying31 ht 3 (f := _) rfl (by kernel_rfl) (by rw [hl]; exact of_decide_eq_true (by kernel_rfl))
        obtain ⟨z, rfl, hz⟩ := val_int Try.underlying29 hd
        exact ⟨z, (hc 3 (by omega)).trans hv, hz⟩)
      obtain ⟨f1_4, hf1_4⟩ := choose_lt (n := len1) (p := fun i (x : Int) => W.cell? ⟨b, o + i * 5 + 4, none⟩ = some (.int .u64 x) ∧ (Lit.int .u64 x).wf = true) (fun i hi => by
        obtain ⟨cs, d, hl, hc, ht⟩ := hr i hi
        obtain ⟨v, n', d', hv, hd⟩ := field_at Try.underlying31 ht 4 (f := _) rfl (by kernel_rfl) (by rw [hl]; exact of_decide_eq_true (by kernel_rfl))
        obtain ⟨z, rfl, hz⟩ := val_int Try.underlying29 hd
        exact ⟨z, (hc 4 (by omega)).trans hv, hz⟩)
      exact ⟨f1_0, f1_1, f1_2, f1_3, f1_4, hle1, fun _ => ⟨b, o, ha, hb, fun i hi => ⟨(hf1_0 i hi).1, (hf1_0 i hi).2, (hf1_1 i hi).1, (hf1_1 i hi).2, (hf1_2 i hi).1, (hf1_2 i hi).2, (hf1_3 i hi).1, (hf1_3 i hi).2, (hf1_4 i hi).1, (hf1_4 i hi).2⟩⟩⟩
    · exact ⟨fun _ => 0, fun _ => 0, fun _ => 0, fun _ => 0, fun _ => 0, hle1, fun h => absurd h hp⟩
  obtain ⟨a2, rfl, rfl, rfl, w2⟩ := open_int Try.underlying5 (hval 2 5 v2 rfl rfl) h2
  clear hA0 hval0
  refine (shardQueues_walk a0 a1 len1 cap1 f1_0 f1_1 f1_2 f1_3 f1_4 a2 W w0 w1 w2).mono fun e W' ⟨he, bel⟩ => ?_
  subst he
  exact ⟨_, rfl, _, _, _, [], _, [], hW', trodAll_mk1 (shut_bool Try.underlying4 _), (trodAll_cons_mk (shut_int Try.underlying5 w0) (trodAll_cons_mk (Below.trod laidOut (by kernel_rfl) (of_decide_eq_true (by kernel_rfl)) k1 bel lt1) (trodAll_cons_mk (shut_int Try.underlying5 w2) trodAll_mk0))), rfl, bel.frame _, fun h => by cases h⟩

theorem over : Rows.shardQueuesRow.holds Try.pinned (OpenSpec.ofChange Rows.shardQueuesSpec) :=
  OpenClaim.holds_of_wide 4 Try.f4 rfl rfl rfl rfl rfl rfl rfl ⟨rfl, rfl, rfl, rfl, rfl⟩ rfl rfl rfl rfl rfl (by kernel_rfl) Try.func4 (by kernel_rfl)
    (of_decide_eq_true (by kernel_rfl)) (by unfold Func.isWrapper; first | (rw [if_pos (by decide +kernel)]; kernel_rfl) | (rw [if_neg (by decide +kernel)]; exact ⟨rfl, rfl⟩))
    (fun os started H enc _ => lifted os started H enc)

theorem proved : Rows.ShardQueuesSaid := over
#print axioms proved
end Go.Proofs.Ythamdbfilpegjaa.shardQueues
