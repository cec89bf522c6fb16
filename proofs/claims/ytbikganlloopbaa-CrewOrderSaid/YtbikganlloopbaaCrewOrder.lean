/-
  What stands here: the statement CrewOrderSaid: for every input the call returns true and each argument reads as it did. Under no condition.
-/
import Derived.Test.YtbikganlloopbaaRows
import Derived.Test.YtbikganlloopbaaCrewOrderWalk
import Derived.Test.YtbikganlloopbaaOpen
import Derived.WalkKit
import Derived.ProofKit
import Derived.OpenShut
import Derived.ShutString
import Derived.ChangeOld
import Derived.Below
namespace Go.Proofs.Ytbikganlloopbaa.crewOrder
open Go.Proofs.Ytbikganlloopbaa
open Go.ChangeShapes Go.WideShapes Go.ChangeAt Go.RowKit Go.Deep
open Go.ChangeMaps (open_string shut_string)
set_option linter.unusedVariables false
set_option linter.unusedSimpArgs false

theorem own : ownKnob Try.prog.godebug = none := by kernel_rfl
theorem laidOut : laidOutB Try.prog = true := by kernel_rfl

set_option maxRecDepth 100000 in
theorem lifted (os : Os) (started : os.Started) (H : Type) (enc : TypeId × Value → H) :
    ReturnsInHanded {} Try.checked os 3 .any (Rows.crewOrderSpec.pre6 enc Try.prog Try.f3 Rows.crewOrderRow.domain false) (Rows.crewOrderSpec.post enc Try.prog Try.f3 false true false false) := by
  refine returnsInHanded_of_change (C := Try.checked) own started (by kernel_rfl) Try.func3
    (ChangeSpec.witness6 (enc := enc) (C := Try.checked) false ⟨#[], #[.int .u8 0, .slice none 0 0], []⟩ 8 (by kernel_rfl) (by kernel_rfl) (by kernel_rfl) (by kernel_rfl)) ?_
  intro W base args ds gs before hval0 hW hcnd _
  have hval : ∀ (j : Nat) t v, Try.f3.params[j]? = some t → args[j]? = some v → Value.okWide Try.prog W .any base t v := hval0
  have hW' := hW
  obtain ⟨p, q, hA0, hV, rfl, hfz, hnd⟩ := hW
  have hA : DataW.TrodAll enc Try.prog W 0 (fun _ => true) true Try.f3.params.toList args.toList ds p := hA0
  rw [Try.params3] at hA hval
  obtain ⟨v0, vs0, d0, ds0, p0, q0, hargs, rfl, rfl, h0, r0⟩ := trodAll_cons hA
  obtain ⟨v1, vs1, d1, ds1, p1, q1, rfl, rfl, rfl, h1, r1⟩ := trodAll_cons r0
  obtain ⟨rfl, rfl, rfl⟩ := trodAll_nil r1
  obtain rfl : args = #[v0, v1] := by cases args; simp_all
  obtain ⟨rfl, rfl⟩ := trodVars_none hV
  obtain ⟨a0, rfl, rfl, rfl, w0⟩ := open_int Try.underlying5 (hval 0 5 v0 rfl rfl) h0
  obtain ⟨a1, len1, cap1, rfl⟩ := okWide_slice Try.underlying22 (hval 1 22 v1 rfl rfl)
  have k1 := h1
  have lt1 : ∀ x ∈ p1, x.block < W.heap.size := by obtain ⟨m, hm⟩ := k1; exact DataW.trod_lt m _ _ _ hm
  obtain ⟨fuel1, hf1⟩ := h1
  obtain ⟨hle1, hro1⟩ := open_rows (k := 4) Try.underlying22 (by kernel_rfl) (by omega) hf1 (fun _ => rfl)
  obtain ⟨f1_0, f1_1, f1_2, f1_3, w1⟩ : ∃ (f1_0 : Nat → Int) (f1_1 : Nat → Int) (f1_2 : Nat → Int) (f1_3 : Nat → Int), (len1 ≤ cap1 ∧ cap1 ≤ maxLen) ∧ (0 < len1 → ∃ b o, a1 = some ⟨b, o, none⟩ ∧ b < W.heap.size ∧ ∀ i, i < len1 → W.cell? ⟨b, o + i * 4, none⟩ = some (.int .u64 (f1_0 i)) ∧ (Lit.int .u64 (f1_0 i)).wf = true ∧ W.cell? ⟨b, o + i * 4 + 1, none⟩ = some (.int .u64 (f1_1 i)) ∧ (Lit.int .u64 (f1_1 i)).wf = true ∧ W.cell? ⟨b, o + i * 4 + 2, none⟩ = some (.int .u64 (f1_2 i)) ∧ (Lit.int .u64 (f1_2 i)).wf = true ∧ W.cell? ⟨b, o + i * 4 + 3, none⟩ = some (.int .u64 (f1_3 i)) ∧ (Lit.int .u64 (f1_3 i)).wf = true) := by
    by_cases hp : 0 < len1
    · obtain ⟨b, o, m, ha, hb, hr⟩ := hro1 hp
      obtain ⟨f1_0, hf1_0⟩ := choose_lt (n := len1) (p := fun i (x : Int) => W.cell? ⟨b, o + i * 4 + 0, none⟩ = some (.int .u64 x) ∧ (Lit.int .u64 x).wf = true) (fun i hi => by
        obtain ⟨cs, d, hl, hc, ht⟩ := hr i hi
        obtain ⟨v, n', d', hv, hd⟩ := field_at Try.underlying40 ht 0 (f := _) rfl (by kernel_rfl) (by rw [hl]; exact of_decide_eq_true (by kernel_rfl))
        obtain ⟨z, rfl, hz⟩ := val_int Try.underlying38 hd
        exact ⟨z, (hc 0 (by omega)).trans hv, hz⟩)
      obtain ⟨f1_1, hf1_1⟩ := choose_lt (n := len1) (p := fun i (x : Int) => W.cell? ⟨b, o + i * 4 + 1, none⟩ = some (.int .u64 x) ∧ (Lit.int .u64 x).wf = true) (fun i hi => by
        obtain ⟨cs, d, hl, hc, ht⟩ := hr i hi
        obtain ⟨v, n', d', hv, hd⟩ := field_at Try.underlying40 ht 1 (f := _) rfl (by kernel_rfl) (by rw [hl]; exact of_decide_eq_true (by kernel_rfl))
        obtain ⟨z, rfl, hz⟩ := val_int Try.underlying38 hd
        exact ⟨z, (hc 1 (by omega)).trans hv, hz⟩)
      obtain ⟨f1_2, hf1_2⟩ := choose_lt (n := len1) (p := fun i (x : Int) => W.cell? ⟨b, o + i * 4 + 2, none⟩ = some (.int .u64 x) ∧ (Lit.int .u64 x).wf = true) (fun i hi => by
        obtain ⟨cs, d, hl, hc, ht⟩ := hr i hi
        obtain ⟨v, n', d', hv, hd⟩ := field_at Try.underlying40 ht 2 (f := _) rfl (by kernel_rfl) (by rw [hl]; exact of_decide_eq_true (by kernel_rfl))
        obtain ⟨z, rfl, hz⟩ := val_int Try.underlying38 hd
        exact ⟨z, (hc 2 (by omega)).trans hv, hz⟩)
      obtain ⟨f1_3, hf1_3⟩ := choose_lt (n := len1) (p := fun i (x : Int) => W.cell? ⟨b, o + i * 4 + 3, none⟩ = some (.int .u64 x) ∧ (Lit.int .u64 x).wf = true) (fun i hi => by
        obtain ⟨cs, d, hl, hc, ht⟩ := hr i hi
        obtain ⟨v, n', d', hv, hd⟩ := field_at Try.underlying40 ht 3 (f := _) rfl (by kernel_rfl) (by rw [hl]; exact of_decide_eq_true (by kernel_rfl))
        obtain ⟨z, rfl, hz⟩ := val_int Try.underlying38 hd
        exact ⟨z, (hc 3 (by omega)).trans hv, hz⟩)
      exact ⟨f1_0, f1_1, f1_2, f1_3, hle1, fun _ => ⟨b, o, ha, hb, fun i hi => ⟨(hf1_0 i hi).1, (hf1_0 i hi).2, (hf1_1 i hi).1, (hf1_1 i hi).2, (hf1_2 i hi).1, (hf1_2 i hi).2, (hf1_3 i hi).1, (hf1_3 i hi).2⟩⟩⟩
    · exact ⟨fun _ => 0, fun _ => 0, fun _ => 0, fun _ => 0, hle1, fun h => absurd h hp⟩
  clear hA0 hval0
  refine (crewOrder_walk a0 a1 len1 cap1 f1_0 f1_1 f1_2 f1_3 W w0 w1).mono fun e W' ⟨he, bel⟩ => ?_
  subst he
  exact ⟨_, rfl, _, _, _, [], _, [], hW', trodAll_mk1 (shut_bool Try.underlying4 _), (trodAll_cons_mk (shut_int Try.underlying5 w0) (trodAll_cons_mk (Below.trod laidOut (by kernel_rfl) (of_decide_eq_true (by kernel_rfl)) k1 bel lt1) trodAll_mk0)), rfl, bel.frame _, fun h => by cases h⟩

theorem over : Rows.crewOrderRow.holds Try.pinned (OpenSpec.ofChange Rows.crewOrderSpec) :=
  OpenClaim.holds_of_wide 3 Try.f3 rfl rfl rfl rfl rfl rfl rfl ⟨rfl, rfl, rfl, rfl, rfl⟩ rfl rfl rfl rfl rfl (by kernel_rfl) Try.func3 (by kernel_rfl)
    (of_decide_eq_true (by kernel_rfl)) (by unfold Func.isWrapper; first | (rw [if_pos (by decide +kernel)]; kernel_rfl) | (rw [if_neg (by decide +kernel)]; exact ⟨rfl, rfl⟩))
    (fun os started H enc _ => lifted os started H enc)

theorem proved : Rows.CrewOrderSaid := over
#print axioms proved
end Go.Proofs.Ytbikganlloopbaa.crewOrder
