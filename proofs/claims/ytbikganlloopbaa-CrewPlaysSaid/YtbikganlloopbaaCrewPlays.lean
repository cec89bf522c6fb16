/-
  What stands here: the statement CrewPlaysSaid: for every input the call returns true and each argument reads as it did. Under no condition.
-/
import Derived.Test.YtbikganlloopbaaRows
import Derived.Test.YtbikganlloopbaaCrewPlaysWalk
import Derived.Test.YtbikganlloopbaaOpen
import Derived.WalkKit
import Derived.ProofKit
import Derived.OpenShut
import Derived.ShutString
import Derived.ChangeOld
import Derived.Below
namespace Go.Proofs.Ytbikganlloopbaa.crewPlays
open Go.Proofs.Ytbikganlloopbaa
open Go.ChangeShapes Go.WideShapes Go.ChangeAt Go.RowKit Go.Deep
open Go.ChangeMaps (open_string shut_string)
set_option linter.unusedVariables false
set_option linter.unusedSimpArgs false

theorem own : ownKnob Try.prog.godebug = none := by kernel_rfl
theorem laidOut : laidOutB Try.prog = true := by kernel_rfl

set_option maxRecDepth 100000 in
theorem lifted (os : Os) (started : os.Started) (H : Type) (enc : TypeId × Value → H) :
    ReturnsInHanded {} Try.checked os 5 .any (Rows.crewPlaysSpec.pre6 enc Try.prog Try.f5 Rows.crewPlaysRow.domain false) (Rows.crewPlaysSpec.post enc Try.prog Try.f5 false true false false) := by
  refine returnsInHanded_of_change (C := Try.checked) own started (by kernel_rfl) Try.func5
    (ChangeSpec.witness6 (enc := enc) (C := Try.checked) false ⟨#[], #[.int .u8 0, .int .u8 0, .slice none 0 0], []⟩ 8 (by kernel_rfl) (by kernel_rfl) (by kernel_rfl) (by kernel_rfl)) ?_
  intro W base args ds gs before hval0 hW hcnd _
  have hval : ∀ (j : Nat) t v, Try.f5.params[j]? = some t → args[j]? = some v → Value.okWide Try.prog W .any base t v := hval0
  have hW' := hW
  obtain ⟨p, q, hA0, hV, rfl, hfz, hnd⟩ := hW
  have hA : DataW.TrodAll enc Try.prog W 0 (fun _ => true) true Try.f5.params.toList args.toList ds p := hA0
  rw [Try.params5] at hA hval
  obtain ⟨v0, vs0, d0, ds0, p0, q0, hargs, rfl, rfl, h0, r0⟩ := trodAll_cons hA
  obtain ⟨v1, vs1, d1, ds1, p1, q1, rfl, rfl, rfl, h1, r1⟩ := trodAll_cons r0
  obtain ⟨v2, vs2, d2, ds2, p2, q2, rfl, rfl, rfl, h2, r2⟩ := trodAll_cons r1
  obtain ⟨rfl, rfl, rfl⟩ := trodAll_nil r2
  obtain rfl : args = #[v0, v1, v2] := by cases args; simp_all
  obtain ⟨rfl, rfl⟩ := trodVars_none hV
  obtain ⟨a0, rfl, rfl, rfl, w0⟩ := open_int Try.underlying5 (hval 0 5 v0 rfl rfl) h0
  obtain ⟨a1, rfl, rfl, rfl, w1⟩ := open_int Try.underlying5 (hval 1 5 v1 rfl rfl) h1
  obtain ⟨a2, len2, cap2, rfl⟩ := okWide_slice Try.underlying53 (hval 2 53 v2 rfl rfl)
  have k2 := h2
  have lt2 : ∀ x ∈ p2, x.block < W.heap.size := by obtain ⟨m, hm⟩ := k2; exact DataW.trod_lt m _ _ _ hm
  obtain ⟨fuel2, hf2⟩ := h2
  obtain ⟨hle2, hro2⟩ := open_rows (k := 6) Try.underlying53 (by kernel_rfl) (by omega) hf2 (fun _ => rfl)
  obtain ⟨f2_0, f2_1, f2_2, f2_3, f2_4, f2_5, w2⟩ : ∃ (f2_0 : Nat → Int) (f2_1 : Nat → Int) (f2_2 : Nat → Int) (f2_3 : Nat → Int) (f2_4 : Nat → Int) (f2_5 : Nat → Int), (len2 ≤ cap2 ∧ cap2 ≤ maxLen) ∧ (0 < len2 → ∃ b o, a2 = some ⟨b, o, none⟩ ∧ b < W.heap.size ∧ ∀ i, i < len2 → W.cell? ⟨b, o + i * 6, none⟩ = some (.int .i64 (f2_0 i)) ∧ (Lit.int .i64 (f2_0 i)).wf = true ∧ W.cell? ⟨b, o + i * 6 + 1, none⟩ = some (.int .i64 (f2_1 i)) ∧ (Lit.int .i64 (f2_1 i)).wf = true ∧ W.cell? ⟨b, o + i * 6 + 2, none⟩ = some (.int .u64 (f2_2 i)) ∧ (Lit.int .u64 (f2_2 i)).wf = true ∧ W.cell? ⟨b, o + i * 6 + 3, none⟩ = some (.int .u64 (f2_3 i)) ∧ (Lit.int .u64 (f2_3 i)).wf = true ∧ W.cell? ⟨b, o + i * 6 + 4, none⟩ = some (.int .u64 (f2_4 i)) ∧ (Lit.int .u64 (f2_4 i)).wf = true ∧ W.cell? ⟨b, o + i * 6 + 5, none⟩ = some (.int .u64 (f2_5 i)) ∧ (Lit.int .u64 (f2_5 i)).wf = true) := by
    by_cases hp : 0 < len2
    · obtain ⟨b, o, m, ha, hb, hr⟩ := hro2 hp
      obtain ⟨f2_0, hf2_0⟩ := choose_lt (n := len2) (p := fun i (x : Int) => W.cell? ⟨b, o + i * 6 + 0, none⟩ = some (.int .i64 x) ∧ (Lit.int .i64 x).wf = true) (fun i hi => by
        obtain ⟨cs, d, hl, hc, ht⟩ := hr i hi
        obtain ⟨v, n', d', hv, hd⟩ := field_at Try.underlying62 ht 0 (f := _) rfl (by kernel_rfl) (by rw [hl]; exact of_decide_eq_true (by kernel_rfl))
        obtain ⟨z, rfl, hz⟩ := val_int Try.underlying3 hd
        exact ⟨z, (hc 0 (by omega)).trans hv, hz⟩)
      obtain ⟨f2_1, hf2_1⟩ := choose_lt (n := len2) (p := fun i (x : Int) => W.cell? ⟨b, o + i * 6 + 1, none⟩ = some (.int .i64 x) ∧ (Lit.int .i64 x).wf = true) (fun i hi => by
        obtain ⟨cs, d, hl, hc, ht⟩ := hr i hi
        obtain ⟨v, n', d', hv, hd⟩ := field_at Try.underlying62 ht 1 (f := _) rfl (by kernel_rfl) (by rw [hl]; exact of_decide_eq_true (by kernel_rfl))
        obtain ⟨z, rfl, hz⟩ := val_int Try.underlying3 hd
        exact ⟨z, (hc 1 (by omega)).trans hv, hz⟩)
      obtain ⟨f2_2, hf2_2⟩ := choose_lt (n := len2) (p := fun i (x : Int) => W.cell? ⟨b, o + i * 6 + 2, none⟩ = some (.int .u64 x) ∧ (Lit.int .u64 x).wf = true) (fun i hi => by
        obtain ⟨cs, d, hl, hc, ht⟩ := hr i hi
        obtain ⟨n1, d1, cs1, hl1, hc1, ht1⟩ := field_in (m := 4) Try.underlying62 ht 2 (f := _) rfl (by kernel_rfl) (by rw [hl]; exact of_decide_eq_true (by kernel_rfl))
        obtain ⟨v, n', d', hv, hd⟩ := field_at Try.underlying40 ht1 0 (f := _) rfl (by kernel_rfl) (by rw [hl1]; exact of_decide_eq_true (by kernel_rfl))
        obtain ⟨z, rfl, hz⟩ := val_int Try.underlying38 hd
        exact ⟨z, ((hc 2 (by omega)).trans (hc1 0 (by omega)).symm).trans hv, hz⟩)
      obtain ⟨f2_3, hf2_3⟩ := choose_lt (n := len2) (p := fun i (x : Int) => W.cell? ⟨b, o + i * 6 + 3, none⟩ = some (.int .u64 x) ∧ (Lit.int .u64 x).wf = true) (fun i hi => by
        obtain ⟨cs, d, hl, hc, ht⟩ := hr i hi
        obtain ⟨n1, d1, cs1, hl1, hc1, ht1⟩ := field_in (m := 4) Try.underlying62 ht 2 (f := _) rfl (by kernel_rfl) (by rw [hl]; exact of_decide_eq_true (by kernel_rfl))
        obtain ⟨v, n', d', hv, hd⟩ := field_at Try.underlying40 ht1 1 (f := _) rfl (by kernel_rfl) (by rw [hl1]; exact of_decide_eq_true (by kernel_rfl))
        obtain ⟨z, rfl, hz⟩ := val_int Try.underlying38 hd
        exact ⟨z, ((hc 3 (by omega)).trans (hc1 1 (by omega)).symm).trans hv, hz⟩)
      obtain ⟨f2_4, hf2_4⟩ := choose_lt (n := len2) (p := fun i (x : Int) => W.cell? ⟨b, o + i * 6 + 4, none⟩ = some (.int .u64 x) ∧ (Lit.int .u64 x).wf = true) (fun i hi => by
        obtain ⟨cs, d, hl, hc, ht⟩ := hr i hi
        obtain ⟨n1, d1, cs1, hl1, hc1, ht1⟩ := field_in (m := 4) Try.underlying62 ht 2 (f := _) rfl (by kernel_rfl) (by rw [hl]; exact of_decide_eq_true (by kernel_rfl))
        obtain ⟨v, n', d', hv, hd⟩ := field_at Try.underlying40 ht1 2 (f := _) rfl (by kernel_rfl) (by rw [hl1]; exact of_decide_eq_true (by kernel_rfl))
        obtain ⟨z, rfl, hz⟩ := val_int Try.underlying38 hd
        exact ⟨z, ((hc 4 (by omega)).trans (hc1 2 (by omega)).symm).trans hv, hz⟩)
      obtain ⟨f2_5, hf2_5⟩ := choose_lt (n := len2) (p := fun i (x : Int) => W.cell? ⟨b, o + i * 6 + 5, none⟩ = some (.int .u64 x) ∧ (Lit.int .u64 x).wf = true) (fun i hi => by
        obtain ⟨cs, d, hl, hc, ht⟩ := hr i hi
        obtain ⟨n1, d1, cs1, hl1, hc1, ht1⟩ := field_in (m := 4) Try.underlying62 ht 2 (f := _) rfl (by kernel_rfl) (by rw [hl]; exact of_decide_eq_true (by kernel_rfl))
        obtain ⟨v, n', d', hv, hd⟩ := field_at Try.underlying40 ht1 3 (f := _) rfl (by kernel_rfl) (by rw [hl1]; exact of_decide_eq_true (by kernel_rfl))
        obtain ⟨z, rfl, hz⟩ := val_int Try.underlying38 hd
        exact ⟨z, ((hc 5 (by omega)).trans (hc1 3 (by omega)).symm).trans hv, hz⟩)
      exact ⟨f2_0, f2_1, f2_2, f2_3, f2_4, f2_5, hle2, fun _ => ⟨b, o, ha, hb, fun i hi => ⟨(hf2_0 i hi).1, (hf2_0 i hi).2, (hf2_1 i hi).1, (hf2_1 i hi).2, (hf2_2 i hi).1, (hf2_2 i hi).2, (hf2_3 i hi).1, (hf2_3 i hi).2, (hf2_4 i hi).1, (hf2_4 i hi).2, (hf2_5 i hi).1, (hf2_5 i hi).2⟩⟩⟩
    · exact ⟨fun _ => 0, fun _ => 0, fun _ => 0, fun _ => 0, fun _ => 0, fun _ => 0, hle2, fun h => absurd h hp⟩
  clear hA0 hval0
  refine (crewPlays_walk a0 a1 a2 len2 cap2 f2_0 f2_1 f2_2 f2_3 f2_4 f2_5 W w0 w1 w2).mono fun e W' ⟨he, bel⟩ => ?_
  subst he
  exact ⟨_, rfl, _, _, _, [], _, [], hW', trodAll_mk1 (shut_bool Try.underlying4 _), (trodAll_cons_mk (shut_int Try.underlying5 w0) (trodAll_cons_mk (shut_int Try.underlying5 w1) (trodAll_cons_mk (Below.trod laidOut (by kernel_rfl) (of_decide_eq_true (by kernel_rfl)) k2 bel lt2) trodAll_mk0))), rfl, bel.frame _, fun h => by cases h⟩

theorem over : Rows.crewPlaysRow.holds Try.pinned (OpenSpec.ofChange Rows.crewPlaysSpec) :=
  OpenClaim.holds_of_wide 5 Try.f5 rfl rfl rfl rfl rfl rfl rfl ⟨rfl, rfl, rfl, rfl, rfl⟩ rfl rfl rfl rfl rfl (by kernel_rfl) Try.func5 (by kernel_rfl)
    (of_decide_eq_true (by kernel_rfl)) (by unfold Func.isWrapper; first | (rw [if_pos (by decide +kernel)]; kernel_rfl) | (rw [if_neg (by decide +kernel)]; exact ⟨rfl, rfl⟩))
    (fun os started H enc _ => lifted os started H enc)

theorem proved : Rows.CrewPlaysSaid := over
#print axioms proved
end Go.Proofs.Ytbikganlloopbaa.crewPlays
