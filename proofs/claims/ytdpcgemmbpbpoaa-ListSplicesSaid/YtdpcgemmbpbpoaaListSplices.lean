/-
  What stands here: the statement ListSplicesSaid: for every input the call returns true and each argument reads as it did. Under no condition.
-/
import Derived.Test.YtdpcgemmbpbpoaaRows
import Derived.Test.YtdpcgemmbpbpoaaListSplicesWalk
import Derived.Test.YtdpcgemmbpbpoaaOpen
import Derived.WalkKit
import Derived.ProofKit
import Derived.OpenShut
import Derived.ShutString
import Derived.ChangeOld
import Derived.Below
namespace Go.Proofs.Ytdpcgemmbpbpoaa.listSplices
open Go.Proofs.Ytdpcgemmbpbpoaa
open Go.ChangeShapes Go.WideShapes Go.ChangeAt Go.RowKit Go.Deep
open Go.ChangeMaps (open_string shut_string)
set_option linter.unusedVariables false
set_option linter.unusedSimpArgs false

theorem own : ownKnob Try.prog.godebug = none := by kernel_rfl
theorem laidOut : laidOutB Try.prog = true := by kernel_rfl

set_option maxRecDepth 100000 in
theorem lifted (os : Os) (started : os.Started) (H : Type) (enc : TypeId × Value → H) :
    ReturnsInHanded {} Try.checked os 3 .any (Rows.listSplicesSpec.pre6 enc Try.prog Try.f3 Rows.listSplicesRow.domain false) (Rows.listSplicesSpec.post enc Try.prog Try.f3 false true false false) := by
  refine returnsInHanded_of_change (C := Try.checked) own started (by kernel_rfl) Try.func3
    (ChangeSpec.witness6 (enc := enc) (C := Try.checked) false ⟨#[], #[.slice none 0 0, .int .u8 0], []⟩ 8 (by kernel_rfl) (by kernel_rfl) (by kernel_rfl) (by kernel_rfl)) ?_
  intro W base args ds gs before hval0 hW hcnd _
  have hval : ∀ (j : Nat) t v, Try.f3.params[j]? = some t → args[j]? = some v → Value.okWide Try.prog W .any base t v := hval0
  have hW' := hW
  obtain ⟨p, q, hA0, hV, rfl, hfz, hnd⟩ := hW
  have hA : DataW.TrodAll enc Try.prog W 0 (fun _ => true) true Try.f3.params.toList args.toList ds p := hA0
  rw [Try.params3] at hA hval
  obtain ⟨v0, vs0, d0, ds0, p0, q0, hargs, rfl, rfl, h0, r0⟩ := trodAll_cons hA
  obtain ⟨v1, vs1, d1, ds1, p1, q1, rfl, rfl, rfl, h1, r1⟩ := trodAll_cons r0
  obtain ⟨rfl, rfl, rfl⟩ := trodAll_nil r1
  obtain rfl : args = #[v0, v1] := by cases args; simp_all
  obtain ⟨rfl, rfl⟩ := trodVars_none hV
  obtain ⟨a0, len0, cap0, rfl⟩ := okWide_slice Try.underlying22 (hval 0 22 v0 rfl rfl)
  have k0 := h0
  have lt0 : ∀ x ∈ p0, x.block < W.heap.size := by obtain ⟨m, hm⟩ := k0; exact DataW.trod_lt m _ _ _ hm
  obtain ⟨fuel0, hf0⟩ := h0
  obtain ⟨hle0, hro0⟩ := open_rows (k := 1) Try.underlying22 (by kernel_rfl) (by omega) hf0 (fun _ => rfl)
  obtain ⟨Af0_0, Lf0_0, Cf0_0, Zf0_0, w0⟩ : ∃ (Af0_0 : Nat → Option Addr) (Lf0_0 Cf0_0 : Nat → Nat) (Zf0_0 : Nat → List Int), (len0 ≤ cap0 ∧ cap0 ≤ maxLen) ∧ (0 < len0 → ∃ b o, a0 = some ⟨b, o, none⟩ ∧ b < W.heap.size ∧ ∀ i, i < len0 → W.cell? ⟨b, o + i, none⟩ = some (.slice (Af0_0 i) (Lf0_0 i) (Cf0_0 i)) ∧ IsRow .i64 W (Af0_0 i) (Lf0_0 i) (Cf0_0 i) (Zf0_0 i)) := by
    by_cases hp : 0 < len0
    · obtain ⟨b, o, m, ha, hb, hr⟩ := hro0 hp
      obtain ⟨f0_0, hf0_0⟩ := choose_lt (n := len0) (p := fun i (x : Option Addr × Nat × Nat × List Int) => W.cell? ⟨b, o + i * 1 + 0, none⟩ = some (.slice x.1 x.2.1 x.2.2.1) ∧ IsRow .i64 W x.1 x.2.1 x.2.2.1 x.2.2.2) (fun i hi => by
        obtain ⟨cs, d, hl, hc, ht⟩ := hr i hi
        obtain ⟨v, rfl⟩ : ∃ v, cs = [v] := by match cs, hl with | [v], _ => exact ⟨v, rfl⟩
        have hv : ([v] : List Value)[0]? = some v := rfl
        have hd := ht
        obtain ⟨a, l, c, zs, rfl, hz⟩ := val_ints Try.underlying26 Try.underlying3 (by kernel_rfl) (fun _ => rfl) hd
        exact ⟨(a, l, c, zs), (hc 0 (by omega)).trans hv, hz⟩)
      exact ⟨fun i => (f0_0 i).1, fun i => (f0_0 i).2.1, fun i => (f0_0 i).2.2.1, fun i => (f0_0 i).2.2.2, hle0, fun _ => ⟨b, o, ha, hb, fun i hi => ⟨(by simpa only [Nat.mul_one, Nat.add_zero] using (hf0_0 i hi).1), (hf0_0 i hi).2⟩⟩⟩
    · exact ⟨fun _ => none, fun _ => 0, fun _ => 0, fun _ => [], hle0, fun h => absurd h hp⟩
  obtain ⟨a1, rfl, rfl, rfl, w1⟩ := open_int Try.underlying5 (hval 1 5 v1 rfl rfl) h1
  clear hA0 hval0
  refine (listSplices_walk a0 len0 cap0 Af0_0 Lf0_0 Cf0_0 Zf0_0 a1 W w0 w1).mono fun e W' ⟨he, bel⟩ => ?_
  subst he
  exact ⟨_, rfl, _, _, _, [], _, [], hW', trodAll_mk1 (shut_bool Try.underlying4 _), (trodAll_cons_mk (Below.trod laidOut (by kernel_rfl) (of_decide_eq_true (by kernel_rfl)) k0 bel lt0) (trodAll_cons_mk (shut_int Try.underlying5 w1) trodAll_mk0)), rfl, bel.frame _, fun h => by cases h⟩

theorem over : Rows.listSplicesRow.holds Try.pinned (OpenSpec.ofChange Rows.listSplicesSpec) :=
  OpenClaim.holds_of_wide 3 Try.f3 rfl rfl rfl rfl rfl rfl rfl ⟨rfl, rfl, rfl, rfl, rfl⟩ rfl rfl rfl rfl rfl (by kernel_rfl) Try.func3 (by kernel_rfl)
    (of_decide_eq_true (by kernel_rfl)) (by unfold Func.isWrapper; first | (rw [if_pos (by decide +kernel)]; kernel_rfl) | (rw [if_neg (by decide +kernel)]; exact ⟨rfl, rfl⟩))
    (fun os started H enc _ => lifted os started H enc)

theorem proved : Rows.ListSplicesSaid := over
#print axioms proved
end Go.Proofs.Ytdpcgemmbpbpoaa.listSplices
