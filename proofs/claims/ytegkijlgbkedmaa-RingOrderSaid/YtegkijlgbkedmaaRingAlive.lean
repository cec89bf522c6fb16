/-
  What stands here: a ticket's three steps, one by one; the document's example of a ring holds. Under no condition.
-/
import Derived.Test.YtegkijlgbkedmaaRingNew
import Derived.Test.YtegkijlgbkedmaaRingFill
import Derived.Test.YtegkijlgbkedmaaRingStep
namespace Go.Proofs.Ytegkijlgbkedmaa
set_option linter.unusedVariables false
set_option linter.unusedSimpArgs false
open Go.RowKit Go.Proofs

theorem step_1 (r : RS) (p : Nat) (f : Bool) : stepK r ⟨p, 0, 0, f⟩ = (r, ⟨r.t, 1, 0, f⟩) := rfl
theorem step_2 {r : RS} (ok : r.Ok) (h : r.t < r.h + r.N) (f : Bool) : stepK r ⟨r.t, 1, 0, f⟩ = (r, ⟨r.t, 2, 0, f⟩) := by
  have := ok.ht
  unfold stepK weighK
  simp only [if_true]
  rw [if_neg (by omega), if_neg (by rw [ok.pubs r.t (Nat.le_refl _)]; simp; omega), if_neg (by omega)]
theorem step_2full {r : RS} (ok : r.Ok) (h : ¬ r.t < r.h + r.N) (f : Bool) : stepK r ⟨r.t, 1, 0, f⟩ = (r, ⟨r.t, 1, 1, f⟩) := by
  have := ok.ht
  unfold stepK weighK
  simp only [if_true]
  rw [if_neg (by omega), if_neg (by rw [ok.pubs r.t (Nat.le_refl _)]; simp; omega), if_pos (by omega)]
theorem step_3 (r : RS) (f : Bool) : stepK r ⟨r.t, 2, 0, f⟩ = (r.more, ⟨r.t, 0, 2, f⟩) := by
  unfold stepK
  simp
theorem step_end (r : RS) (k : TS) (h : k.status ≠ 0) : stepK r k = (r, k) := by unfold stepK; rw [if_neg h]

set_option maxHeartbeats 2000000 in
theorem alive_any (w : World) : Calls Try.prog 8 #[] w fun e w' => e = .returned (.bool true) ∧ Below w.heap.size w w' := by
  go_enter Try.func8, Try.ntmps8
  go_wp2_with fail
  refine (new_i 1 (by omega) (by omega) w).mono ?_
  rintro e w1 ⟨b, sb, rfl, h1, k1, hb, hsb⟩
  obtain ⟨r, hr⟩ : ∃ r : RS, r = ⟨1, 0, 0, fun _ => false, fun _ => .int .i64 0⟩ := ⟨_, rfl⟩
  rw [← hr] at h1
  have rN : r.N = 1 := by rw [hr]
  have rh : r.h = 0 := by rw [hr]
  have rt : r.t = 0 := by rw [hr]
  have rv : r.val = fun _ => .int .i64 0 := by rw [hr]
  have RN := Lib.hid rN
  have RH := Lib.hid rh
  have RT := Lib.hid rt
  have RV := Lib.hid rv
  clear hr rN rh rt rv
  have hlt1 := h1.lt
  have H1 := Lib.hid h1
  clear h1
  go_wp2_with fail
  refine (begin_i b w1).mono ?_
  rintro e w2 ⟨rfl, k2, t2⟩
  generalize ha : w1.heap.size = ta at *
  have z2 := t2.lt
  go_wp2_with fail
  refine (begin_i b w2).mono ?_
  rintro e w3 ⟨rfl, k3, t3⟩
  generalize hb' : w2.heap.size = tb at *
  have H3 := Lib.hid ((H1.out.still k2).still k3)
  have hA3 := t2.still k3
  have HA3 := Lib.hid hA3
  have HB3 := Lib.hid t3
  have z3 := t3.lt
  have hk3 : Below w.heap.size w w3 := below_still k1 (k2.trans k3) (Nat.le_refl _)
  clear t2 t3 hA3
  go_wp2_with fail
  have ok := H1.out.ok
  have s1 := stepped_i w3 H3.out HA3.out (by omega) (by omega) ⟨by rw [RT.out]; exact Nat.le_refl _, by simp, fun _ h => by simp at h⟩ (by rw [RT.out]; omega)
  rw [step_1] at s1
  refine s1.mono ?_
  rintro e w4 ⟨rfl, h4, a4, k4⟩
  have H4 := Lib.hid h4
  have A4 := Lib.hid a4
  clear h4 a4 s1
  go_wp2_with fail
  have s2 := stepped_i w4 H4.out A4.out (by omega) (by omega) ⟨Nat.le_refl _, by simp, fun _ h => by simp at h⟩ (by rw [RT.out]; omega)
  rw [step_2 ok (by rw [RT.out, RH.out, RN.out]; omega)] at s2
  refine s2.mono ?_
  rintro e w5 ⟨rfl, h5, a5, k5⟩
  have H5 := Lib.hid h5
  have A5 := Lib.hid a5
  clear h5 a5 s2
  go_wp2_with fail
  have s3 := stepped_i w5 H5.out A5.out (by omega) (by omega) ⟨Nat.le_refl _, by simp, fun _ _ => by show r.t < _; rw [RT.out, RH.out, RN.out]; omega⟩ (by rw [RT.out]; omega)
  rw [step_3] at s3
  refine s3.mono ?_
  rintro e w6 ⟨rfl, h6, a6, k6⟩
  have H6 := Lib.hid h6
  have A6 := Lib.hid a6
  have hB6 := ((HB3.out.kept k4 (by omega)).kept k5 (by omega)).kept k6 (by omega)
  have HB6 := Lib.hid hB6
  clear h6 a6 s3 hB6
  have okm := H6.out.ok
  go_wp2_with fail
  have s4 := stepped_i w6 H6.out HB6.out (by omega) (by omega) ⟨Nat.zero_le _, by simp, fun _ h => by simp at h⟩ (by show r.t + 1 + 1 < _; rw [RT.out]; omega)
  rw [step_1] at s4
  refine s4.mono ?_
  rintro e w7 ⟨rfl, h7, b7, k7⟩
  have H7 := Lib.hid h7
  have B7 := Lib.hid b7
  clear h7 b7 s4
  go_wp2_with fail
  have s5 := stepped_i w7 H7.out B7.out (by omega) (by omega) ⟨Nat.le_refl _, by simp, fun _ h => by simp at h⟩ (by show r.t + 1 + 1 < _; rw [RT.out]; omega)
  rw [step_2full okm (by show ¬ r.t + 1 < r.h + r.N; rw [RT.out, RH.out, RN.out]; omega)] at s5
  refine s5.mono ?_
  rintro e w8 ⟨rfl, h8, b8, k8⟩
  have H8 := Lib.hid h8
  have hA8 := (A6.out.kept k7 (by omega)).kept k8 (by omega)
  have HA8 := Lib.hid hA8
  clear h8 b8 s5 hA8
  go_wp2_with fail
  refine (fill_i 7 w8 H8.out HA8.out (by omega) (by omega) rfl rfl (by show r.h ≤ r.t; rw [RH.out]; omega) (by show r.t < r.t + 1; omega)).mono ?_
  rintro e w9 ⟨rfl, h9, a9, k9⟩
  have H9 := Lib.hid h9
  clear h9 a9
  go_wp2_with fail
  have hp := pop_i w9 H9.out (fun q => by
    show ∃ v, (if q = r.t then .int .i64 7 else r.val q) = Value.int .i64 v
    by_cases e : q = r.t
    · exact ⟨7, by rw [if_pos e]⟩
    · exact ⟨0, by rw [if_neg e, RV.out]⟩)
  have hrd : (r.more.publish r.t (.int .i64 7)).ready = true := by
    show (if r.h = r.t then true else r.pub r.h) = true
    rw [if_pos (by rw [RH.out, RT.out])]
  have hvl : (r.more.publish r.t (.int .i64 7)).val (r.more.publish r.t (.int .i64 7)).h = .int .i64 7 := by
    show (if r.h = r.t then Value.int .i64 7 else r.val r.h) = _
    rw [if_pos (by rw [RH.out, RT.out])]
  rw [hrd] at hp
  simp only [if_true] at hp
  rw [hvl] at hp
  refine hp.mono ?_
  rintro e w10 ⟨rfl, h10, k10⟩
  go_wp2_with fail
  go_ret
  have f : ∀ {A B : World} {S : Nat → Prop}, Below w.heap.size w A → Kept S A B → (∀ x, S x → w.heap.size ≤ x) → Below w.heap.size w B := fun h k hS => below_step h k (Nat.le_refl _) (fun i hi hs => by have := hS i hs; omega)
  have hta : w.heap.size ≤ ta := by omega
  have htb : w.heap.size ≤ tb := by omega
  refine ⟨rfl, f (f (f (f (f (f (f hk3 k4 ?_) k5 ?_) k6 ?_) k7 ?_) k8 ?_) k9 ?_) k10 ?_⟩
  all_goals (intro x hx; omega)
end Go.Proofs.Ytegkijlgbkedmaa
