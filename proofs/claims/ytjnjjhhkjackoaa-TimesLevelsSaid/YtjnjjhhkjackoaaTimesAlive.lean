/-
  What stands here: the document's examples on times hold. Under no condition.
-/
import Derived.Test.YtjnjjhhkjackoaaTimesCuts
namespace Go.Proofs.Ytjnjjhhkjackoaa
set_option linter.unusedVariables false
set_option linter.unusedSimpArgs false
open Go.RowKit Go.Proofs

theorem ZerosIs.uniq {t : Int} {k l : Nat} (h : ZerosIs t k) (h' : ZerosIs t l) : k = l := by
  rcases Nat.lt_trichotomy k l with hlt | rfl | hlt
  · exact absurd (h'.2.1 k hlt) (h.2.2 (by have := h'.1; omega))
  · rfl
  · exact absurd (h.2.1 l hlt) (h'.2.2 (by have := h.1; omega))
theorem a1 : ApartIs 63 64 1 := apart_found (k := 1) (by decide) (by decide) (by decide)
theorem z2 : ZerosIs 4096 2 := ⟨by decide, fun i hi => by match i, hi with | 0, _ => decide | 1, _ => decide, fun _ => by decide⟩

set_option maxHeartbeats 1000000 in
theorem alive_any (w : World) : Calls Try.prog 9 #[] w fun e w' => e = .returned (.bool true) ∧ Below w.heap.size w w' := by
  have hl := later_any 3 7 (by omega) (by omega)
  rw [if_neg (by omega), if_pos (by omega)] at hl
  have hd := digit_any 65 1 (by omega)
  rw [if_pos (by omega), show dg 65 (Int.toNat 1) = 1 by decide] at hd
  have ha := apart_any 63 64 (by omega) (by omega)
  have hz := zeros_any 4096 (by omega)
  go_enter Try.func9, Try.ntmps9
  go_wp2_with fail
  refine (hl _).mono ?_
  rintro e w1 ⟨rfl, k1⟩
  go_wp2_with fail
  refine (hd _).mono ?_
  rintro e w2 ⟨rfl, k2⟩
  go_wp2_with fail
  refine (ha _).mono ?_
  rintro e w3 ⟨k, hk, rfl, k3⟩
  obtain rfl := hk.uniq a1
  go_wp2_with fail
  refine (hz _).mono ?_
  rintro e w4 ⟨k, hk, rfl, b4⟩
  obtain rfl := hk.uniq z2
  go_wp2_with fail
  go_ret
  exact ⟨rfl, ((below_still (Below.refl _ _) ((k1.trans k2).trans k3) (Nat.le_refl _)).trans (b4.mono ((k1.trans k2).trans k3).size))⟩
end Go.Proofs.Ytjnjjhhkjackoaa
