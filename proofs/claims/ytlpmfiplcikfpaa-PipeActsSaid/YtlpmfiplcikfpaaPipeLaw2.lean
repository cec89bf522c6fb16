/-
  What stands here: all things of a pipe in new memory. Under no condition.
-/
import Derived.Test.YtlpmfiplcikfpaaPipeAll
import Derived.Test.YtlpmfiplcikfpaaPipeLaw
namespace Go.Proofs.Ytlpmfiplcikfpaa
set_option linter.unusedVariables false
set_option linter.unusedSimpArgs false
open Go.RowKit Go.Proofs

theorem PB.all {base p c l N : Nat} {xs : List Int} {mx : Nat} {shut : Bool} {w W : World} (h : PB base p c l N xs mx shut w W) (hx : xs.length < 100000) : Calls Try.prog 16 #[.pointer (some ⟨p, 0, none⟩)] W fun e w' => (∃ v, e = .returned v ∧ w'.ownsRow W.heap.size 3 1 v xs.length (xs.map fun x => .int .i64 x)) ∧ PB base p c l N xs mx shut w w' ∧ Kept (fun y => y = c) W w' := by
  obtain ⟨s, h1, h2⟩ := h.st
  refine (pall_i W h2 hx).mono ?_
  rintro e w1 ⟨h3, h4, k⟩
  exact ⟨h3, ⟨below_step h.bel k h.hb (fun i hi e => by have := h.hc; omega), h.hb, h.hp, h.hc, s, h1, h4⟩, k⟩
end Go.Proofs.Ytlpmfiplcikfpaa
