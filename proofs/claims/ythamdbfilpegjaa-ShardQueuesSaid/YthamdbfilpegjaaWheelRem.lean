/-
  What stands here: an entry is removed. Under no condition but that the world holds the wheel.
-/
import Derived.Test.YthamdbfilpegjaaWheelTake
import Derived.Test.YthamdbfilpegjaaWheelPlace
namespace Go.Proofs.Ythamdbfilpegjaa
set_option linter.unusedVariables false
set_option linter.unusedSimpArgs false
open Go.RowKit Go.Proofs
theorem map_erase_on {f : Nat → Nat} {e : Nat} : ∀ {xs : List Nat}, (∀ x, x ∈ xs → f x = f e → x = e) → (xs.erase e).map f = (xs.map f).erase (f e)
  | [], _ => rfl
  | x :: xs, h => by
    by_cases hx : x = e
    · subst hx; rw [List.erase_cons_head, List.map_cons, List.erase_cons_head]
    · have hf : ¬ f x = f e := fun e9 => hx (h x (by simp) e9)
      rw [List.erase_cons_tail (by simpa using hx), List.map_cons, List.map_cons, List.erase_cons_tail (by simpa using hf), map_erase_on (fun y hy => h y (by simp [hy]))]
theorem nil_ne {P : Program} (w : World) {tp te : TypeId} (hp : P.underlying tp = some (.pointer te)) (a : Addr) : (binOp .neq tp (.pointer none) (.pointer (some a))).run P w = .ok (.bool true) w := by
  have h : ∀ d : Nat, (Op.equalIn (d + 1) tp (.pointer none) (.pointer (some a))).run P w = .ok false w := fun d => by
    simp [Op.equalIn, run_underlying hp]
  simp only [binOp]
  simp [Op.equal, Op.maxDepth, h 9999]
end Go.Proofs.Ythamdbfilpegjaa
