/-
  What stands here: what Turn does with its cell's block, whatever function it is handed. Under the condition that that function has a contract.
-/
import Derived.Test.YtbikganlloopbaaCell
namespace Go.Proofs.Ytbikganlloopbaa
set_option linter.unusedVariables false
set_option linter.unusedSimpArgs false
open Go.RowKit Go.Proofs

set_option maxHeartbeats 400000 in
theorem turn_yes (F : FuncId) (caps : Array Value) (hF : Callable Try.prog F) (b o : Nat) (c : Array Value) (v l t u n : Int) {l' t' u' : Int} (hl : wrap64 (l + 1) = l') (ht : wrap64 (t + 1) = t') (hu : wrap64 (u + 1) = u') (T : TypeId) (w : World)
    (hb : Blk w b c T) (h0 : c[o]? = some (.int .i64 v)) (h1 : c[o+1]? = some (.int .i64 l)) (h2 : c[o+2]? = some (.int .i64 t)) (h3 : c[o+3]? = some (.int .i64 u)) (R : World → World → Prop)
    (hcall : ∀ w1, Only b w w1 → Blk w1 b (c.setIfInBounds (o+1) (.int .i64 l')) T → Calls Try.prog F (#[.int .i64 v] ++ caps) w1 fun e w2 => e = .returned (.tuple #[.int .i64 n, .bool true]) ∧
      Blk w2 b (c.setIfInBounds (o+1) (.int .i64 l')) T ∧ R w1 w2) :
    Calls Try.prog 82 #[.pointer (some ⟨b, o, none⟩), .func (.func F) #[] caps] w fun e w' => e = .returned (.tuple #[.int .i64 v, .bool true]) ∧
      ∃ w1 w2, Only b w w1 ∧ R w1 w2 ∧ Only b w2 w' ∧ Blk w' b ((((c.setIfInBounds (o+1) (.int .i64 l')).setIfInBounds (o+2) (.int .i64 t')).setIfInBounds o (.int .i64 n)).setIfInBounds (o+3) (.int .i64 u')) T := by
  have hcf := fun args wx => run_callFunc (P := Try.prog) hF args wx
  go_enter Try.func82, Try.ntmps82
  go_wp2_with fail
  refine (load_any b o c v l hl T w hb h0 h1).mono ?_
  rintro e w1 ⟨rfl, k1, b1⟩
  go_wp2_with fail
  refine (hcall w1 k1 b1).mono ?_
  rintro e w2 ⟨rfl, b2, r2⟩
  go_wp2_with fail
  have z1 : (c.setIfInBounds (o+1) (.int .i64 l'))[o]? = some (.int .i64 v) := by rw [Array.getElem?_setIfInBounds_ne (by omega)]; exact h0
  have z2 : (c.setIfInBounds (o+1) (.int .i64 l'))[o+2]? = some (.int .i64 t) := by rw [Array.getElem?_setIfInBounds_ne (by omega)]; exact h2
  have z3 : (c.setIfInBounds (o+1) (.int .i64 l'))[o+3]? = some (.int .i64 u) := by rw [Array.getElem?_setIfInBounds_ne (by omega)]; exact h3
  refine (swap_yes b o _ v n t u ht hu T w2 b2 z1 z2 z3).mono ?_
  rintro e w3 ⟨rfl, k3, b3⟩
  go_wp2
  go_ret2
  exact ⟨rfl, w1, w2, k1, r2, k3, b3⟩

set_option maxHeartbeats 400000 in
theorem turn_no (F : FuncId) (caps : Array Value) (hF : Callable Try.prog F) (b o : Nat) (c : Array Value) (v l n : Int) {l' : Int} (hl : wrap64 (l + 1) = l') (T : TypeId) (w : World)
    (hb : Blk w b c T) (h0 : c[o]? = some (.int .i64 v)) (h1 : c[o+1]? = some (.int .i64 l)) (R : World → World → Prop)
    (hcall : ∀ w1, Only b w w1 → Blk w1 b (c.setIfInBounds (o+1) (.int .i64 l')) T → Calls Try.prog F (#[.int .i64 v] ++ caps) w1 fun e w2 => e = .returned (.tuple #[.int .i64 n, .bool false]) ∧
      Blk w2 b (c.setIfInBounds (o+1) (.int .i64 l')) T ∧ R w1 w2) :
    Calls Try.prog 82 #[.pointer (some ⟨b, o, none⟩), .func (.func F) #[] caps] w fun e w' => e = .returned (.tuple #[.int .i64 v, .bool false]) ∧
      ∃ w1, Only b w w1 ∧ R w1 w' ∧ Blk w' b (c.setIfInBounds (o+1) (.int .i64 l')) T := by
  have hcf := fun args wx => run_callFunc (P := Try.prog) hF args wx
  go_enter Try.func82, Try.ntmps82
  go_wp2_with fail
  refine (load_any b o c v l hl T w hb h0 h1).mono ?_
  rintro e w1 ⟨rfl, k1, b1⟩
  go_wp2_with fail
  refine (hcall w1 k1 b1).mono ?_
  rintro e w2 ⟨rfl, b2, r2⟩
  go_wp2
  go_ret2
  exact ⟨rfl, w1, k1, r2, b2⟩
end Go.Proofs.Ytbikganlloopbaa
