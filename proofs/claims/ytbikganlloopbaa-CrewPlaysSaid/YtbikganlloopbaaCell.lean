/-
  What stands here: what the methods of a cell of ints do with its block. Under no condition but that the block holds a cell there.
-/
import Derived.Test.YtbikganlloopbaaLib
namespace Go.Proofs.Ytbikganlloopbaa
set_option linter.unusedVariables false
set_option linter.unusedSimpArgs false
open Go.RowKit Go.Proofs

theorem swap_yes (b o : Nat) (c : Array Value) (v n t u : Int) {t' u' : Int} (ht : wrap64 (t + 1) = t') (hu : wrap64 (u + 1) = u') (T : TypeId) (w : World) (hb : Blk w b c T) (h0 : c[o]? = some (.int .i64 v)) (h2 : c[o+2]? = some (.int .i64 t)) (h3 : c[o+3]? = some (.int .i64 u)) :
    Calls Try.prog 86 #[.pointer (some ⟨b, o, none⟩), .int .i64 v, .int .i64 n] w fun e w' => e = .returned (.bool true) ∧ Only b w w' ∧
      Blk w' b (((c.setIfInBounds (o+2) (.int .i64 t')).setIfInBounds o (.int .i64 n)).setIfInBounds (o+3) (.int .i64 u')) T := by
  have c0 := (hb.cell o).trans h0
  have c2 := (hb.cell (o+2)).trans h2
  have c3 := (hb.cell (o+3)).trans h3
  have f0 := hb.free o
  have f2 := hb.free (o+2)
  have f3 := hb.free (o+3)
  subst ht hu
  go_enter Try.func86, Try.ntmps86
  go_wp2
  go_ret
  exact ⟨rfl, (((only_refl b w).put _ _).put _ _).put _ _, ((hb.set _ _).set _ _).set _ _⟩

theorem swap_no (b o : Nat) (c : Array Value) (v x n t : Int) {t' : Int} (ht : wrap64 (t + 1) = t') (T : TypeId) (w : World) (hne : (v == x) = false) (hb : Blk w b c T) (h0 : c[o]? = some (.int .i64 v)) (h2 : c[o+2]? = some (.int .i64 t)) :
    Calls Try.prog 86 #[.pointer (some ⟨b, o, none⟩), .int .i64 x, .int .i64 n] w fun e w' => e = .returned (.bool false) ∧ Only b w w' ∧
      Blk w' b (c.setIfInBounds (o+2) (.int .i64 t')) T := by
  have c0 := (hb.cell o).trans h0
  have c2 := (hb.cell (o+2)).trans h2
  have f2 := hb.free (o+2)
  subst ht
  go_enter Try.func86, Try.ntmps86
  go_wp2
  go_ret
  exact ⟨rfl, (only_refl b w).put _ _, hb.set _ _⟩

theorem load_any (b o : Nat) (c : Array Value) (v l : Int) {l' : Int} (hl : wrap64 (l + 1) = l') (T : TypeId) (w : World) (hb : Blk w b c T) (h0 : c[o]? = some (.int .i64 v)) (h1 : c[o+1]? = some (.int .i64 l)) :
    Calls Try.prog 47 #[.pointer (some ⟨b, o, none⟩)] w fun e w' => e = .returned (.int .i64 v) ∧ Only b w w' ∧
      Blk w' b (c.setIfInBounds (o+1) (.int .i64 l')) T := by
  have c0 := (hb.cell o).trans h0
  have c1 := (hb.cell (o+1)).trans h1
  have f1 := hb.free (o+1)
  subst hl
  go_enter Try.func47, Try.ntmps47
  go_wp2
  go_ret
  exact ⟨rfl, (only_refl b w).put _ _, hb.set _ _⟩

theorem store_any (b o : Nat) (c : Array Value) (v n : Int) (T : TypeId) (w : World) (hb : Blk w b c T) (h0 : c[o]? = some (.int .i64 v)) :
    Calls Try.prog 71 #[.pointer (some ⟨b, o, none⟩), .int .i64 n] w fun e w' => e = .returned (.tuple #[]) ∧ Only b w w' ∧
      Blk w' b (c.setIfInBounds o (.int .i64 n)) T := by
  have c0 := (hb.cell o).trans h0
  have f0 := hb.free o
  go_enter Try.func71, Try.ntmps71
  go_wp2
  go_end0
  exact ⟨rfl, (only_refl b w).put _ _, hb.set _ _⟩

end Go.Proofs.Ytbikganlloopbaa
