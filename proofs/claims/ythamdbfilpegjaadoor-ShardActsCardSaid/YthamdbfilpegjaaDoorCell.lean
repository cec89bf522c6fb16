/-
  What stands here: what the methods of a cell of ints do with its block. Under no condition but that the block holds a cell there.
-/
import Derived.Test.YthamdbfilpegjaaDoorLib
namespace Go.Proofs.YthamdbfilpegjaaDoor
set_option linter.unusedVariables false
set_option linter.unusedSimpArgs false
open Go.RowKit Go.Proofs

theorem load_any (b o : Nat) (c : Array Value) (v l : Int) {l' : Int} (hl : wrap64 (l + 1) = l') (T : TypeId) (w : World) (hb : Blk w b c T) (h0 : c[o]? = some (.int .i64 v)) (h1 : c[o+1]? = some (.int .i64 l)) :
    Calls Tryd.prog 58 #[.pointer (some ⟨b, o, none⟩)] w fun e w' => e = .returned (.int .i64 v) ∧ Only b w w' ∧
      Blk w' b (c.setIfInBounds (o+1) (.int .i64 l')) T := by
  have c0 := (hb.cell o).trans h0
  have c1 := (hb.cell (o+1)).trans h1
  have f1 := hb.free (o+1)
  subst hl
  go_enter Tryd.func58, Tryd.ntmps58
  go_wp2
  go_ret
  exact ⟨rfl, (only_refl b w).put _ _, hb.set _ _⟩

theorem store_any (b o : Nat) (c : Array Value) (v n : Int) (T : TypeId) (w : World) (hb : Blk w b c T) (h0 : c[o]? = some (.int .i64 v)) :
    Calls Tryd.prog 40 #[.pointer (some ⟨b, o, none⟩), .int .i64 n] w fun e w' => e = .returned (.tuple #[]) ∧ Only b w w' ∧
      Blk w' b (c.setIfInBounds o (.int .i64 n)) T := by
  have c0 := (hb.cell o).trans h0
  have f0 := hb.free o
  go_enter Tryd.func40, Tryd.ntmps40
  go_wp2
  go_end0
  exact ⟨rfl, (only_refl b w).put _ _, hb.set _ _⟩

end Go.Proofs.YthamdbfilpegjaaDoor
