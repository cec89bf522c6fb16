/-
  No cell of these rows narrows 'for every input' (looked for: loops, veiled, ifaces, maps, wideKeys, modest, calm, conditions, laid).
  DERIVED. THE GIVEN ROWS OF THIS SEAT. 4 by the template 'for every input the law returns true; each argument reads behind the call as it read before'; 0 by the template 'total and deterministic' (their statements: YtpkjhpfmikamkaaTotals.lean).
  GIVEN WITH THE SEED: the statements are not yours to turn. If you find one false, say at which input.
  Laid BY PROGRAM, IN A SANDBOX (cutbox-rows.mjs): the forced cells as the released guide's own fill.sh prints them over the translation dd88c7bae5c295ca… (all of the seat's roots in one cut). By AI agents, Wed Nov 11 2026. No macro, syntax, notation, axiom, sorry.
-/
import Derived.Test.YtpkjhpfmikamkaaChecked
import GoSem.Claim
import GoSem.ClaimJoined
import GoSem.ClaimMapViews
import Derived.JoinedTies
import Derived.KernelRfl
namespace Go.Proofs.Ytpkjhpfmikamkaa
/- THE CELL 'sum', in the pinned program and in every row, IS THE sha256 OF THE DUMP (.gsa) THAT YtpkjhpfmikamkaaProg.lean LOADS. Nothing in Lean hashes anything: it is a label: what it is worth is what the hold of that sum in a sandbox is worth. -/
noncomputable def Try.pinned : Pinned := { name := "ytpkjhpfmikamkaa", sum := "dd88c7bae5c295cad31058794eddadd08a4c24f1933abe5eec3957bbe80e6fdf", checked := Try.checked }
namespace Rows
def none {H : Type} : Left H := { results := [], args := [] }

/-- 'vergelaw07.LevelActs': WHATEVER THE INPUT: true; the input reads as it did. -/
def levelActsSpec : ChangeSpec := { name := "levelActs", fn := fun _ => fun
  | [d] => { results := [.lit (.bool true)], args := [d] }
  | _ => none }
def levelActsRow : OpenClaim := { program := "ytpkjhpfmikamkaa", sum := "dd88c7bae5c295cad31058794eddadd08a4c24f1933abe5eec3957bbe80e6fdf", func := "verge/vergelaw07.LevelActs", spec := "levelActs", unfollowed := true, recurses := true, apart := false }
def LevelActsSaid : Prop := levelActsRow.holds Try.pinned (OpenSpec.ofChange levelActsSpec)

/-- ITS FALSE NEIGHBOUR: 'it returns false'. Refute it at one input. -/
def levelActsWrong : ChangeSpec := { name := "levelActs", fn := fun _ => fun
  | [d] => { results := [.lit (.bool false)], args := [d] }
  | _ => none }
def LevelActsWrongFalsely : Prop := levelActsRow.holds Try.pinned (OpenSpec.ofChange levelActsWrong)

/-- 'vergelaw07.LevelTaken': WHATEVER THE INPUT: true; the input reads as it did. -/
def levelTakenSpec : ChangeSpec := { name := "levelTaken", fn := fun _ => fun
  | [d1, d2, d3] => { results := [.lit (.bool true)], args := [d1, d2, d3] }
  | _ => none }
def levelTakenRow : OpenClaim := { program := "ytpkjhpfmikamkaa", sum := "dd88c7bae5c295cad31058794eddadd08a4c24f1933abe5eec3957bbe80e6fdf", func := "verge/vergelaw07.LevelTaken", spec := "levelTaken", unfollowed := true, recurses := true, apart := false }
def LevelTakenSaid : Prop := levelTakenRow.holds Try.pinned (OpenSpec.ofChange levelTakenSpec)

/-- ITS FALSE NEIGHBOUR: 'it returns false'. Refute it at one input. -/
def levelTakenWrong : ChangeSpec := { name := "levelTaken", fn := fun _ => fun
  | [d1, d2, d3] => { results := [.lit (.bool false)], args := [d1, d2, d3] }
  | _ => none }
def LevelTakenWrongFalsely : Prop := levelTakenRow.holds Try.pinned (OpenSpec.ofChange levelTakenWrong)

/-- 'vergelaw07.LevelNone': WHATEVER THE INPUT: true; the input reads as it did. -/
def levelNoneSpec : ChangeSpec := { name := "levelNone", fn := fun _ => fun
  | [d] => { results := [.lit (.bool true)], args := [d] }
  | _ => none }
def levelNoneRow : OpenClaim := { program := "ytpkjhpfmikamkaa", sum := "dd88c7bae5c295cad31058794eddadd08a4c24f1933abe5eec3957bbe80e6fdf", func := "verge/vergelaw07.LevelNone", spec := "levelNone", unfollowed := true, recurses := true, apart := false }
def LevelNoneSaid : Prop := levelNoneRow.holds Try.pinned (OpenSpec.ofChange levelNoneSpec)

/-- ITS FALSE NEIGHBOUR: 'it returns false'. Refute it at one input. -/
def levelNoneWrong : ChangeSpec := { name := "levelNone", fn := fun _ => fun
  | [d] => { results := [.lit (.bool false)], args := [d] }
  | _ => none }
def LevelNoneWrongFalsely : Prop := levelNoneRow.holds Try.pinned (OpenSpec.ofChange levelNoneWrong)

/-- 'vergelaw07.LevelMap': WHATEVER THE INPUT: true; the input reads as it did. -/
def levelMapSpec : ChangeSpec := { name := "levelMap", fn := fun _ => fun
  | [d] => { results := [.lit (.bool true)], args := [d] }
  | _ => none }
def levelMapRow : OpenClaim := { program := "ytpkjhpfmikamkaa", sum := "dd88c7bae5c295cad31058794eddadd08a4c24f1933abe5eec3957bbe80e6fdf", func := "verge/vergelaw07.LevelMap", spec := "levelMap", unfollowed := true, recurses := true, apart := false }
def LevelMapSaid : Prop := levelMapRow.holds Try.pinned (OpenSpec.ofChange levelMapSpec)

/-- ITS FALSE NEIGHBOUR: 'it returns false'. Refute it at one input. -/
def levelMapWrong : ChangeSpec := { name := "levelMap", fn := fun _ => fun
  | [d] => { results := [.lit (.bool false)], args := [d] }
  | _ => none }
def LevelMapWrongFalsely : Prop := levelMapRow.holds Try.pinned (OpenSpec.ofChange levelMapWrong)

/- THE SECOND FORM. 'bulk': how many values and letters a reading holds, each counted each time it is reached (what is shared counts as often as it is met; a slice's spare places count too). A statement '..UptoSaid' is the law's where the arguments, and the package variables that the reading takes, are together of bulk at most 1048576: NARROWER than '..Said'. Prove '..Said' where nothing that the law and all that it calls make is longer than what came in: it says more and counts as full. Else prove '..UptoSaid'. A law counts once. -/
mutual
def uptoBulk {H : Type} : DataW H → Nat
  | .lit (.string bytes) => bytes.length + 1
  | .lit _ => 1
  | .nil => 1
  | .ptr d => uptoBulk d + 1
  | .slice elems spare => uptoBulkAll elems + uptoBulkAll spare + 1
  | .agg parts => uptoBulkAll parts + 1
  | .iface _ d => uptoBulk d + 1
  | .map entries => uptoBulkEntries entries + 1
  | .held _ => 1
def uptoBulkAll {H : Type} : List (DataW H) → Nat
  | [] => 0
  | d :: r => uptoBulk d + uptoBulkAll r
def uptoBulkEntries {H : Type} : List (Lit × DataW H) → Nat
  | [] => 0
  | x :: r => uptoBulkEntry x + uptoBulkEntries r
def uptoBulkEntry {H : Type} : Lit × DataW H → Nat
  | (.string bytes, d) => bytes.length + uptoBulk d + 1
  | (_, d) => uptoBulk d + 1
 end
def uptoSmall : (H : Type) → List (DataW H) → Bool := fun _ ds => decide (uptoBulkAll ds ≤ 1048576)
def OpenSpec.upto (s : _root_.Go.ChangeSpec) : _root_.Go.OpenSpec := { _root_.Go.OpenSpec.ofChange s with cond := some uptoSmall }

/-- 'vergelaw07.LevelActs', WHERE WHAT IT READS IS OF BULK AT MOST 1048576: true; the input reads as it did. -/
def levelActsUptoRow : OpenClaim := { program := "ytpkjhpfmikamkaa", sum := "dd88c7bae5c295cad31058794eddadd08a4c24f1933abe5eec3957bbe80e6fdf", func := "verge/vergelaw07.LevelActs", spec := "levelActs", unfollowed := true, recurses := true, apart := false, narrowed := true }
def LevelActsUptoSaid : Prop := levelActsUptoRow.holds Try.pinned (OpenSpec.upto levelActsSpec)

/-- 'vergelaw07.LevelTaken', WHERE WHAT IT READS IS OF BULK AT MOST 1048576: true; the input reads as it did. -/
def levelTakenUptoRow : OpenClaim := { program := "ytpkjhpfmikamkaa", sum := "dd88c7bae5c295cad31058794eddadd08a4c24f1933abe5eec3957bbe80e6fdf", func := "verge/vergelaw07.LevelTaken", spec := "levelTaken", unfollowed := true, recurses := true, apart := false, narrowed := true }
def LevelTakenUptoSaid : Prop := levelTakenUptoRow.holds Try.pinned (OpenSpec.upto levelTakenSpec)

/-- 'vergelaw07.LevelNone', WHERE WHAT IT READS IS OF BULK AT MOST 1048576: true; the input reads as it did. -/
def levelNoneUptoRow : OpenClaim := { program := "ytpkjhpfmikamkaa", sum := "dd88c7bae5c295cad31058794eddadd08a4c24f1933abe5eec3957bbe80e6fdf", func := "verge/vergelaw07.LevelNone", spec := "levelNone", unfollowed := true, recurses := true, apart := false, narrowed := true }
def LevelNoneUptoSaid : Prop := levelNoneUptoRow.holds Try.pinned (OpenSpec.upto levelNoneSpec)

/-- 'vergelaw07.LevelMap', WHERE WHAT IT READS IS OF BULK AT MOST 1048576: true; the input reads as it did. -/
def levelMapUptoRow : OpenClaim := { program := "ytpkjhpfmikamkaa", sum := "dd88c7bae5c295cad31058794eddadd08a4c24f1933abe5eec3957bbe80e6fdf", func := "verge/vergelaw07.LevelMap", spec := "levelMap", unfollowed := true, recurses := true, apart := false, narrowed := true }
def LevelMapUptoSaid : Prop := levelMapUptoRow.holds Try.pinned (OpenSpec.upto levelMapSpec)

end Rows
end Go.Proofs.Ytpkjhpfmikamkaa
