/-
  No cell of these rows narrows 'for every input' (looked for: loops, veiled, ifaces, maps, wideKeys, modest, calm, conditions, laid).
  DERIVED. THE GIVEN ROWS OF THIS SEAT. 8 by the template 'for every input the law returns true; each argument reads behind the call as it read before'; 0 by the template 'total and deterministic' (their statements: YtojjelafkieflaaTotals.lean).
  GIVEN WITH THE SEED: the statements are not yours to turn. If you find one false, say at which input.
  Laid BY PROGRAM, IN A SANDBOX (cutbox-rows.mjs): the forced cells as the released guide's own fill.sh prints them over the translation 5a50790f0aee3071… (all of the seat's roots in one cut). By AI agents, Wed Nov 11 2026. No macro, syntax, notation, axiom, sorry.
-/
import Derived.Test.YtojjelafkieflaaChecked
import GoSem.Claim
import GoSem.ClaimJoined
import GoSem.ClaimMapViews
import Derived.JoinedTies
import Derived.KernelRfl
namespace Go.Proofs.Ytojjelafkieflaa
/- THE CELL 'sum', in the pinned program and in every row, IS THE sha256 OF THE DUMP (.gsa) THAT YtojjelafkieflaaProg.lean LOADS. Nothing in Lean hashes anything: it is a label: what it is worth is what the hold of that sum in a sandbox is worth. -/
noncomputable def Try.pinned : Pinned := { name := "ytojjelafkieflaa", sum := "5a50790f0aee3071ee3523ab6c4638a10d61329e4618a385b29ef1682823966c", checked := Try.checked }
namespace Rows
def none {H : Type} : Left H := { results := [], args := [] }

/-- 'vergelaw03.CellOnce': WHATEVER THE INPUT: true; the input reads as it did. -/
def cellOnceSpec : ChangeSpec := { name := "cellOnce", fn := fun _ => fun
  | [d1, d2, d3] => { results := [.lit (.bool true)], args := [d1, d2, d3] }
  | _ => none }
def cellOnceRow : OpenClaim := { program := "ytojjelafkieflaa", sum := "5a50790f0aee3071ee3523ab6c4638a10d61329e4618a385b29ef1682823966c", func := "verge/vergelaw03.CellOnce", spec := "cellOnce", apart := false }
def CellOnceSaid : Prop := cellOnceRow.holds Try.pinned (OpenSpec.ofChange cellOnceSpec)

/-- ITS FALSE NEIGHBOUR: 'it returns false'. Refute it at one input. -/
def cellOnceWrong : ChangeSpec := { name := "cellOnce", fn := fun _ => fun
  | [d1, d2, d3] => { results := [.lit (.bool false)], args := [d1, d2, d3] }
  | _ => none }
def CellOnceWrongFalsely : Prop := cellOnceRow.holds Try.pinned (OpenSpec.ofChange cellOnceWrong)

/-- 'vergelaw15.ProgWaits': WHATEVER THE INPUT: true; the input reads as it did. -/
def progWaitsSpec : ChangeSpec := { name := "progWaits", fn := fun _ => fun
  | [d1, d2] => { results := [.lit (.bool true)], args := [d1, d2] }
  | _ => none }
def progWaitsRow : OpenClaim := { program := "ytojjelafkieflaa", sum := "5a50790f0aee3071ee3523ab6c4638a10d61329e4618a385b29ef1682823966c", func := "verge/vergelaw15.ProgWaits", spec := "progWaits", unfollowed := true, recurses := true, apart := false }
def ProgWaitsSaid : Prop := progWaitsRow.holds Try.pinned (OpenSpec.ofChange progWaitsSpec)

/-- ITS FALSE NEIGHBOUR: 'it returns false'. Refute it at one input. -/
def progWaitsWrong : ChangeSpec := { name := "progWaits", fn := fun _ => fun
  | [d1, d2] => { results := [.lit (.bool false)], args := [d1, d2] }
  | _ => none }
def ProgWaitsWrongFalsely : Prop := progWaitsRow.holds Try.pinned (OpenSpec.ofChange progWaitsWrong)

/-- 'vergelaw15.ProgNone': WHATEVER THE INPUT: true; the input reads as it did. -/
def progNoneSpec : ChangeSpec := { name := "progNone", fn := fun _ => fun
  | [d] => { results := [.lit (.bool true)], args := [d] }
  | _ => none }
def progNoneRow : OpenClaim := { program := "ytojjelafkieflaa", sum := "5a50790f0aee3071ee3523ab6c4638a10d61329e4618a385b29ef1682823966c", func := "verge/vergelaw15.ProgNone", spec := "progNone", unfollowed := true, recurses := true, apart := false }
def ProgNoneSaid : Prop := progNoneRow.holds Try.pinned (OpenSpec.ofChange progNoneSpec)

/-- ITS FALSE NEIGHBOUR: 'it returns false'. Refute it at one input. -/
def progNoneWrong : ChangeSpec := { name := "progNone", fn := fun _ => fun
  | [d] => { results := [.lit (.bool false)], args := [d] }
  | _ => none }
def ProgNoneWrongFalsely : Prop := progNoneRow.holds Try.pinned (OpenSpec.ofChange progNoneWrong)

/-- 'vergelaw03.CellTurns': WHATEVER THE INPUT: true; the input reads as it did. -/
def cellTurnsSpec : ChangeSpec := { name := "cellTurns", fn := fun _ => fun
  | [d1, d2, d3] => { results := [.lit (.bool true)], args := [d1, d2, d3] }
  | _ => none }
def cellTurnsRow : OpenClaim := { program := "ytojjelafkieflaa", sum := "5a50790f0aee3071ee3523ab6c4638a10d61329e4618a385b29ef1682823966c", func := "verge/vergelaw03.CellTurns", spec := "cellTurns", unfollowed := true, recurses := true, apart := false }
def CellTurnsSaid : Prop := cellTurnsRow.holds Try.pinned (OpenSpec.ofChange cellTurnsSpec)

/-- ITS FALSE NEIGHBOUR: 'it returns false'. Refute it at one input. -/
def cellTurnsWrong : ChangeSpec := { name := "cellTurns", fn := fun _ => fun
  | [d1, d2, d3] => { results := [.lit (.bool false)], args := [d1, d2, d3] }
  | _ => none }
def CellTurnsWrongFalsely : Prop := cellTurnsRow.holds Try.pinned (OpenSpec.ofChange cellTurnsWrong)

/-- 'vergelaw15.ProgRows': WHATEVER THE INPUT: true; the input reads as it did. -/
def progRowsSpec : ChangeSpec := { name := "progRows", fn := fun _ => fun
  | [d] => { results := [.lit (.bool true)], args := [d] }
  | _ => none }
def progRowsRow : OpenClaim := { program := "ytojjelafkieflaa", sum := "5a50790f0aee3071ee3523ab6c4638a10d61329e4618a385b29ef1682823966c", func := "verge/vergelaw15.ProgRows", spec := "progRows", unfollowed := true, recurses := true, apart := false }
def ProgRowsSaid : Prop := progRowsRow.holds Try.pinned (OpenSpec.ofChange progRowsSpec)

/-- ITS FALSE NEIGHBOUR: 'it returns false'. Refute it at one input. -/
def progRowsWrong : ChangeSpec := { name := "progRows", fn := fun _ => fun
  | [d] => { results := [.lit (.bool false)], args := [d] }
  | _ => none }
def ProgRowsWrongFalsely : Prop := progRowsRow.holds Try.pinned (OpenSpec.ofChange progRowsWrong)

/-- 'vergelaw15.ProgLate': WHATEVER THE INPUT: true; the input reads as it did. -/
def progLateSpec : ChangeSpec := { name := "progLate", fn := fun _ => fun
  | [d] => { results := [.lit (.bool true)], args := [d] }
  | _ => none }
def progLateRow : OpenClaim := { program := "ytojjelafkieflaa", sum := "5a50790f0aee3071ee3523ab6c4638a10d61329e4618a385b29ef1682823966c", func := "verge/vergelaw15.ProgLate", spec := "progLate", unfollowed := true, recurses := true, apart := false }
def ProgLateSaid : Prop := progLateRow.holds Try.pinned (OpenSpec.ofChange progLateSpec)

/-- ITS FALSE NEIGHBOUR: 'it returns false'. Refute it at one input. -/
def progLateWrong : ChangeSpec := { name := "progLate", fn := fun _ => fun
  | [d] => { results := [.lit (.bool false)], args := [d] }
  | _ => none }
def ProgLateWrongFalsely : Prop := progLateRow.holds Try.pinned (OpenSpec.ofChange progLateWrong)

/-- 'vergelaw03.CellActs': WHATEVER THE INPUT: true; the input reads as it did. -/
def cellActsSpec : ChangeSpec := { name := "cellActs", fn := fun _ => fun
  | [d1, d2] => { results := [.lit (.bool true)], args := [d1, d2] }
  | _ => none }
def cellActsRow : OpenClaim := { program := "ytojjelafkieflaa", sum := "5a50790f0aee3071ee3523ab6c4638a10d61329e4618a385b29ef1682823966c", func := "verge/vergelaw03.CellActs", spec := "cellActs", unfollowed := true, recurses := true, apart := false }
def CellActsSaid : Prop := cellActsRow.holds Try.pinned (OpenSpec.ofChange cellActsSpec)

/-- ITS FALSE NEIGHBOUR: 'it returns false'. Refute it at one input. -/
def cellActsWrong : ChangeSpec := { name := "cellActs", fn := fun _ => fun
  | [d1, d2] => { results := [.lit (.bool false)], args := [d1, d2] }
  | _ => none }
def CellActsWrongFalsely : Prop := cellActsRow.holds Try.pinned (OpenSpec.ofChange cellActsWrong)

/-- 'vergelaw03.CellKinds': WHATEVER THE INPUT: true; the input reads as it did. -/
def cellKindsSpec : ChangeSpec := { name := "cellKinds", fn := fun _ => fun
  | [d1, d2, d3] => { results := [.lit (.bool true)], args := [d1, d2, d3] }
  | _ => none }
def cellKindsRow : OpenClaim := { program := "ytojjelafkieflaa", sum := "5a50790f0aee3071ee3523ab6c4638a10d61329e4618a385b29ef1682823966c", func := "verge/vergelaw03.CellKinds", spec := "cellKinds", unfollowed := true, recurses := true, apart := false }
def CellKindsSaid : Prop := cellKindsRow.holds Try.pinned (OpenSpec.ofChange cellKindsSpec)

/-- ITS FALSE NEIGHBOUR: 'it returns false'. Refute it at one input. -/
def cellKindsWrong : ChangeSpec := { name := "cellKinds", fn := fun _ => fun
  | [d1, d2, d3] => { results := [.lit (.bool false)], args := [d1, d2, d3] }
  | _ => none }
def CellKindsWrongFalsely : Prop := cellKindsRow.holds Try.pinned (OpenSpec.ofChange cellKindsWrong)

/- THE SECOND FORM. 'bulk': how many values and letters a reading holds, each counted each time it is reached (what is shared counts as often as it is met; a slice's spare places count too). A statement '..UptoSaid' is the law's where the arguments, and the package variables that the reading takes, are together of bulk at most 1048576: NARROWER than '..Said'. Prove '..Said' where nothing that the law and all that it calls make is longer than what came in: it says more and counts as full. Else prove '..UptoSaid'. A law counts once. -/
mutual
def uptoBulk {H : Type} : DataW H → Nat
  | .lit (.string bytes) => bytes.length + 1
  | .lit _ => 1
  | .nil => 1
  | .ptr d => uptoBulk d + 1
  | .slice elems spare => uptoBulkAll elems + uptoBulkAll spare + 1
  | .agg parts => uptoBulkAll parts + 1
  | .iface _ d => uptoBulk d + 1
  | .map entries => uptoBulkEntries entries + 1
  | .held _ => 1
def uptoBulkAll {H : Type} : List (DataW H) → Nat
  | [] => 0
  | d :: r => uptoBulk d + uptoBulkAll r
def uptoBulkEntries {H : Type} : List (Lit × DataW H) → Nat
  | [] => 0
  | x :: r => uptoBulkEntry x + uptoBulkEntries r
def uptoBulkEntry {H : Type} : Lit × DataW H → Nat
  | (.string bytes, d) => bytes.length + uptoBulk d + 1
  | (_, d) => uptoBulk d + 1
 end
def uptoSmall : (H : Type) → List (DataW H) → Bool := fun _ ds => decide (uptoBulkAll ds ≤ 1048576)
def OpenSpec.upto (s : _root_.Go.ChangeSpec) : _root_.Go.OpenSpec := { _root_.Go.OpenSpec.ofChange s with cond := some uptoSmall }

/-- 'vergelaw03.CellOnce', WHERE WHAT IT READS IS OF BULK AT MOST 1048576: true; the input reads as it did. -/
def cellOnceUptoRow : OpenClaim := { program := "ytojjelafkieflaa", sum := "5a50790f0aee3071ee3523ab6c4638a10d61329e4618a385b29ef1682823966c", func := "verge/vergelaw03.CellOnce", spec := "cellOnce", apart := false, narrowed := true }
def CellOnceUptoSaid : Prop := cellOnceUptoRow.holds Try.pinned (OpenSpec.upto cellOnceSpec)

/-- 'vergelaw15.ProgWaits', WHERE WHAT IT READS IS OF BULK AT MOST 1048576: true; the input reads as it did. -/
def progWaitsUptoRow : OpenClaim := { program := "ytojjelafkieflaa", sum := "5a50790f0aee3071ee3523ab6c4638a10d61329e4618a385b29ef1682823966c", func := "verge/vergelaw15.ProgWaits", spec := "progWaits", unfollowed := true, recurses := true, apart := false, narrowed := true }
def ProgWaitsUptoSaid : Prop := progWaitsUptoRow.holds Try.pinned (OpenSpec.upto progWaitsSpec)

/-- 'vergelaw15.ProgNone', WHERE WHAT IT READS IS OF BULK AT MOST 1048576: true; the input reads as it did. -/
def progNoneUptoRow : OpenClaim := { program := "ytojjelafkieflaa", sum := "5a50790f0aee3071ee3523ab6c4638a10d61329e4618a385b29ef1682823966c", func := "verge/vergelaw15.ProgNone", spec := "progNone", unfollowed := true, recurses := true, apart := false, narrowed := true }
def ProgNoneUptoSaid : Prop := progNoneUptoRow.holds Try.pinned (OpenSpec.upto progNoneSpec)

/-- 'vergelaw03.CellTurns', WHERE WHAT IT READS IS OF BULK AT MOST 1048576: true; the input reads as it did. -/
def cellTurnsUptoRow : OpenClaim := { program := "ytojjelafkieflaa", sum := "5a50790f0aee3071ee3523ab6c4638a10d61329e4618a385b29ef1682823966c", func := "verge/vergelaw03.CellTurns", spec := "cellTurns", unfollowed := true, recurses := true, apart := false, narrowed := true }
def CellTurnsUptoSaid : Prop := cellTurnsUptoRow.holds Try.pinned (OpenSpec.upto cellTurnsSpec)

/-- 'vergelaw15.ProgRows', WHERE WHAT IT READS IS OF BULK AT MOST 1048576: true; the input reads as it did. -/
def progRowsUptoRow : OpenClaim := { program := "ytojjelafkieflaa", sum := "5a50790f0aee3071ee3523ab6c4638a10d61329e4618a385b29ef1682823966c", func := "verge/vergelaw15.ProgRows", spec := "progRows", unfollowed := true, recurses := true, apart := false, narrowed := true }
def ProgRowsUptoSaid : Prop := progRowsUptoRow.holds Try.pinned (OpenSpec.upto progRowsSpec)

/-- 'vergelaw15.ProgLate', WHERE WHAT IT READS IS OF BULK AT MOST 1048576: true; the input reads as it did. -/
def progLateUptoRow : OpenClaim := { program := "ytojjelafkieflaa", sum := "5a50790f0aee3071ee3523ab6c4638a10d61329e4618a385b29ef1682823966c", func := "verge/vergelaw15.ProgLate", spec := "progLate", unfollowed := true, recurses := true, apart := false, narrowed := true }
def ProgLateUptoSaid : Prop := progLateUptoRow.holds Try.pinned (OpenSpec.upto progLateSpec)

/-- 'vergelaw03.CellActs', WHERE WHAT IT READS IS OF BULK AT MOST 1048576: true; the input reads as it did. -/
def cellActsUptoRow : OpenClaim := { program := "ytojjelafkieflaa", sum := "5a50790f0aee3071ee3523ab6c4638a10d61329e4618a385b29ef1682823966c", func := "verge/vergelaw03.CellActs", spec := "cellActs", unfollowed := true, recurses := true, apart := false, narrowed := true }
def CellActsUptoSaid : Prop := cellActsUptoRow.holds Try.pinned (OpenSpec.upto cellActsSpec)

/-- 'vergelaw03.CellKinds', WHERE WHAT IT READS IS OF BULK AT MOST 1048576: true; the input reads as it did. -/
def cellKindsUptoRow : OpenClaim := { program := "ytojjelafkieflaa", sum := "5a50790f0aee3071ee3523ab6c4638a10d61329e4618a385b29ef1682823966c", func := "verge/vergelaw03.CellKinds", spec := "cellKinds", unfollowed := true, recurses := true, apart := false, narrowed := true }
def CellKindsUptoSaid : Prop := cellKindsUptoRow.holds Try.pinned (OpenSpec.upto cellKindsSpec)

end Rows
end Go.Proofs.Ytojjelafkieflaa
