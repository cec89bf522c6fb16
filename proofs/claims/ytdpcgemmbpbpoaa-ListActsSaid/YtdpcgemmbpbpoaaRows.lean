/-
  No cell of these rows narrows 'for every input' (looked for: loops, veiled, ifaces, maps, wideKeys, modest, calm, conditions, laid).
  DERIVED. THE GIVEN ROWS OF THIS SEAT. 5 by the template 'for every input the law returns true; each argument reads behind the call as it read before'; 0 by the template 'total and deterministic' (their statements: YtdpcgemmbpbpoaaTotals.lean).
  GIVEN WITH THE SEED: the statements are not yours to turn. If you find one false, say at which input.
  Laid BY PROGRAM, IN A SANDBOX (cutbox-rows.mjs): the forced cells as the released guide's own fill.sh prints them over the translation 4253e8c441ac094f… (all of the seat's roots in one cut). By AI agents, Wed Nov 11 2026. No macro, syntax, notation, axiom, sorry.
-/
import Derived.Test.YtdpcgemmbpbpoaaChecked
import GoSem.Claim
import GoSem.ClaimJoined
import GoSem.ClaimMapViews
import Derived.JoinedTies
import Derived.KernelRfl
namespace Go.Proofs.Ytdpcgemmbpbpoaa
/- THE CELL 'sum', in the pinned program and in every row, IS THE sha256 OF THE DUMP (.gsa) THAT YtdpcgemmbpbpoaaProg.lean LOADS. Nothing in Lean hashes anything: it is a label: what it is worth is what the hold of that sum in a sandbox is worth. -/
noncomputable def Try.pinned : Pinned := { name := "ytdpcgemmbpbpoaa", sum := "4253e8c441ac094fbaf142b42055d0d6275ec573d40b9c5acc265396e869178a", checked := Try.checked }
namespace Rows
def none {H : Type} : Left H := { results := [], args := [] }

/-- 'vergelaw05.ListSplices': WHATEVER THE INPUT: true; the input reads as it did. -/
def listSplicesSpec : ChangeSpec := { name := "listSplices", fn := fun _ => fun
  | [d1, d2] => { results := [.lit (.bool true)], args := [d1, d2] }
  | _ => none }
def listSplicesRow : OpenClaim := { program := "ytdpcgemmbpbpoaa", sum := "4253e8c441ac094fbaf142b42055d0d6275ec573d40b9c5acc265396e869178a", func := "verge/vergelaw05.ListSplices", spec := "listSplices", unfollowed := true, recurses := true, apart := false }
def ListSplicesSaid : Prop := listSplicesRow.holds Try.pinned (OpenSpec.ofChange listSplicesSpec)

/-- ITS FALSE NEIGHBOUR: 'it returns false'. Refute it at one input. -/
def listSplicesWrong : ChangeSpec := { name := "listSplices", fn := fun _ => fun
  | [d1, d2] => { results := [.lit (.bool false)], args := [d1, d2] }
  | _ => none }
def ListSplicesWrongFalsely : Prop := listSplicesRow.holds Try.pinned (OpenSpec.ofChange listSplicesWrong)

/-- 'vergelaw05.ListActs': WHATEVER THE INPUT: true; the input reads as it did. -/
def listActsSpec : ChangeSpec := { name := "listActs", fn := fun _ => fun
  | [d] => { results := [.lit (.bool true)], args := [d] }
  | _ => none }
def listActsRow : OpenClaim := { program := "ytdpcgemmbpbpoaa", sum := "4253e8c441ac094fbaf142b42055d0d6275ec573d40b9c5acc265396e869178a", func := "verge/vergelaw05.ListActs", spec := "listActs", unfollowed := true, recurses := true, apart := false }
def ListActsSaid : Prop := listActsRow.holds Try.pinned (OpenSpec.ofChange listActsSpec)

/-- ITS FALSE NEIGHBOUR: 'it returns false'. Refute it at one input. -/
def listActsWrong : ChangeSpec := { name := "listActs", fn := fun _ => fun
  | [d] => { results := [.lit (.bool false)], args := [d] }
  | _ => none }
def ListActsWrongFalsely : Prop := listActsRow.holds Try.pinned (OpenSpec.ofChange listActsWrong)

/-- 'vergelaw05.ListOrder': WHATEVER THE INPUT: true; the input reads as it did. -/
def listOrderSpec : ChangeSpec := { name := "listOrder", fn := fun _ => fun
  | [d1, d2] => { results := [.lit (.bool true)], args := [d1, d2] }
  | _ => none }
def listOrderRow : OpenClaim := { program := "ytdpcgemmbpbpoaa", sum := "4253e8c441ac094fbaf142b42055d0d6275ec573d40b9c5acc265396e869178a", func := "verge/vergelaw05.ListOrder", spec := "listOrder", unfollowed := true, recurses := true, apart := false }
def ListOrderSaid : Prop := listOrderRow.holds Try.pinned (OpenSpec.ofChange listOrderSpec)

/-- ITS FALSE NEIGHBOUR: 'it returns false'. Refute it at one input. -/
def listOrderWrong : ChangeSpec := { name := "listOrder", fn := fun _ => fun
  | [d1, d2] => { results := [.lit (.bool false)], args := [d1, d2] }
  | _ => none }
def ListOrderWrongFalsely : Prop := listOrderRow.holds Try.pinned (OpenSpec.ofChange listOrderWrong)

/-- 'vergelaw05.ListNone': WHATEVER THE INPUT: true; the input reads as it did. -/
def listNoneSpec : ChangeSpec := { name := "listNone", fn := fun _ => fun
  | [d] => { results := [.lit (.bool true)], args := [d] }
  | _ => none }
def listNoneRow : OpenClaim := { program := "ytdpcgemmbpbpoaa", sum := "4253e8c441ac094fbaf142b42055d0d6275ec573d40b9c5acc265396e869178a", func := "verge/vergelaw05.ListNone", spec := "listNone", unfollowed := true, recurses := true, apart := false }
def ListNoneSaid : Prop := listNoneRow.holds Try.pinned (OpenSpec.ofChange listNoneSpec)

/-- ITS FALSE NEIGHBOUR: 'it returns false'. Refute it at one input. -/
def listNoneWrong : ChangeSpec := { name := "listNone", fn := fun _ => fun
  | [d] => { results := [.lit (.bool false)], args := [d] }
  | _ => none }
def ListNoneWrongFalsely : Prop := listNoneRow.holds Try.pinned (OpenSpec.ofChange listNoneWrong)

/-- 'vergelaw05.ListValues': WHATEVER THE INPUT: true; the input reads as it did. -/
def listValuesSpec : ChangeSpec := { name := "listValues", fn := fun _ => fun
  | [d1, d2, d3] => { results := [.lit (.bool true)], args := [d1, d2, d3] }
  | _ => none }
def listValuesRow : OpenClaim := { program := "ytdpcgemmbpbpoaa", sum := "4253e8c441ac094fbaf142b42055d0d6275ec573d40b9c5acc265396e869178a", func := "verge/vergelaw05.ListValues", spec := "listValues", unfollowed := true, recurses := true, apart := false }
def ListValuesSaid : Prop := listValuesRow.holds Try.pinned (OpenSpec.ofChange listValuesSpec)

/-- ITS FALSE NEIGHBOUR: 'it returns false'. Refute it at one input. -/
def listValuesWrong : ChangeSpec := { name := "listValues", fn := fun _ => fun
  | [d1, d2, d3] => { results := [.lit (.bool false)], args := [d1, d2, d3] }
  | _ => none }
def ListValuesWrongFalsely : Prop := listValuesRow.holds Try.pinned (OpenSpec.ofChange listValuesWrong)

/- THE SECOND FORM. 'bulk': how many values and letters a reading holds, each counted each time it is reached (what is shared counts as often as it is met; a slice's spare places count too). A statement '..UptoSaid' is the law's where the arguments, and the package variables that the reading takes, are together of bulk at most 1048576: NARROWER than '..Said'. Prove '..Said' where nothing that the law and all that it calls make is longer than what came in: it says more and counts as full. Else prove '..UptoSaid'. A law counts once. -/
mutual
def uptoBulk {H : Type} : DataW H → Nat
  | .lit (.string bytes) => bytes.length + 1
  | .lit _ => 1
  | .nil => 1
  | .ptr d => uptoBulk d + 1
  | .slice elems spare => uptoBulkAll elems + uptoBulkAll spare + 1
  | .agg parts => uptoBulkAll parts + 1
  | .iface _ d => uptoBulk d + 1
  | .map entries => uptoBulkEntries entries + 1
  | .held _ => 1
def uptoBulkAll {H : Type} : List (DataW H) → Nat
  | [] => 0
  | d :: r => uptoBulk d + uptoBulkAll r
def uptoBulkEntries {H : Type} : List (Lit × DataW H) → Nat
  | [] => 0
  | x :: r => uptoBulkEntry x + uptoBulkEntries r
def uptoBulkEntry {H : Type} : Lit × DataW H → Nat
  | (.string bytes, d) => bytes.length + uptoBulk d + 1
  | (_, d) => uptoBulk d + 1
 end
def uptoSmall : (H : Type) → List (DataW H) → Bool := fun _ ds => decide (uptoBulkAll ds ≤ 1048576)
def OpenSpec.upto (s : _root_.Go.ChangeSpec) : _root_.Go.OpenSpec := { _root_.Go.OpenSpec.ofChange s with cond := some uptoSmall }

/-- 'vergelaw05.ListSplices', WHERE WHAT IT READS IS OF BULK AT MOST 1048576: true; the input reads as it did. -/
def listSplicesUptoRow : OpenClaim := { program := "ytdpcgemmbpbpoaa", sum := "4253e8c441ac094fbaf142b42055d0d6275ec573d40b9c5acc265396e869178a", func := "verge/vergelaw05.ListSplices", spec := "listSplices", unfollowed := true, recurses := true, apart := false, narrowed := true }
def ListSplicesUptoSaid : Prop := listSplicesUptoRow.holds Try.pinned (OpenSpec.upto listSplicesSpec)

/-- 'vergelaw05.ListActs', WHERE WHAT IT READS IS OF BULK AT MOST 1048576: true; the input reads as it did. -/
def listActsUptoRow : OpenClaim := { program := "ytdpcgemmbpbpoaa", sum := "4253e8c441ac094fbaf142b42055d0d6275ec573d40b9c5acc265396e869178a", func := "verge/vergelaw05.ListActs", spec := "listActs", unfollowed := true, recurses := true, apart := false, narrowed := true }
def ListActsUptoSaid : Prop := listActsUptoRow.holds Try.pinned (OpenSpec.upto listActsSpec)

/-- 'vergelaw05.ListOrder', WHERE WHAT IT READS IS OF BULK AT MOST 1048576: true; the input reads as it did. -/
def listOrderUptoRow : OpenClaim := { program := "ytdpcgemmbpbpoaa", sum := "4253e8c441ac094fbaf142b42055d0d6275ec573d40b9c5acc265396e869178a", func := "verge/vergelaw05.ListOrder", spec := "listOrder", unfollowed := true, recurses := true, apart := false, narrowed := true }
def ListOrderUptoSaid : Prop := listOrderUptoRow.holds Try.pinned (OpenSpec.upto listOrderSpec)

/-- 'vergelaw05.ListNone', WHERE WHAT IT READS IS OF BULK AT MOST 1048576: true; the input reads as it did. -/
def listNoneUptoRow : OpenClaim := { program := "ytdpcgemmbpbpoaa", sum := "4253e8c441ac094fbaf142b42055d0d6275ec573d40b9c5acc265396e869178a", func := "verge/vergelaw05.ListNone", spec := "listNone", unfollowed := true, recurses := true, apart := false, narrowed := true }
def ListNoneUptoSaid : Prop := listNoneUptoRow.holds Try.pinned (OpenSpec.upto listNoneSpec)

/-- 'vergelaw05.ListValues', WHERE WHAT IT READS IS OF BULK AT MOST 1048576: true; the input reads as it did. -/
def listValuesUptoRow : OpenClaim := { program := "ytdpcgemmbpbpoaa", sum := "4253e8c441ac094fbaf142b42055d0d6275ec573d40b9c5acc265396e869178a", func := "verge/vergelaw05.ListValues", spec := "listValues", unfollowed := true, recurses := true, apart := false, narrowed := true }
def ListValuesUptoSaid : Prop := listValuesUptoRow.holds Try.pinned (OpenSpec.upto listValuesSpec)

end Rows
end Go.Proofs.Ytdpcgemmbpbpoaa
