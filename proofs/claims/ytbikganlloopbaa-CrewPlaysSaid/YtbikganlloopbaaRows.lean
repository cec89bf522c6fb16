/-
  No cell of these rows narrows 'for every input' (looked for: loops, veiled, ifaces, maps, wideKeys, modest, calm, conditions, laid).
  DERIVED. THE GIVEN ROWS OF THIS SEAT. 4 by the template 'for every input the law returns true; each argument reads behind the call as it read before'; 0 by the template 'total and deterministic' (their statements: YtbikganlloopbaaTotals.lean).
  GIVEN WITH THE SEED: the statements are not yours to turn. If you find one false, say at which input.
  Laid BY PROGRAM, IN A SANDBOX (cutbox-rows.mjs): the forced cells as the released guide's own fill.sh prints them over the translation b3a67b83e3982170… (all of the seat's roots in one cut). By AI agents, Wed Nov 11 2026. No macro, syntax, notation, axiom, sorry.
-/
import Derived.Test.YtbikganlloopbaaChecked
import GoSem.Claim
import GoSem.ClaimJoined
import GoSem.ClaimMapViews
import Derived.JoinedTies
import Derived.KernelRfl
namespace Go.Proofs.Ytbikganlloopbaa
/- THE CELL 'sum', in the pinned program and in every row, IS THE sha256 OF THE DUMP (.gsa) THAT YtbikganlloopbaaProg.lean LOADS. Nothing in Lean hashes anything: it is a label: what it is worth is what the hold of that sum in a sandbox is worth. -/
noncomputable def Try.pinned : Pinned := { name := "ytbikganlloopbaa", sum := "b3a67b83e3982170793ae619799dd4185196aacb748b2ce4a2693703b6cbc740", checked := Try.checked }
namespace Rows
def none {H : Type} : Left H := { results := [], args := [] }

/-- 'vergelaw19.CrewOrder': WHATEVER THE INPUT: true; the input reads as it did. -/
def crewOrderSpec : ChangeSpec := { name := "crewOrder", fn := fun _ => fun
  | [d1, d2] => { results := [.lit (.bool true)], args := [d1, d2] }
  | _ => none }
def crewOrderRow : OpenClaim := { program := "ytbikganlloopbaa", sum := "b3a67b83e3982170793ae619799dd4185196aacb748b2ce4a2693703b6cbc740", func := "verge/vergelaw19.CrewOrder", spec := "crewOrder", unfollowed := true, recurses := true, apart := false }
def CrewOrderSaid : Prop := crewOrderRow.holds Try.pinned (OpenSpec.ofChange crewOrderSpec)

/-- ITS FALSE NEIGHBOUR: 'it returns false'. Refute it at one input. -/
def crewOrderWrong : ChangeSpec := { name := "crewOrder", fn := fun _ => fun
  | [d1, d2] => { results := [.lit (.bool false)], args := [d1, d2] }
  | _ => none }
def CrewOrderWrongFalsely : Prop := crewOrderRow.holds Try.pinned (OpenSpec.ofChange crewOrderWrong)

/-- 'vergelaw19.CrewNone': WHATEVER THE INPUT: true; the input reads as it did. -/
def crewNoneSpec : ChangeSpec := { name := "crewNone", fn := fun _ => fun
  | [d] => { results := [.lit (.bool true)], args := [d] }
  | _ => none }
def crewNoneRow : OpenClaim := { program := "ytbikganlloopbaa", sum := "b3a67b83e3982170793ae619799dd4185196aacb748b2ce4a2693703b6cbc740", func := "verge/vergelaw19.CrewNone", spec := "crewNone", unfollowed := true, recurses := true, apart := false }
def CrewNoneSaid : Prop := crewNoneRow.holds Try.pinned (OpenSpec.ofChange crewNoneSpec)

/-- ITS FALSE NEIGHBOUR: 'it returns false'. Refute it at one input. -/
def crewNoneWrong : ChangeSpec := { name := "crewNone", fn := fun _ => fun
  | [d] => { results := [.lit (.bool false)], args := [d] }
  | _ => none }
def CrewNoneWrongFalsely : Prop := crewNoneRow.holds Try.pinned (OpenSpec.ofChange crewNoneWrong)

/-- 'vergelaw19.CrewPlays': WHATEVER THE INPUT: true; the input reads as it did. -/
def crewPlaysSpec : ChangeSpec := { name := "crewPlays", fn := fun _ => fun
  | [d1, d2, d3] => { results := [.lit (.bool true)], args := [d1, d2, d3] }
  | _ => none }
def crewPlaysRow : OpenClaim := { program := "ytbikganlloopbaa", sum := "b3a67b83e3982170793ae619799dd4185196aacb748b2ce4a2693703b6cbc740", func := "verge/vergelaw19.CrewPlays", spec := "crewPlays", unfollowed := true, recurses := true, apart := false }
def CrewPlaysSaid : Prop := crewPlaysRow.holds Try.pinned (OpenSpec.ofChange crewPlaysSpec)

/-- ITS FALSE NEIGHBOUR: 'it returns false'. Refute it at one input. -/
def crewPlaysWrong : ChangeSpec := { name := "crewPlays", fn := fun _ => fun
  | [d1, d2, d3] => { results := [.lit (.bool false)], args := [d1, d2, d3] }
  | _ => none }
def CrewPlaysWrongFalsely : Prop := crewPlaysRow.holds Try.pinned (OpenSpec.ofChange crewPlaysWrong)

/-- 'vergelaw19.CrewKeeps': WHATEVER THE INPUT: true; the input reads as it did. -/
def crewKeepsSpec : ChangeSpec := { name := "crewKeeps", fn := fun _ => fun
  | [d1, d2, d3, d4] => { results := [.lit (.bool true)], args := [d1, d2, d3, d4] }
  | _ => none }
def crewKeepsRow : OpenClaim := { program := "ytbikganlloopbaa", sum := "b3a67b83e3982170793ae619799dd4185196aacb748b2ce4a2693703b6cbc740", func := "verge/vergelaw19.CrewKeeps", spec := "crewKeeps", unfollowed := true, recurses := true, apart := false }
def CrewKeepsSaid : Prop := crewKeepsRow.holds Try.pinned (OpenSpec.ofChange crewKeepsSpec)

/-- ITS FALSE NEIGHBOUR: 'it returns false'. Refute it at one input. -/
def crewKeepsWrong : ChangeSpec := { name := "crewKeeps", fn := fun _ => fun
  | [d1, d2, d3, d4] => { results := [.lit (.bool false)], args := [d1, d2, d3, d4] }
  | _ => none }
def CrewKeepsWrongFalsely : Prop := crewKeepsRow.holds Try.pinned (OpenSpec.ofChange crewKeepsWrong)

/- THE SECOND FORM. 'bulk': how many values and letters a reading holds, each counted each time it is reached (what is shared counts as often as it is met; a slice's spare places count too). A statement '..UptoSaid' is the law's where the arguments, and the package variables that the reading takes, are together of bulk at most 1048576: NARROWER than '..Said'. Prove '..Said' where nothing that the law and all that it calls make is longer than what came in: it says more and counts as full. Else prove '..UptoSaid'. A law counts once. -/
mutual
def uptoBulk {H : Type} : DataW H → Nat
  | .lit (.string bytes) => bytes.length + 1
  | .lit _ => 1
  | .nil => 1
  | .ptr d => uptoBulk d + 1
  | .slice elems spare => uptoBulkAll elems + uptoBulkAll spare + 1
  | .agg parts => uptoBulkAll parts + 1
  | .iface _ d => uptoBulk d + 1
  | .map entries => uptoBulkEntries entries + 1
  | .held _ => 1
def uptoBulkAll {H : Type} : List (DataW H) → Nat
  | [] => 0
  | d :: r => uptoBulk d + uptoBulkAll r
def uptoBulkEntries {H : Type} : List (Lit × DataW H) → Nat
  | [] => 0
  | x :: r => uptoBulkEntry x + uptoBulkEntries r
def uptoBulkEntry {H : Type} : Lit × DataW H → Nat
  | (.string bytes, d) => bytes.length + uptoBulk d + 1
  | (_, d) => uptoBulk d + 1
 end
def uptoSmall : (H : Type) → List (DataW H) → Bool := fun _ ds => decide (uptoBulkAll ds ≤ 1048576)
def OpenSpec.upto (s : _root_.Go.ChangeSpec) : _root_.Go.OpenSpec := { _root_.Go.OpenSpec.ofChange s with cond := some uptoSmall }

/-- 'vergelaw19.CrewOrder', WHERE WHAT IT READS IS OF BULK AT MOST 1048576: true; the input reads as it did. -/
def crewOrderUptoRow : OpenClaim := { program := "ytbikganlloopbaa", sum := "b3a67b83e3982170793ae619799dd4185196aacb748b2ce4a2693703b6cbc740", func := "verge/vergelaw19.CrewOrder", spec := "crewOrder", unfollowed := true, recurses := true, apart := false, narrowed := true }
def CrewOrderUptoSaid : Prop := crewOrderUptoRow.holds Try.pinned (OpenSpec.upto crewOrderSpec)

/-- 'vergelaw19.CrewNone', WHERE WHAT IT READS IS OF BULK AT MOST 1048576: true; the input reads as it did. -/
def crewNoneUptoRow : OpenClaim := { program := "ytbikganlloopbaa", sum := "b3a67b83e3982170793ae619799dd4185196aacb748b2ce4a2693703b6cbc740", func := "verge/vergelaw19.CrewNone", spec := "crewNone", unfollowed := true, recurses := true, apart := false, narrowed := true }
def CrewNoneUptoSaid : Prop := crewNoneUptoRow.holds Try.pinned (OpenSpec.upto crewNoneSpec)

/-- 'vergelaw19.CrewPlays', WHERE WHAT IT READS IS OF BULK AT MOST 1048576: true; the input reads as it did. -/
def crewPlaysUptoRow : OpenClaim := { program := "ytbikganlloopbaa", sum := "b3a67b83e3982170793ae619799dd4185196aacb748b2ce4a2693703b6cbc740", func := "verge/vergelaw19.CrewPlays", spec := "crewPlays", unfollowed := true, recurses := true, apart := false, narrowed := true }
def CrewPlaysUptoSaid : Prop := crewPlaysUptoRow.holds Try.pinned (OpenSpec.upto crewPlaysSpec)

/-- 'vergelaw19.CrewKeeps', WHERE WHAT IT READS IS OF BULK AT MOST 1048576: true; the input reads as it did. -/
def crewKeepsUptoRow : OpenClaim := { program := "ytbikganlloopbaa", sum := "b3a67b83e3982170793ae619799dd4185196aacb748b2ce4a2693703b6cbc740", func := "verge/vergelaw19.CrewKeeps", spec := "crewKeeps", unfollowed := true, recurses := true, apart := false, narrowed := true }
def CrewKeepsUptoSaid : Prop := crewKeepsUptoRow.holds Try.pinned (OpenSpec.upto crewKeepsSpec)

end Rows
end Go.Proofs.Ytbikganlloopbaa
