/-
  No cell of these rows narrows 'for every input' (looked for: loops, veiled, ifaces, maps, wideKeys, modest, calm, conditions, laid).
  DERIVED. THE GIVEN ROWS OF THIS SEAT. 6 by the template 'for every input the law returns true; each argument reads behind the call as it read before'; 0 by the template 'total and deterministic' (their statements: YtjnjjhhkjackoaaTotals.lean).
  GIVEN WITH THE SEED: the statements are not yours to turn. If you find one false, say at which input.
  Laid BY PROGRAM, IN A SANDBOX (cutbox-rows.mjs): the forced cells as the released guide's own fill.sh prints them over the translation 625dbd1abcab21eb… (all of the seat's roots in one cut). By AI agents, Wed Nov 11 2026. No macro, syntax, notation, axiom, sorry.
-/
import Derived.Test.YtjnjjhhkjackoaaChecked
import GoSem.Claim
import GoSem.ClaimJoined
import GoSem.ClaimMapViews
import Derived.JoinedTies
import Derived.KernelRfl
namespace Go.Proofs.Ytjnjjhhkjackoaa
/- THE CELL 'sum', in the pinned program and in every row, IS THE sha256 OF THE DUMP (.gsa) THAT YtjnjjhhkjackoaaProg.lean LOADS. Nothing in Lean hashes anything: it is a label: what it is worth is what the hold of that sum in a sandbox is worth. -/
noncomputable def Try.pinned : Pinned := { name := "ytjnjjhhkjackoaa", sum := "625dbd1abcab21eb65cdadab6e35a15b885cd1984a7a9162325d23840c51189e", checked := Try.checked }
namespace Rows
def none {H : Type} : Left H := { results := [], args := [] }

/-- 'vergelaw01.TimesApart': WHATEVER THE INPUT: true; the input reads as it did. -/
def timesApartSpec : ChangeSpec := { name := "timesApart", fn := fun _ => fun
  | [d1, d2] => { results := [.lit (.bool true)], args := [d1, d2] }
  | _ => none }
def timesApartRow : OpenClaim := { program := "ytjnjjhhkjackoaa", sum := "625dbd1abcab21eb65cdadab6e35a15b885cd1984a7a9162325d23840c51189e", func := "verge/vergelaw01.TimesApart", spec := "timesApart", inPlace := ["math/bits.Add64"], unfollowed := true, recurses := true, apart := false }
def TimesApartSaid : Prop := timesApartRow.holds Try.pinned (OpenSpec.ofChange timesApartSpec)

/-- ITS FALSE NEIGHBOUR: 'it returns false'. Refute it at one input. -/
def timesApartWrong : ChangeSpec := { name := "timesApart", fn := fun _ => fun
  | [d1, d2] => { results := [.lit (.bool false)], args := [d1, d2] }
  | _ => none }
def TimesApartWrongFalsely : Prop := timesApartRow.holds Try.pinned (OpenSpec.ofChange timesApartWrong)

/-- 'vergelaw01.TimesAdd': WHATEVER THE INPUT: true; the input reads as it did. -/
def timesAddSpec : ChangeSpec := { name := "timesAdd", fn := fun _ => fun
  | [d1, d2] => { results := [.lit (.bool true)], args := [d1, d2] }
  | _ => none }
def timesAddRow : OpenClaim := { program := "ytjnjjhhkjackoaa", sum := "625dbd1abcab21eb65cdadab6e35a15b885cd1984a7a9162325d23840c51189e", func := "verge/vergelaw01.TimesAdd", spec := "timesAdd", inPlace := ["math/bits.Add64"], unfollowed := true, recurses := true, apart := false }
def TimesAddSaid : Prop := timesAddRow.holds Try.pinned (OpenSpec.ofChange timesAddSpec)

/-- ITS FALSE NEIGHBOUR: 'it returns false'. Refute it at one input. -/
def timesAddWrong : ChangeSpec := { name := "timesAdd", fn := fun _ => fun
  | [d1, d2] => { results := [.lit (.bool false)], args := [d1, d2] }
  | _ => none }
def TimesAddWrongFalsely : Prop := timesAddRow.holds Try.pinned (OpenSpec.ofChange timesAddWrong)

/-- 'vergelaw01.TimesThird': WHATEVER THE INPUT: true; the input reads as it did. -/
def timesThirdSpec : ChangeSpec := { name := "timesThird", fn := fun _ => fun
  | [d1, d2, d3] => { results := [.lit (.bool true)], args := [d1, d2, d3] }
  | _ => none }
def timesThirdRow : OpenClaim := { program := "ytjnjjhhkjackoaa", sum := "625dbd1abcab21eb65cdadab6e35a15b885cd1984a7a9162325d23840c51189e", func := "verge/vergelaw01.TimesThird", spec := "timesThird", inPlace := ["math/bits.Add64"], unfollowed := true, recurses := true, apart := false }
def TimesThirdSaid : Prop := timesThirdRow.holds Try.pinned (OpenSpec.ofChange timesThirdSpec)

/-- ITS FALSE NEIGHBOUR: 'it returns false'. Refute it at one input. -/
def timesThirdWrong : ChangeSpec := { name := "timesThird", fn := fun _ => fun
  | [d1, d2, d3] => { results := [.lit (.bool false)], args := [d1, d2, d3] }
  | _ => none }
def TimesThirdWrongFalsely : Prop := timesThirdRow.holds Try.pinned (OpenSpec.ofChange timesThirdWrong)

/-- 'vergelaw01.TimesDigits': WHATEVER THE INPUT: true; the input reads as it did. -/
def timesDigitsSpec : ChangeSpec := { name := "timesDigits", fn := fun _ => fun
  | [d1, d2] => { results := [.lit (.bool true)], args := [d1, d2] }
  | _ => none }
def timesDigitsRow : OpenClaim := { program := "ytjnjjhhkjackoaa", sum := "625dbd1abcab21eb65cdadab6e35a15b885cd1984a7a9162325d23840c51189e", func := "verge/vergelaw01.TimesDigits", spec := "timesDigits", inPlace := ["math/bits.Add64"], unfollowed := true, recurses := true, apart := false }
def TimesDigitsSaid : Prop := timesDigitsRow.holds Try.pinned (OpenSpec.ofChange timesDigitsSpec)

/-- ITS FALSE NEIGHBOUR: 'it returns false'. Refute it at one input. -/
def timesDigitsWrong : ChangeSpec := { name := "timesDigits", fn := fun _ => fun
  | [d1, d2] => { results := [.lit (.bool false)], args := [d1, d2] }
  | _ => none }
def TimesDigitsWrongFalsely : Prop := timesDigitsRow.holds Try.pinned (OpenSpec.ofChange timesDigitsWrong)

/-- 'vergelaw01.TimesCut': WHATEVER THE INPUT: true; the input reads as it did. -/
def timesCutSpec : ChangeSpec := { name := "timesCut", fn := fun _ => fun
  | [d1, d2] => { results := [.lit (.bool true)], args := [d1, d2] }
  | _ => none }
def timesCutRow : OpenClaim := { program := "ytjnjjhhkjackoaa", sum := "625dbd1abcab21eb65cdadab6e35a15b885cd1984a7a9162325d23840c51189e", func := "verge/vergelaw01.TimesCut", spec := "timesCut", inPlace := ["math/bits.Add64"], unfollowed := true, recurses := true, apart := false }
def TimesCutSaid : Prop := timesCutRow.holds Try.pinned (OpenSpec.ofChange timesCutSpec)

/-- ITS FALSE NEIGHBOUR: 'it returns false'. Refute it at one input. -/
def timesCutWrong : ChangeSpec := { name := "timesCut", fn := fun _ => fun
  | [d1, d2] => { results := [.lit (.bool false)], args := [d1, d2] }
  | _ => none }
def TimesCutWrongFalsely : Prop := timesCutRow.holds Try.pinned (OpenSpec.ofChange timesCutWrong)

/-- 'vergelaw01.TimesLevels': WHATEVER THE INPUT: true; the input reads as it did. -/
def timesLevelsSpec : ChangeSpec := { name := "timesLevels", fn := fun _ => fun
  | [d1, d2, d3] => { results := [.lit (.bool true)], args := [d1, d2, d3] }
  | _ => none }
def timesLevelsRow : OpenClaim := { program := "ytjnjjhhkjackoaa", sum := "625dbd1abcab21eb65cdadab6e35a15b885cd1984a7a9162325d23840c51189e", func := "verge/vergelaw01.TimesLevels", spec := "timesLevels", inPlace := ["math/bits.Add64"], unfollowed := true, recurses := true, apart := false }
def TimesLevelsSaid : Prop := timesLevelsRow.holds Try.pinned (OpenSpec.ofChange timesLevelsSpec)

/-- ITS FALSE NEIGHBOUR: 'it returns false'. Refute it at one input. -/
def timesLevelsWrong : ChangeSpec := { name := "timesLevels", fn := fun _ => fun
  | [d1, d2, d3] => { results := [.lit (.bool false)], args := [d1, d2, d3] }
  | _ => none }
def TimesLevelsWrongFalsely : Prop := timesLevelsRow.holds Try.pinned (OpenSpec.ofChange timesLevelsWrong)

/- THE SECOND FORM. 'bulk': how many values and letters a reading holds, each counted each time it is reached (what is shared counts as often as it is met; a slice's spare places count too). A statement '..UptoSaid' is the law's where the arguments, and the package variables that the reading takes, are together of bulk at most 1048576: NARROWER than '..Said'. Prove '..Said' where nothing that the law and all that it calls make is longer than what came in: it says more and counts as full. Else prove '..UptoSaid'. A law counts once. -/
mutual
def uptoBulk {H : Type} : DataW H → Nat
  | .lit (.string bytes) => bytes.length + 1
  | .lit _ => 1
  | .nil => 1
  | .ptr d => uptoBulk d + 1
  | .slice elems spare => uptoBulkAll elems + uptoBulkAll spare + 1
  | .agg parts => uptoBulkAll parts + 1
  | .iface _ d => uptoBulk d + 1
  | .map entries => uptoBulkEntries entries + 1
  | .held _ => 1
def uptoBulkAll {H : Type} : List (DataW H) → Nat
  | [] => 0
  | d :: r => uptoBulk d + uptoBulkAll r
def uptoBulkEntries {H : Type} : List (Lit × DataW H) → Nat
  | [] => 0
  | x :: r => uptoBulkEntry x + uptoBulkEntries r
def uptoBulkEntry {H : Type} : Lit × DataW H → Nat
  | (.string bytes, d) => bytes.length + uptoBulk d + 1
  | (_, d) => uptoBulk d + 1
 end
def uptoSmall : (H : Type) → List (DataW H) → Bool := fun _ ds => decide (uptoBulkAll ds ≤ 1048576)
def OpenSpec.upto (s : _root_.Go.ChangeSpec) : _root_.Go.OpenSpec := { _root_.Go.OpenSpec.ofChange s with cond := some uptoSmall }

/-- 'vergelaw01.TimesApart', WHERE WHAT IT READS IS OF BULK AT MOST 1048576: true; the input reads as it did. -/
def timesApartUptoRow : OpenClaim := { program := "ytjnjjhhkjackoaa", sum := "625dbd1abcab21eb65cdadab6e35a15b885cd1984a7a9162325d23840c51189e", func := "verge/vergelaw01.TimesApart", spec := "timesApart", inPlace := ["math/bits.Add64"], unfollowed := true, recurses := true, apart := false, narrowed := true }
def TimesApartUptoSaid : Prop := timesApartUptoRow.holds Try.pinned (OpenSpec.upto timesApartSpec)

/-- 'vergelaw01.TimesAdd', WHERE WHAT IT READS IS OF BULK AT MOST 1048576: true; the input reads as it did. -/
def timesAddUptoRow : OpenClaim := { program := "ytjnjjhhkjackoaa", sum := "625dbd1abcab21eb65cdadab6e35a15b885cd1984a7a9162325d23840c51189e", func := "verge/vergelaw01.TimesAdd", spec := "timesAdd", inPlace := ["math/bits.Add64"], unfollowed := true, recurses := true, apart := false, narrowed := true }
def TimesAddUptoSaid : Prop := timesAddUptoRow.holds Try.pinned (OpenSpec.upto timesAddSpec)

/-- 'vergelaw01.TimesThird', WHERE WHAT IT READS IS OF BULK AT MOST 1048576: true; the input reads as it did. -/
def timesThirdUptoRow : OpenClaim := { program := "ytjnjjhhkjackoaa", sum := "625dbd1abcab21eb65cdadab6e35a15b885cd1984a7a9162325d23840c51189e", func := "verge/vergelaw01.TimesThird", spec := "timesThird", inPlace := ["math/bits.Add64"], unfollowed := true, recurses := true, apart := false, narrowed := true }
def TimesThirdUptoSaid : Prop := timesThirdUptoRow.holds Try.pinned (OpenSpec.upto timesThirdSpec)

/-- 'vergelaw01.TimesDigits', WHERE WHAT IT READS IS OF BULK AT MOST 1048576: true; the input reads as it did. -/
def timesDigitsUptoRow : OpenClaim := { program := "ytjnjjhhkjackoaa", sum := "625dbd1abcab21eb65cdadab6e35a15b885cd1984a7a9162325d23840c51189e", func := "verge/vergelaw01.TimesDigits", spec := "timesDigits", inPlace := ["math/bits.Add64"], unfollowed := true, recurses := true, apart := false, narrowed := true }
def TimesDigitsUptoSaid : Prop := timesDigitsUptoRow.holds Try.pinned (OpenSpec.upto timesDigitsSpec)

/-- 'vergelaw01.TimesCut', WHERE WHAT IT READS IS OF BULK AT MOST 1048576: true; the input reads as it did. -/
def timesCutUptoRow : OpenClaim := { program := "ytjnjjhhkjackoaa", sum := "625dbd1abcab21eb65cdadab6e35a15b885cd1984a7a9162325d23840c51189e", func := "verge/vergelaw01.TimesCut", spec := "timesCut", inPlace := ["math/bits.Add64"], unfollowed := true, recurses := true, apart := false, narrowed := true }
def TimesCutUptoSaid : Prop := timesCutUptoRow.holds Try.pinned (OpenSpec.upto timesCutSpec)

/-- 'vergelaw01.TimesLevels', WHERE WHAT IT READS IS OF BULK AT MOST 1048576: true; the input reads as it did. -/
def timesLevelsUptoRow : OpenClaim := { program := "ytjnjjhhkjackoaa", sum := "625dbd1abcab21eb65cdadab6e35a15b885cd1984a7a9162325d23840c51189e", func := "verge/vergelaw01.TimesLevels", spec := "timesLevels", inPlace := ["math/bits.Add64"], unfollowed := true, recurses := true, apart := false, narrowed := true }
def TimesLevelsUptoSaid : Prop := timesLevelsUptoRow.holds Try.pinned (OpenSpec.upto timesLevelsSpec)

end Rows
end Go.Proofs.Ytjnjjhhkjackoaa
