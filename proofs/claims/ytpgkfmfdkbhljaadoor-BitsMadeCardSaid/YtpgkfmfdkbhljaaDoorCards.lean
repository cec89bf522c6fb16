/-
  DERIVED. GIVEN WITH THE SEED: THE CARDS: each row of YtpgkfmfdkbhljaaDoorRows.lean that lists a variable, with what it lists TIED to the program's text (the seventh form; the later family's looks); each row that meets fmt, with fmt's text TOLD by the authors' own Lean function (tested against real Go, not proved from fmt's source: count such statements apart). THE CARD IS WHAT COUNTS. Prove the row's statement (the work); the ties are given (YtpgkfmfdkbhljaaDoorTie.lean); close each card by the builder's one call (the guide's Derived/Test/ToyasCard.lean, 'card_holds'). Laid BY PROGRAM, IN A SANDBOX (cutbox-door.mjs). By AI agents, Wed Nov 11 2026. No macro, syntax, notation, axiom, sorry.
-/
import Derived.Test.YtpgkfmfdkbhljaaDoorRows
import GoSem.ClaimSeven
namespace Go.Proofs.YtpgkfmfdkbhljaaDoor
namespace Rows

/-- THE TIED CARD OF 'vergelaw06.BitsFrom'. -/
def bitsFromCard : Claim7 := { stood := { row := bitsFromRow, standIns := [], harness := (true, "50d6174acb5c1dfd01996cf456dffb004e6bad4159e663b52511feb266b917d3"), looks := false }, kinds := [], alts := [], laidByText := true, laidKinds := [.data], laidTests := true, laidLooks := .later }
def BitsFromCardSaid : Prop := Claim7.holds Tryd.pinned (.plain (OpenSpec.ofChange bitsFromSpec)) bitsFromCard

/-- THE TIED CARD OF 'vergelaw06.BitsTurns'. -/
def bitsTurnsCard : Claim7 := { stood := { row := bitsTurnsRow, standIns := [], harness := (true, "50d6174acb5c1dfd01996cf456dffb004e6bad4159e663b52511feb266b917d3"), looks := false }, kinds := [], alts := [], laidByText := true, laidKinds := [.data], laidTests := true, laidLooks := .later }
def BitsTurnsCardSaid : Prop := Claim7.holds Tryd.pinned (.plain (OpenSpec.ofChange bitsTurnsSpec)) bitsTurnsCard

/-- THE TIED CARD OF 'vergelaw06.BitsSteps'. -/
def bitsStepsCard : Claim7 := { stood := { row := bitsStepsRow, standIns := [], harness := (true, "50d6174acb5c1dfd01996cf456dffb004e6bad4159e663b52511feb266b917d3"), looks := false }, kinds := [], alts := [], laidByText := true, laidKinds := [.data], laidTests := true, laidLooks := .later }
def BitsStepsCardSaid : Prop := Claim7.holds Tryd.pinned (.plain (OpenSpec.ofChange bitsStepsSpec)) bitsStepsCard

/-- THE TIED CARD OF 'vergelaw06.BitsTells'. -/
def bitsTellsCard : Claim7 := { stood := { row := bitsTellsRow, standIns := [], harness := (true, "50d6174acb5c1dfd01996cf456dffb004e6bad4159e663b52511feb266b917d3"), looks := false }, kinds := [], alts := [], laidByText := true, laidKinds := [.data], laidTests := true, laidLooks := .later }
def BitsTellsCardSaid : Prop := Claim7.holds Tryd.pinned (.plain (OpenSpec.ofChange bitsTellsSpec)) bitsTellsCard

/-- THE TIED CARD OF 'vergelaw06.BitsMade'. -/
def bitsMadeCard : Claim7 := { stood := { row := bitsMadeRow, standIns := [], harness := (true, "50d6174acb5c1dfd01996cf456dffb004e6bad4159e663b52511feb266b917d3"), looks := false }, kinds := [], alts := [], laidByText := true, laidKinds := [.data], laidTests := true, laidLooks := .later }
def BitsMadeCardSaid : Prop := Claim7.holds Tryd.pinned (.plain (OpenSpec.ofChange bitsMadeSpec)) bitsMadeCard

/-- THE SECOND FORM's CARD OF 'vergelaw06.BitsFrom'. -/
def bitsFromUptoCard : Claim7 := { stood := { row := bitsFromUptoRow, standIns := [], harness := (true, "50d6174acb5c1dfd01996cf456dffb004e6bad4159e663b52511feb266b917d3"), looks := false }, kinds := [], alts := [], laidByText := true, laidKinds := [.data], laidTests := true, laidLooks := .later }
def BitsFromUptoCardSaid : Prop := Claim7.holds Tryd.pinned (.plain (OpenSpec.upto bitsFromSpec)) bitsFromUptoCard

/-- THE SECOND FORM's CARD OF 'vergelaw06.BitsTurns'. -/
def bitsTurnsUptoCard : Claim7 := { stood := { row := bitsTurnsUptoRow, standIns := [], harness := (true, "50d6174acb5c1dfd01996cf456dffb004e6bad4159e663b52511feb266b917d3"), looks := false }, kinds := [], alts := [], laidByText := true, laidKinds := [.data], laidTests := true, laidLooks := .later }
def BitsTurnsUptoCardSaid : Prop := Claim7.holds Tryd.pinned (.plain (OpenSpec.upto bitsTurnsSpec)) bitsTurnsUptoCard

/-- THE SECOND FORM's CARD OF 'vergelaw06.BitsSteps'. -/
def bitsStepsUptoCard : Claim7 := { stood := { row := bitsStepsUptoRow, standIns := [], harness := (true, "50d6174acb5c1dfd01996cf456dffb004e6bad4159e663b52511feb266b917d3"), looks := false }, kinds := [], alts := [], laidByText := true, laidKinds := [.data], laidTests := true, laidLooks := .later }
def BitsStepsUptoCardSaid : Prop := Claim7.holds Tryd.pinned (.plain (OpenSpec.upto bitsStepsSpec)) bitsStepsUptoCard

/-- THE SECOND FORM's CARD OF 'vergelaw06.BitsTells'. -/
def bitsTellsUptoCard : Claim7 := { stood := { row := bitsTellsUptoRow, standIns := [], harness := (true, "50d6174acb5c1dfd01996cf456dffb004e6bad4159e663b52511feb266b917d3"), looks := false }, kinds := [], alts := [], laidByText := true, laidKinds := [.data], laidTests := true, laidLooks := .later }
def BitsTellsUptoCardSaid : Prop := Claim7.holds Tryd.pinned (.plain (OpenSpec.upto bitsTellsSpec)) bitsTellsUptoCard

/-- THE SECOND FORM's CARD OF 'vergelaw06.BitsMade'. -/
def bitsMadeUptoCard : Claim7 := { stood := { row := bitsMadeUptoRow, standIns := [], harness := (true, "50d6174acb5c1dfd01996cf456dffb004e6bad4159e663b52511feb266b917d3"), looks := false }, kinds := [], alts := [], laidByText := true, laidKinds := [.data], laidTests := true, laidLooks := .later }
def BitsMadeUptoCardSaid : Prop := Claim7.holds Tryd.pinned (.plain (OpenSpec.upto bitsMadeSpec)) bitsMadeUptoCard
end Rows
end Go.Proofs.YtpgkfmfdkbhljaaDoor
