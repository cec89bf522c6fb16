/-
  DERIVED. GIVEN WITH THE SEED: THE CARDS: each row of YthamdbfilpegjaaDoorRows.lean that lists a variable, with what it lists TIED to the program's text (the seventh form; the later family's looks); each row that meets fmt, with fmt's text TOLD by the authors' own Lean function (tested against real Go, not proved from fmt's source: count such statements apart). THE CARD IS WHAT COUNTS. Prove the row's statement (the work); the ties are given (YthamdbfilpegjaaDoorTie.lean); close each card by the builder's one call (the guide's Derived/Test/ToyasCard.lean, 'card_holds'). Laid BY PROGRAM, IN A SANDBOX (cutbox-door.mjs). By AI agents, Wed Nov 11 2026. No macro, syntax, notation, axiom, sorry.
-/
import Derived.Test.YthamdbfilpegjaaDoorRows
import GoSem.ClaimSeven
namespace Go.Proofs.YthamdbfilpegjaaDoor
namespace Rows

/-- THE TIED CARD OF 'vergelaw13.ShardNext'. -/
def shardNextCard : Claim7 := { stood := { row := shardNextRow, standIns := [], harness := (true, "3194d2de756e3cd9f4c89304a56a380eb6b47c94402998f0639bc44a92b0a776"), looks := false }, kinds := [], alts := [], laidByText := true, laidKinds := [.data], laidTests := true, laidLooks := .later }
def ShardNextCardSaid : Prop := Claim7.holds Tryd.pinned (.plain (OpenSpec.ofChange shardNextSpec)) shardNextCard

/-- THE TIED CARD OF 'vergelaw13.ShardActs'. -/
def shardActsCard : Claim7 := { stood := { row := shardActsRow, standIns := [], harness := (true, "3194d2de756e3cd9f4c89304a56a380eb6b47c94402998f0639bc44a92b0a776"), looks := false }, kinds := [], alts := [], laidByText := true, laidKinds := [.data], laidTests := true, laidLooks := .later }
def ShardActsCardSaid : Prop := Claim7.holds Tryd.pinned (.plain (OpenSpec.ofChange shardActsSpec)) shardActsCard

/-- THE TIED CARD OF 'vergelaw13.ShardNone'. -/
def shardNoneCard : Claim7 := { stood := { row := shardNoneRow, standIns := [], harness := (true, "3194d2de756e3cd9f4c89304a56a380eb6b47c94402998f0639bc44a92b0a776"), looks := false }, kinds := [], alts := [], laidByText := true, laidKinds := [.data], laidTests := true, laidLooks := .later }
def ShardNoneCardSaid : Prop := Claim7.holds Tryd.pinned (.plain (OpenSpec.ofChange shardNoneSpec)) shardNoneCard

/-- THE SECOND FORM's CARD OF 'vergelaw13.ShardNext'. -/
def shardNextUptoCard : Claim7 := { stood := { row := shardNextUptoRow, standIns := [], harness := (true, "3194d2de756e3cd9f4c89304a56a380eb6b47c94402998f0639bc44a92b0a776"), looks := false }, kinds := [], alts := [], laidByText := true, laidKinds := [.data], laidTests := true, laidLooks := .later }
def ShardNextUptoCardSaid : Prop := Claim7.holds Tryd.pinned (.plain (OpenSpec.upto shardNextSpec)) shardNextUptoCard

/-- THE SECOND FORM's CARD OF 'vergelaw13.ShardActs'. -/
def shardActsUptoCard : Claim7 := { stood := { row := shardActsUptoRow, standIns := [], harness := (true, "3194d2de756e3cd9f4c89304a56a380eb6b47c94402998f0639bc44a92b0a776"), looks := false }, kinds := [], alts := [], laidByText := true, laidKinds := [.data], laidTests := true, laidLooks := .later }
def ShardActsUptoCardSaid : Prop := Claim7.holds Tryd.pinned (.plain (OpenSpec.upto shardActsSpec)) shardActsUptoCard

/-- THE SECOND FORM's CARD OF 'vergelaw13.ShardNone'. -/
def shardNoneUptoCard : Claim7 := { stood := { row := shardNoneUptoRow, standIns := [], harness := (true, "3194d2de756e3cd9f4c89304a56a380eb6b47c94402998f0639bc44a92b0a776"), looks := false }, kinds := [], alts := [], laidByText := true, laidKinds := [.data], laidTests := true, laidLooks := .later }
def ShardNoneUptoCardSaid : Prop := Claim7.holds Tryd.pinned (.plain (OpenSpec.upto shardNoneSpec)) shardNoneUptoCard
end Rows
end Go.Proofs.YthamdbfilpegjaaDoor
