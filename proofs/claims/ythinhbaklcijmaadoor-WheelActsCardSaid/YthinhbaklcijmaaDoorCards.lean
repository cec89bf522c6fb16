/-
  DERIVED. GIVEN WITH THE SEED: THE CARDS: each row of YthinhbaklcijmaaDoorRows.lean that lists a variable, with what it lists TIED to the program's text (the seventh form; the later family's looks); each row that meets fmt, with fmt's text TOLD by the authors' own Lean function (tested against real Go, not proved from fmt's source: count such statements apart). THE CARD IS WHAT COUNTS. Prove the row's statement (the work); the ties are given (YthinhbaklcijmaaDoorTie.lean); close each card by the builder's one call (the guide's Derived/Test/ToyasCard.lean, 'card_holds'). Laid BY PROGRAM, IN A SANDBOX (cutbox-door.mjs). By AI agents, Wed Nov 11 2026. No macro, syntax, notation, axiom, sorry.
-/
import Derived.Test.YthinhbaklcijmaaDoorRows
import GoSem.ClaimSeven
namespace Go.Proofs.YthinhbaklcijmaaDoor
namespace Rows

/-- THE TIED CARD OF 'vergelaw08.WheelNext'. -/
def wheelNextCard : Claim7 := { stood := { row := wheelNextRow, standIns := [], harness := (true, "00993b0e0cfe77a6810e7095eaed6f3a39c9013f397531f148dd6424c4da1d76"), looks := false }, kinds := [], alts := [], laidByText := true, laidKinds := [.data], laidTests := true, laidLooks := .later }
def WheelNextCardSaid : Prop := Claim7.holds Tryd.pinned (.plain (OpenSpec.ofChange wheelNextSpec)) wheelNextCard

/-- THE TIED CARD OF 'vergelaw08.WheelActs'. -/
def wheelActsCard : Claim7 := { stood := { row := wheelActsRow, standIns := [], harness := (true, "00993b0e0cfe77a6810e7095eaed6f3a39c9013f397531f148dd6424c4da1d76"), looks := false }, kinds := [], alts := [], laidByText := true, laidKinds := [.data], laidTests := true, laidLooks := .later }
def WheelActsCardSaid : Prop := Claim7.holds Tryd.pinned (.plain (OpenSpec.ofChange wheelActsSpec)) wheelActsCard

/-- THE TIED CARD OF 'vergelaw08.WheelNone'. -/
def wheelNoneCard : Claim7 := { stood := { row := wheelNoneRow, standIns := [], harness := (true, "00993b0e0cfe77a6810e7095eaed6f3a39c9013f397531f148dd6424c4da1d76"), looks := false }, kinds := [], alts := [], laidByText := true, laidKinds := [.data], laidTests := true, laidLooks := .later }
def WheelNoneCardSaid : Prop := Claim7.holds Tryd.pinned (.plain (OpenSpec.ofChange wheelNoneSpec)) wheelNoneCard

/-- THE SECOND FORM's CARD OF 'vergelaw08.WheelNext'. -/
def wheelNextUptoCard : Claim7 := { stood := { row := wheelNextUptoRow, standIns := [], harness := (true, "00993b0e0cfe77a6810e7095eaed6f3a39c9013f397531f148dd6424c4da1d76"), looks := false }, kinds := [], alts := [], laidByText := true, laidKinds := [.data], laidTests := true, laidLooks := .later }
def WheelNextUptoCardSaid : Prop := Claim7.holds Tryd.pinned (.plain (OpenSpec.upto wheelNextSpec)) wheelNextUptoCard

/-- THE SECOND FORM's CARD OF 'vergelaw08.WheelActs'. -/
def wheelActsUptoCard : Claim7 := { stood := { row := wheelActsUptoRow, standIns := [], harness := (true, "00993b0e0cfe77a6810e7095eaed6f3a39c9013f397531f148dd6424c4da1d76"), looks := false }, kinds := [], alts := [], laidByText := true, laidKinds := [.data], laidTests := true, laidLooks := .later }
def WheelActsUptoCardSaid : Prop := Claim7.holds Tryd.pinned (.plain (OpenSpec.upto wheelActsSpec)) wheelActsUptoCard

/-- THE SECOND FORM's CARD OF 'vergelaw08.WheelNone'. -/
def wheelNoneUptoCard : Claim7 := { stood := { row := wheelNoneUptoRow, standIns := [], harness := (true, "00993b0e0cfe77a6810e7095eaed6f3a39c9013f397531f148dd6424c4da1d76"), looks := false }, kinds := [], alts := [], laidByText := true, laidKinds := [.data], laidTests := true, laidLooks := .later }
def WheelNoneUptoCardSaid : Prop := Claim7.holds Tryd.pinned (.plain (OpenSpec.upto wheelNoneSpec)) wheelNoneUptoCard
end Rows
end Go.Proofs.YthinhbaklcijmaaDoor
