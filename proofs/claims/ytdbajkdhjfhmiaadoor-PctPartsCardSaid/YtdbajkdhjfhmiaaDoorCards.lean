/-
  DERIVED. GIVEN WITH THE SEED: THE CARDS: each row of YtdbajkdhjfhmiaaDoorRows.lean that lists a variable, with what it lists TIED to the program's text (the seventh form; the later family's looks); each row that meets fmt, with fmt's text TOLD by the authors' own Lean function (tested against real Go, not proved from fmt's source: count such statements apart). THE CARD IS WHAT COUNTS. Prove the row's statement (the work); the ties are given (YtdbajkdhjfhmiaaDoorTie.lean); close each card by the builder's one call (the guide's Derived/Test/ToyasCard.lean, 'card_holds'). Laid BY PROGRAM, IN A SANDBOX (cutbox-door.mjs). By AI agents, Wed Nov 11 2026. No macro, syntax, notation, axiom, sorry.
-/
import Derived.Test.YtdbajkdhjfhmiaaDoorRows
import GoSem.ClaimSeven
namespace Go.Proofs.YtdbajkdhjfhmiaaDoor
namespace Rows

/-- THE TIED CARD OF 'watchbilllaw09.PctEncodes'. -/
def pctEncodesCard : Claim7 := { stood := { row := pctEncodesRow, standIns := [], harness := (true, "b55e26fceb5ba16a3233a67e4eb4aef34a5910381bd688555da8a7889c9ac0a1"), looks := false }, kinds := [], alts := [], laidByText := true, laidKinds := [.data, .pinned], laidTests := true, laidLooks := .later }
def PctEncodesCardSaid : Prop := Claim7.holds Tryd.pinned (.plain (OpenSpec.ofChange pctEncodesSpec)) pctEncodesCard

/-- THE TIED CARD OF 'watchbilllaw09.PctBack'. -/
def pctBackCard : Claim7 := { stood := { row := pctBackRow, standIns := [], harness := (true, "b55e26fceb5ba16a3233a67e4eb4aef34a5910381bd688555da8a7889c9ac0a1"), looks := false }, kinds := [], alts := [], laidByText := true, laidKinds := [.data, .pinned], laidTests := true, laidLooks := .later }
def PctBackCardSaid : Prop := Claim7.holds Tryd.pinned (.plain (OpenSpec.ofChange pctBackSpec)) pctBackCard

/-- THE TIED CARD OF 'watchbilllaw09.PctPieces'. -/
def pctPiecesCard : Claim7 := { stood := { row := pctPiecesRow, standIns := [], harness := (true, "b55e26fceb5ba16a3233a67e4eb4aef34a5910381bd688555da8a7889c9ac0a1"), looks := false }, kinds := [], alts := [], laidByText := true, laidKinds := [.data, .pinned], laidTests := true, laidLooks := .later }
def PctPiecesCardSaid : Prop := Claim7.holds Tryd.pinned (.plain (OpenSpec.ofChange pctPiecesSpec)) pctPiecesCard

/-- THE TIED CARD OF 'watchbilllaw09.PctParts'. -/
def pctPartsCard : Claim7 := { stood := { row := pctPartsRow, standIns := [], harness := (true, "b55e26fceb5ba16a3233a67e4eb4aef34a5910381bd688555da8a7889c9ac0a1"), looks := false }, kinds := [], alts := [], laidByText := true, laidKinds := [.data, .pinned], laidTests := true, laidLooks := .later }
def PctPartsCardSaid : Prop := Claim7.holds Tryd.pinned (.plain (OpenSpec.ofChange pctPartsSpec)) pctPartsCard

/-- THE SECOND FORM's CARD OF 'watchbilllaw09.PctEncodes'. -/
def pctEncodesUptoCard : Claim7 := { stood := { row := pctEncodesUptoRow, standIns := [], harness := (true, "b55e26fceb5ba16a3233a67e4eb4aef34a5910381bd688555da8a7889c9ac0a1"), looks := false }, kinds := [], alts := [], laidByText := true, laidKinds := [.data, .pinned], laidTests := true, laidLooks := .later }
def PctEncodesUptoCardSaid : Prop := Claim7.holds Tryd.pinned (.plain (OpenSpec.upto pctEncodesSpec)) pctEncodesUptoCard

/-- THE SECOND FORM's CARD OF 'watchbilllaw09.PctBack'. -/
def pctBackUptoCard : Claim7 := { stood := { row := pctBackUptoRow, standIns := [], harness := (true, "b55e26fceb5ba16a3233a67e4eb4aef34a5910381bd688555da8a7889c9ac0a1"), looks := false }, kinds := [], alts := [], laidByText := true, laidKinds := [.data, .pinned], laidTests := true, laidLooks := .later }
def PctBackUptoCardSaid : Prop := Claim7.holds Tryd.pinned (.plain (OpenSpec.upto pctBackSpec)) pctBackUptoCard

/-- THE SECOND FORM's CARD OF 'watchbilllaw09.PctPieces'. -/
def pctPiecesUptoCard : Claim7 := { stood := { row := pctPiecesUptoRow, standIns := [], harness := (true, "b55e26fceb5ba16a3233a67e4eb4aef34a5910381bd688555da8a7889c9ac0a1"), looks := false }, kinds := [], alts := [], laidByText := true, laidKinds := [.data, .pinned], laidTests := true, laidLooks := .later }
def PctPiecesUptoCardSaid : Prop := Claim7.holds Tryd.pinned (.plain (OpenSpec.upto pctPiecesSpec)) pctPiecesUptoCard

/-- THE SECOND FORM's CARD OF 'watchbilllaw09.PctParts'. -/
def pctPartsUptoCard : Claim7 := { stood := { row := pctPartsUptoRow, standIns := [], harness := (true, "b55e26fceb5ba16a3233a67e4eb4aef34a5910381bd688555da8a7889c9ac0a1"), looks := false }, kinds := [], alts := [], laidByText := true, laidKinds := [.data, .pinned], laidTests := true, laidLooks := .later }
def PctPartsUptoCardSaid : Prop := Claim7.holds Tryd.pinned (.plain (OpenSpec.upto pctPartsSpec)) pctPartsUptoCard
end Rows
end Go.Proofs.YtdbajkdhjfhmiaaDoor
