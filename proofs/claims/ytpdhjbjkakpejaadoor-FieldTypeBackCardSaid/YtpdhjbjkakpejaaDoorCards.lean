/-
  DERIVED. GIVEN WITH THE SEED: THE CARDS: each row of YtpdhjbjkakpejaaDoorRows.lean that lists a variable, with what it lists TIED to the program's text (the seventh form; the later family's looks); each row that meets fmt, with fmt's text TOLD by the authors' own Lean function (tested against real Go, not proved from fmt's source: count such statements apart). THE CARD IS WHAT COUNTS. Prove the row's statement (the work); the ties are given (YtpdhjbjkakpejaaDoorTie.lean); close each card by the builder's one call (the guide's Derived/Test/ToyasCard.lean, 'card_holds'). Laid BY PROGRAM, IN A SANDBOX (cutbox-door.mjs). By AI agents, Wed Nov 11 2026. No macro, syntax, notation, axiom, sorry.
-/
import Derived.Test.YtpdhjbjkakpejaaDoorRows
import GoSem.ClaimSeven
namespace Go.Proofs.YtpdhjbjkakpejaaDoor
namespace Rows

/-- THE TIED CARD OF 'watchbilllaw07.FieldBack'. -/
def fieldBackCard : Claim7 := { stood := { row := fieldBackRow, standIns := [], harness := (true, "781b9bafd26d1fde0a6dc082ad489874a55d2ded37357a7d5e76fe36cb07e516"), looks := false }, kinds := [], alts := [], laidByText := true, laidKinds := [.data, .pinned], laidTests := true, laidLooks := .later }
def FieldBackCardSaid : Prop := Claim7.holds Tryd.pinned (.plain (OpenSpec.ofChange fieldBackSpec)) fieldBackCard

/-- THE TIED CARD OF 'watchbilllaw07.FieldFolds'. -/
def fieldFoldsCard : Claim7 := { stood := { row := fieldFoldsRow, standIns := [], harness := (true, "781b9bafd26d1fde0a6dc082ad489874a55d2ded37357a7d5e76fe36cb07e516"), looks := false }, kinds := [], alts := [], laidByText := true, laidKinds := [.data, .pinned], laidTests := true, laidLooks := .later }
def FieldFoldsCardSaid : Prop := Claim7.holds Tryd.pinned (.plain (OpenSpec.ofChange fieldFoldsSpec)) fieldFoldsCard

/-- THE TIED CARD OF 'watchbilllaw07.FieldPrints'. -/
def fieldPrintsCard : Claim7 := { stood := { row := fieldPrintsRow, standIns := [], harness := (true, "781b9bafd26d1fde0a6dc082ad489874a55d2ded37357a7d5e76fe36cb07e516"), looks := false }, kinds := [], alts := [], laidByText := true, laidKinds := [.data, .pinned], laidTests := true, laidLooks := .later }
def FieldPrintsCardSaid : Prop := Claim7.holds Tryd.pinned (.plain (OpenSpec.ofChange fieldPrintsSpec)) fieldPrintsCard

/-- THE TIED CARD OF 'watchbilllaw07.FieldTypes'. -/
def fieldTypesCard : Claim7 := { stood := { row := fieldTypesRow, standIns := [], harness := (true, "781b9bafd26d1fde0a6dc082ad489874a55d2ded37357a7d5e76fe36cb07e516"), looks := false }, kinds := [], alts := [], laidByText := true, laidKinds := [.data, .pinned], laidTests := true, laidLooks := .later }
def FieldTypesCardSaid : Prop := Claim7.holds Tryd.pinned (.plain (OpenSpec.ofChange fieldTypesSpec)) fieldTypesCard

/-- THE TIED CARD OF 'watchbilllaw07.FieldTypeBack'. -/
def fieldTypeBackCard : Claim7 := { stood := { row := fieldTypeBackRow, standIns := [], harness := (true, "781b9bafd26d1fde0a6dc082ad489874a55d2ded37357a7d5e76fe36cb07e516"), looks := false }, kinds := [], alts := [], laidByText := true, laidKinds := [.data, .pinned], laidTests := true, laidLooks := .later }
def FieldTypeBackCardSaid : Prop := Claim7.holds Tryd.pinned (.plain (OpenSpec.ofChange fieldTypeBackSpec)) fieldTypeBackCard

/-- THE SECOND FORM's CARD OF 'watchbilllaw07.FieldBack'. -/
def fieldBackUptoCard : Claim7 := { stood := { row := fieldBackUptoRow, standIns := [], harness := (true, "781b9bafd26d1fde0a6dc082ad489874a55d2ded37357a7d5e76fe36cb07e516"), looks := false }, kinds := [], alts := [], laidByText := true, laidKinds := [.data, .pinned], laidTests := true, laidLooks := .later }
def FieldBackUptoCardSaid : Prop := Claim7.holds Tryd.pinned (.plain (OpenSpec.upto fieldBackSpec)) fieldBackUptoCard

/-- THE SECOND FORM's CARD OF 'watchbilllaw07.FieldFolds'. -/
def fieldFoldsUptoCard : Claim7 := { stood := { row := fieldFoldsUptoRow, standIns := [], harness := (true, "781b9bafd26d1fde0a6dc082ad489874a55d2ded37357a7d5e76fe36cb07e516"), looks := false }, kinds := [], alts := [], laidByText := true, laidKinds := [.data, .pinned], laidTests := true, laidLooks := .later }
def FieldFoldsUptoCardSaid : Prop := Claim7.holds Tryd.pinned (.plain (OpenSpec.upto fieldFoldsSpec)) fieldFoldsUptoCard

/-- THE SECOND FORM's CARD OF 'watchbilllaw07.FieldPrints'. -/
def fieldPrintsUptoCard : Claim7 := { stood := { row := fieldPrintsUptoRow, standIns := [], harness := (true, "781b9bafd26d1fde0a6dc082ad489874a55d2ded37357a7d5e76fe36cb07e516"), looks := false }, kinds := [], alts := [], laidByText := true, laidKinds := [.data, .pinned], laidTests := true, laidLooks := .later }
def FieldPrintsUptoCardSaid : Prop := Claim7.holds Tryd.pinned (.plain (OpenSpec.upto fieldPrintsSpec)) fieldPrintsUptoCard

/-- THE SECOND FORM's CARD OF 'watchbilllaw07.FieldTypes'. -/
def fieldTypesUptoCard : Claim7 := { stood := { row := fieldTypesUptoRow, standIns := [], harness := (true, "781b9bafd26d1fde0a6dc082ad489874a55d2ded37357a7d5e76fe36cb07e516"), looks := false }, kinds := [], alts := [], laidByText := true, laidKinds := [.data, .pinned], laidTests := true, laidLooks := .later }
def FieldTypesUptoCardSaid : Prop := Claim7.holds Tryd.pinned (.plain (OpenSpec.upto fieldTypesSpec)) fieldTypesUptoCard

/-- THE SECOND FORM's CARD OF 'watchbilllaw07.FieldTypeBack'. -/
def fieldTypeBackUptoCard : Claim7 := { stood := { row := fieldTypeBackUptoRow, standIns := [], harness := (true, "781b9bafd26d1fde0a6dc082ad489874a55d2ded37357a7d5e76fe36cb07e516"), looks := false }, kinds := [], alts := [], laidByText := true, laidKinds := [.data, .pinned], laidTests := true, laidLooks := .later }
def FieldTypeBackUptoCardSaid : Prop := Claim7.holds Tryd.pinned (.plain (OpenSpec.upto fieldTypeBackSpec)) fieldTypeBackUptoCard
end Rows
end Go.Proofs.YtpdhjbjkakpejaaDoor
