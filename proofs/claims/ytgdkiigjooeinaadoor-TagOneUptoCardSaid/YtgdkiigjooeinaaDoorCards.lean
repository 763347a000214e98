/-
  DERIVED. GIVEN WITH THE SEED: THE CARDS: each row of YtgdkiigjooeinaaDoorRows.lean that lists a variable, with what it lists TIED to the program's text (the seventh form; the later family's looks); each row that meets fmt, with fmt's text TOLD by the authors' own Lean function (tested against real Go, not proved from fmt's source: count such statements apart). THE CARD IS WHAT COUNTS. Prove the row's statement (the work); the ties are given (YtgdkiigjooeinaaDoorTie.lean); close each card by the builder's one call (the guide's Derived/Test/ToyasCard.lean, 'card_holds'). Laid BY PROGRAM, IN A SANDBOX (cutbox-door.mjs). By AI agents, Wed Nov 11 2026. No macro, syntax, notation, axiom, sorry.
-/
import Derived.Test.YtgdkiigjooeinaaDoorRows
import GoSem.ClaimSeven
namespace Go.Proofs.YtgdkiigjooeinaaDoor
namespace Rows

/-- THE TIED CARD OF 'watchbilllaw14.TagParses'. -/
def tagParsesCard : Claim7 := { stood := { row := tagParsesRow, standIns := [], harness := (true, "84914f3fb2a780cd808b65892da6450d55c52d2a6a965270480d9365ab951f19"), looks := false }, kinds := [], alts := [], laidByText := true, laidKinds := [.data, .data, .data, .data, .pinned], laidTests := true, laidLooks := .later }
def TagParsesCardSaid : Prop := Claim7.holds Tryd.pinned (.plain (OpenSpec.ofChange tagParsesSpec)) tagParsesCard

/-- THE TIED CARD OF 'watchbilllaw14.TagChecks'. -/
def tagChecksCard : Claim7 := { stood := { row := tagChecksRow, standIns := [], harness := (true, "84914f3fb2a780cd808b65892da6450d55c52d2a6a965270480d9365ab951f19"), looks := false }, kinds := [], alts := [], laidByText := true, laidKinds := [.data, .data, .data, .data, .pinned], laidTests := true, laidLooks := .later }
def TagChecksCardSaid : Prop := Claim7.holds Tryd.pinned (.plain (OpenSpec.ofChange tagChecksSpec)) tagChecksCard

/-- THE TIED CARD OF 'watchbilllaw14.TagOne'. -/
def tagOneCard : Claim7 := { stood := { row := tagOneRow, standIns := [], harness := (true, "84914f3fb2a780cd808b65892da6450d55c52d2a6a965270480d9365ab951f19"), looks := false }, kinds := [], alts := [], laidByText := true, laidKinds := [.data, .data, .data, .data, .pinned], laidTests := true, laidLooks := .later }
def TagOneCardSaid : Prop := Claim7.holds Tryd.pinned (.plain (OpenSpec.ofChange tagOneSpec)) tagOneCard

/-- THE TIED CARD OF 'watchbilllaw14.TagBoth'. -/
def tagBothCard : Claim7 := { stood := { row := tagBothRow, standIns := [], harness := (true, "84914f3fb2a780cd808b65892da6450d55c52d2a6a965270480d9365ab951f19"), looks := false }, kinds := [], alts := [], laidByText := true, laidKinds := [.data, .data, .data, .data, .pinned], laidTests := true, laidLooks := .later }
def TagBothCardSaid : Prop := Claim7.holds Tryd.pinned (.plain (OpenSpec.ofChange tagBothSpec)) tagBothCard

/-- THE SECOND FORM's CARD OF 'watchbilllaw14.TagParses'. -/
def tagParsesUptoCard : Claim7 := { stood := { row := tagParsesUptoRow, standIns := [], harness := (true, "84914f3fb2a780cd808b65892da6450d55c52d2a6a965270480d9365ab951f19"), looks := false }, kinds := [], alts := [], laidByText := true, laidKinds := [.data, .data, .data, .data, .pinned], laidTests := true, laidLooks := .later }
def TagParsesUptoCardSaid : Prop := Claim7.holds Tryd.pinned (.plain (OpenSpec.upto tagParsesSpec)) tagParsesUptoCard

/-- THE SECOND FORM's CARD OF 'watchbilllaw14.TagChecks'. -/
def tagChecksUptoCard : Claim7 := { stood := { row := tagChecksUptoRow, standIns := [], harness := (true, "84914f3fb2a780cd808b65892da6450d55c52d2a6a965270480d9365ab951f19"), looks := false }, kinds := [], alts := [], laidByText := true, laidKinds := [.data, .data, .data, .data, .pinned], laidTests := true, laidLooks := .later }
def TagChecksUptoCardSaid : Prop := Claim7.holds Tryd.pinned (.plain (OpenSpec.upto tagChecksSpec)) tagChecksUptoCard

/-- THE SECOND FORM's CARD OF 'watchbilllaw14.TagOne'. -/
def tagOneUptoCard : Claim7 := { stood := { row := tagOneUptoRow, standIns := [], harness := (true, "84914f3fb2a780cd808b65892da6450d55c52d2a6a965270480d9365ab951f19"), looks := false }, kinds := [], alts := [], laidByText := true, laidKinds := [.data, .data, .data, .data, .pinned], laidTests := true, laidLooks := .later }
def TagOneUptoCardSaid : Prop := Claim7.holds Tryd.pinned (.plain (OpenSpec.upto tagOneSpec)) tagOneUptoCard

/-- THE SECOND FORM's CARD OF 'watchbilllaw14.TagBoth'. -/
def tagBothUptoCard : Claim7 := { stood := { row := tagBothUptoRow, standIns := [], harness := (true, "84914f3fb2a780cd808b65892da6450d55c52d2a6a965270480d9365ab951f19"), looks := false }, kinds := [], alts := [], laidByText := true, laidKinds := [.data, .data, .data, .data, .pinned], laidTests := true, laidLooks := .later }
def TagBothUptoCardSaid : Prop := Claim7.holds Tryd.pinned (.plain (OpenSpec.upto tagBothSpec)) tagBothUptoCard
end Rows
end Go.Proofs.YtgdkiigjooeinaaDoor
