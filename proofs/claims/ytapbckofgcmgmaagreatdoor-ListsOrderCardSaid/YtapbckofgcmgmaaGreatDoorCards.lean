/-
  DERIVED. GIVEN WITH THE SEED: THE CARDS: each row of YtapbckofgcmgmaaGreatDoorRows.lean that lists a variable, with what it lists TIED to the program's text (the seventh form; the later family's looks); each row that meets fmt, with fmt's text TOLD by the authors' own Lean function (tested against real Go, not proved from fmt's source: count such statements apart). THE CARD IS WHAT COUNTS. Prove the row's statement (the work); the ties are given (YtapbckofgcmgmaaGreatDoorTie.lean); close each card by the builder's one call (the guide's Derived/Test/ToyasCard.lean, 'card_holds'). Laid BY PROGRAM, IN A SANDBOX (cutbox-door.mjs). By AI agents, Wed Nov 11 2026. No macro, syntax, notation, axiom, sorry.
-/
import Derived.Test.YtapbckofgcmgmaaGreatDoorRows
import GoSem.ClaimSeven
namespace Go.Proofs.YtapbckofgcmgmaaGreatDoor
namespace Rows

/-- THE TIED CARD OF 'watchbilllaw16.ListsBack'. -/
def listsBackCard : Claim7 := { stood := { row := listsBackRow, standIns := [], harness := (true, "5d9cfbc3f3199f7bcd235adabfdc9386f9d6601c383fce95376852cecc9a37e0"), looks := true }, kinds := [], alts := [], laidByText := true, laidKinds := [.data, .pinned], laidTests := true, laidLooks := .later }
def ListsBackCardSaid : Prop := Claim7.holds Tryz.pinned (.plain (OpenSpec.ofChange listsBackSpec)) listsBackCard

/-- THE TIED CARD OF 'watchbilllaw16.ListsForeign'. -/
def listsForeignCard : Claim7 := { stood := { row := listsForeignRow, standIns := [], harness := (true, "5d9cfbc3f3199f7bcd235adabfdc9386f9d6601c383fce95376852cecc9a37e0"), looks := true }, kinds := [], alts := [], laidByText := true, laidKinds := [.data, .pinned], laidTests := true, laidLooks := .later }
def ListsForeignCardSaid : Prop := Claim7.holds Tryz.pinned (.plain (OpenSpec.ofChange listsForeignSpec)) listsForeignCard

/-- THE TIED CARD OF 'watchbilllaw16.ListsOrder'. -/
def listsOrderCard : Claim7 := { stood := { row := listsOrderRow, standIns := [], harness := (true, "5d9cfbc3f3199f7bcd235adabfdc9386f9d6601c383fce95376852cecc9a37e0"), looks := true }, kinds := [], alts := [], laidByText := true, laidKinds := [.data, .pinned], laidTests := true, laidLooks := .later }
def ListsOrderCardSaid : Prop := Claim7.holds Tryz.pinned (.plain (OpenSpec.ofChange listsOrderSpec)) listsOrderCard

/-- THE TIED CARD OF 'watchbilllaw16.ListsEncode'. -/
def listsEncodeCard : Claim7 := { stood := { row := listsEncodeRow, standIns := [], harness := (true, "5d9cfbc3f3199f7bcd235adabfdc9386f9d6601c383fce95376852cecc9a37e0"), looks := true }, kinds := [], alts := [], laidByText := true, laidKinds := [.data, .pinned], laidTests := true, laidLooks := .later }
def ListsEncodeCardSaid : Prop := Claim7.holds Tryz.pinned (.plain (OpenSpec.ofChange listsEncodeSpec)) listsEncodeCard

/-- THE SECOND FORM's CARD OF 'watchbilllaw16.ListsBack'. -/
def listsBackUptoCard : Claim7 := { stood := { row := listsBackUptoRow, standIns := [], harness := (true, "5d9cfbc3f3199f7bcd235adabfdc9386f9d6601c383fce95376852cecc9a37e0"), looks := true }, kinds := [], alts := [], laidByText := true, laidKinds := [.data, .pinned], laidTests := true, laidLooks := .later }
def ListsBackUptoCardSaid : Prop := Claim7.holds Tryz.pinned (.plain (OpenSpec.upto listsBackSpec)) listsBackUptoCard

/-- THE SECOND FORM's CARD OF 'watchbilllaw16.ListsForeign'. -/
def listsForeignUptoCard : Claim7 := { stood := { row := listsForeignUptoRow, standIns := [], harness := (true, "5d9cfbc3f3199f7bcd235adabfdc9386f9d6601c383fce95376852cecc9a37e0"), looks := true }, kinds := [], alts := [], laidByText := true, laidKinds := [.data, .pinned], laidTests := true, laidLooks := .later }
def ListsForeignUptoCardSaid : Prop := Claim7.holds Tryz.pinned (.plain (OpenSpec.upto listsForeignSpec)) listsForeignUptoCard

/-- THE SECOND FORM's CARD OF 'watchbilllaw16.ListsOrder'. -/
def listsOrderUptoCard : Claim7 := { stood := { row := listsOrderUptoRow, standIns := [], harness := (true, "5d9cfbc3f3199f7bcd235adabfdc9386f9d6601c383fce95376852cecc9a37e0"), looks := true }, kinds := [], alts := [], laidByText := true, laidKinds := [.data, .pinned], laidTests := true, laidLooks := .later }
def ListsOrderUptoCardSaid : Prop := Claim7.holds Tryz.pinned (.plain (OpenSpec.upto listsOrderSpec)) listsOrderUptoCard

/-- THE SECOND FORM's CARD OF 'watchbilllaw16.ListsEncode'. -/
def listsEncodeUptoCard : Claim7 := { stood := { row := listsEncodeUptoRow, standIns := [], harness := (true, "5d9cfbc3f3199f7bcd235adabfdc9386f9d6601c383fce95376852cecc9a37e0"), looks := true }, kinds := [], alts := [], laidByText := true, laidKinds := [.data, .pinned], laidTests := true, laidLooks := .later }
def ListsEncodeUptoCardSaid : Prop := Claim7.holds Tryz.pinned (.plain (OpenSpec.upto listsEncodeSpec)) listsEncodeUptoCard
end Rows
end Go.Proofs.YtapbckofgcmgmaaGreatDoor
