/-
  DERIVED. GIVEN WITH THE SEED: THE CARDS: each row of YtccgkcejfpbdpaaDoorRows.lean that lists a variable, with what it lists TIED to the program's text (the seventh form; the later family's looks); each row that meets fmt, with fmt's text TOLD by the authors' own Lean function (tested against real Go, not proved from fmt's source: count such statements apart). THE CARD IS WHAT COUNTS. Prove the row's statement (the work); the ties are given (YtccgkcejfpbdpaaDoorTie.lean); close each card by the builder's one call (the guide's Derived/Test/ToyasCard.lean, 'card_holds'). Laid BY PROGRAM, IN A SANDBOX (cutbox-door.mjs). By AI agents, Wed Nov 11 2026. No macro, syntax, notation, axiom, sorry.
-/
import Derived.Test.YtccgkcejfpbdpaaDoorRows
import GoSem.ClaimSeven
namespace Go.Proofs.YtccgkcejfpbdpaaDoor
namespace Rows

/-- THE TIED CARD OF 'watchbilllaw08.PartPrints'. -/
def partPrintsCard : Claim7 := { stood := { row := partPrintsRow, standIns := [], harness := (true, "2471bd3bc91eb9d78094cfb1873ef38d1aaa24caea8ee2260600105b6aa42c34"), looks := false }, kinds := [], alts := [], laidByText := true, laidKinds := [.data, .data, .data, .data, .pinned], laidTests := true, laidLooks := .later }
def PartPrintsCardSaid : Prop := Claim7.holds Tryd.pinned (.plain (OpenSpec.ofChange partPrintsSpec)) partPrintsCard

/-- THE TIED CARD OF 'watchbilllaw08.PartParses'. -/
def partParsesCard : Claim7 := { stood := { row := partParsesRow, standIns := [], harness := (true, "2471bd3bc91eb9d78094cfb1873ef38d1aaa24caea8ee2260600105b6aa42c34"), looks := false }, kinds := [], alts := [], laidByText := true, laidKinds := [.data, .data, .data, .data, .pinned], laidTests := true, laidLooks := .later }
def PartParsesCardSaid : Prop := Claim7.holds Tryd.pinned (.plain (OpenSpec.ofChange partParsesSpec)) partParsesCard

/-- THE TIED CARD OF 'watchbilllaw08.PartCuts'. -/
def partCutsCard : Claim7 := { stood := { row := partCutsRow, standIns := [], harness := (true, "2471bd3bc91eb9d78094cfb1873ef38d1aaa24caea8ee2260600105b6aa42c34"), looks := false }, kinds := [], alts := [], laidByText := true, laidKinds := [.data, .data, .data, .data, .pinned], laidTests := true, laidLooks := .later }
def PartCutsCardSaid : Prop := Claim7.holds Tryd.pinned (.plain (OpenSpec.ofChange partCutsSpec)) partCutsCard

/-- THE TIED CARD OF 'watchbilllaw08.PartChooses'. -/
def partChoosesCard : Claim7 := { stood := { row := partChoosesRow, standIns := [], harness := (true, "2471bd3bc91eb9d78094cfb1873ef38d1aaa24caea8ee2260600105b6aa42c34"), looks := false }, kinds := [], alts := [], laidByText := true, laidKinds := [.data, .data, .data, .data, .pinned], laidTests := true, laidLooks := .later }
def PartChoosesCardSaid : Prop := Claim7.holds Tryd.pinned (.plain (OpenSpec.ofChange partChoosesSpec)) partChoosesCard

/-- THE SECOND FORM's CARD OF 'watchbilllaw08.PartPrints'. -/
def partPrintsUptoCard : Claim7 := { stood := { row := partPrintsUptoRow, standIns := [], harness := (true, "2471bd3bc91eb9d78094cfb1873ef38d1aaa24caea8ee2260600105b6aa42c34"), looks := false }, kinds := [], alts := [], laidByText := true, laidKinds := [.data, .data, .data, .data, .pinned], laidTests := true, laidLooks := .later }
def PartPrintsUptoCardSaid : Prop := Claim7.holds Tryd.pinned (.plain (OpenSpec.upto partPrintsSpec)) partPrintsUptoCard

/-- THE SECOND FORM's CARD OF 'watchbilllaw08.PartParses'. -/
def partParsesUptoCard : Claim7 := { stood := { row := partParsesUptoRow, standIns := [], harness := (true, "2471bd3bc91eb9d78094cfb1873ef38d1aaa24caea8ee2260600105b6aa42c34"), looks := false }, kinds := [], alts := [], laidByText := true, laidKinds := [.data, .data, .data, .data, .pinned], laidTests := true, laidLooks := .later }
def PartParsesUptoCardSaid : Prop := Claim7.holds Tryd.pinned (.plain (OpenSpec.upto partParsesSpec)) partParsesUptoCard

/-- THE SECOND FORM's CARD OF 'watchbilllaw08.PartCuts'. -/
def partCutsUptoCard : Claim7 := { stood := { row := partCutsUptoRow, standIns := [], harness := (true, "2471bd3bc91eb9d78094cfb1873ef38d1aaa24caea8ee2260600105b6aa42c34"), looks := false }, kinds := [], alts := [], laidByText := true, laidKinds := [.data, .data, .data, .data, .pinned], laidTests := true, laidLooks := .later }
def PartCutsUptoCardSaid : Prop := Claim7.holds Tryd.pinned (.plain (OpenSpec.upto partCutsSpec)) partCutsUptoCard

/-- THE SECOND FORM's CARD OF 'watchbilllaw08.PartChooses'. -/
def partChoosesUptoCard : Claim7 := { stood := { row := partChoosesUptoRow, standIns := [], harness := (true, "2471bd3bc91eb9d78094cfb1873ef38d1aaa24caea8ee2260600105b6aa42c34"), looks := false }, kinds := [], alts := [], laidByText := true, laidKinds := [.data, .data, .data, .data, .pinned], laidTests := true, laidLooks := .later }
def PartChoosesUptoCardSaid : Prop := Claim7.holds Tryd.pinned (.plain (OpenSpec.upto partChoosesSpec)) partChoosesUptoCard
end Rows
end Go.Proofs.YtccgkcejfpbdpaaDoor
