/-
  NARROWER THAN 'FOR EVERY INPUT', by the rows' own cells (each row's printed sentence says how): PctEncodes: laid · PctBack: laid · PctPieces: laid · PctParts: laid.
  DERIVED. THE GIVEN ROWS OF THIS SEAT. 4 by the template 'for every input the law returns true; each argument reads behind the call as it read before'; 0 by the template 'total and deterministic' (their statements: YtdbajkdhjfhmiaaDoorTotals.lean).
  GIVEN WITH THE SEED: the statements are not yours to turn. If you find one false, say at which input.
  Laid BY PROGRAM, IN A SANDBOX (cutbox-rows.mjs): the forced cells as the released guide's own fill.sh prints them over the translation 0923633f12a4dc03… (all of the seat's roots in one cut). By AI agents, Wed Nov 11 2026. No macro, syntax, notation, axiom, sorry.
-/
import Derived.Test.YtdbajkdhjfhmiaaDoorChecked
import GoSem.PinnedTables
import GoSem.Claim
import GoSem.ClaimJoined
import GoSem.ClaimMapViews
import Derived.JoinedTies
import Derived.KernelRfl
namespace Go.Proofs.YtdbajkdhjfhmiaaDoor
/- THE CELL 'sum', in the pinned program and in every row, IS THE sha256 OF THE DUMP (.gsa) THAT YtdbajkdhjfhmiaaDoorProg.lean LOADS. Nothing in Lean hashes anything: it is a label: what it is worth is what the hold of that sum in a sandbox is worth. -/
noncomputable def Tryd.pinned : Pinned := { name := "ytdbajkdhjfhmiaadoor", sum := "0923633f12a4dc039434fb662a335dc93e5fa911186be2c15218d6f2eecb13b6", checked := Tryd.checked }
namespace Rows
def none {H : Type} : Left H := { results := [], args := [] }

/- WHAT THE LISTED PACKAGE-LEVEL VARIABLES READ AS WHEN THE CALL BEGINS. Each datum BY PROGRAM (the guide's laid-datum.mjs) off the statement by which the dump's own 'gosem.cut.vars' lays the variable. In a bare row this is a premise. The card (YtdbajkdhjfhmiaaDoorCards.lean) ties it to the program's text. -/
def laid_unicode_utf8_acceptRanges {H : Type} : DataW H := .agg [.agg [.lit (.int .u8 128), .lit (.int .u8 191)], .agg [.lit (.int .u8 160), .lit (.int .u8 191)], .agg [.lit (.int .u8 128), .lit (.int .u8 159)], .agg [.lit (.int .u8 144), .lit (.int .u8 191)], .agg [.lit (.int .u8 128), .lit (.int .u8 143)], .agg [.lit (.int .u8 0), .lit (.int .u8 0)], .agg [.lit (.int .u8 0), .lit (.int .u8 0)], .agg [.lit (.int .u8 0), .lit (.int .u8 0)], .agg [.lit (.int .u8 0), .lit (.int .u8 0)], .agg [.lit (.int .u8 0), .lit (.int .u8 0)], .agg [.lit (.int .u8 0), .lit (.int .u8 0)], .agg [.lit (.int .u8 0), .lit (.int .u8 0)], .agg [.lit (.int .u8 0), .lit (.int .u8 0)], .agg [.lit (.int .u8 0), .lit (.int .u8 0)], .agg [.lit (.int .u8 0), .lit (.int .u8 0)], .agg [.lit (.int .u8 0), .lit (.int .u8 0)]]
/-- One of Go's own tables, pinned by name: the form's constant. -/
def laid_unicode_utf8_first : DataW Unit := Go.Pinned.utf8First

/-- 'watchbilllaw09.PctEncodes': WHATEVER THE INPUT: true; the input reads as it did. -/
def pctEncodesSpec : ChangeSpec := { name := "pctEncodes", fn := fun _ => fun
  | [d1, d2] => { results := [.lit (.bool true)], args := [d1, d2] }
  | _ => none }
def pctEncodesRow : OpenClaim := { program := "ytdbajkdhjfhmiaadoor", sum := "0923633f12a4dc039434fb662a335dc93e5fa911186be2c15218d6f2eecb13b6", func := "watchbill/watchbilllaw09.PctEncodes", spec := "pctEncodes", inPlace := ["internal/bytealg.IndexByteString", "internal/abi.NoEscape", "internal/bytealg.CountString", "internal/bytealg.IndexString"], named := ["unicode/utf8.first", "unicode/utf8.acceptRanges", "internal/bytealg.MaxLen"], apart := false, laid := [("unicode/utf8.acceptRanges", laid_unicode_utf8_acceptRanges), ("unicode/utf8.first", laid_unicode_utf8_first)] }
def PctEncodesSaid : Prop := pctEncodesRow.holds Tryd.pinned (OpenSpec.ofChange pctEncodesSpec)

/-- ITS FALSE NEIGHBOUR: 'it returns false'. Refute it at one input. -/
def pctEncodesWrong : ChangeSpec := { name := "pctEncodes", fn := fun _ => fun
  | [d1, d2] => { results := [.lit (.bool false)], args := [d1, d2] }
  | _ => none }
def PctEncodesWrongFalsely : Prop := pctEncodesRow.holds Tryd.pinned (OpenSpec.ofChange pctEncodesWrong)

/-- 'watchbilllaw09.PctBack': WHATEVER THE INPUT: true; the input reads as it did. -/
def pctBackSpec : ChangeSpec := { name := "pctBack", fn := fun _ => fun
  | [d1, d2] => { results := [.lit (.bool true)], args := [d1, d2] }
  | _ => none }
def pctBackRow : OpenClaim := { program := "ytdbajkdhjfhmiaadoor", sum := "0923633f12a4dc039434fb662a335dc93e5fa911186be2c15218d6f2eecb13b6", func := "watchbill/watchbilllaw09.PctBack", spec := "pctBack", inPlace := ["internal/bytealg.IndexByteString", "internal/abi.NoEscape", "internal/bytealg.CountString", "internal/bytealg.IndexString"], named := ["unicode/utf8.first", "unicode/utf8.acceptRanges", "internal/bytealg.MaxLen"], apart := false, laid := [("unicode/utf8.acceptRanges", laid_unicode_utf8_acceptRanges), ("unicode/utf8.first", laid_unicode_utf8_first)] }
def PctBackSaid : Prop := pctBackRow.holds Tryd.pinned (OpenSpec.ofChange pctBackSpec)

/-- ITS FALSE NEIGHBOUR: 'it returns false'. Refute it at one input. -/
def pctBackWrong : ChangeSpec := { name := "pctBack", fn := fun _ => fun
  | [d1, d2] => { results := [.lit (.bool false)], args := [d1, d2] }
  | _ => none }
def PctBackWrongFalsely : Prop := pctBackRow.holds Tryd.pinned (OpenSpec.ofChange pctBackWrong)

/-- 'watchbilllaw09.PctPieces': WHATEVER THE INPUT: true; the input reads as it did. -/
def pctPiecesSpec : ChangeSpec := { name := "pctPieces", fn := fun _ => fun
  | [d1, d2] => { results := [.lit (.bool true)], args := [d1, d2] }
  | _ => none }
def pctPiecesRow : OpenClaim := { program := "ytdbajkdhjfhmiaadoor", sum := "0923633f12a4dc039434fb662a335dc93e5fa911186be2c15218d6f2eecb13b6", func := "watchbill/watchbilllaw09.PctPieces", spec := "pctPieces", inPlace := ["internal/bytealg.IndexByteString", "internal/abi.NoEscape", "internal/bytealg.CountString", "internal/bytealg.IndexString"], named := ["unicode/utf8.first", "unicode/utf8.acceptRanges", "internal/bytealg.MaxLen"], apart := false, laid := [("unicode/utf8.acceptRanges", laid_unicode_utf8_acceptRanges), ("unicode/utf8.first", laid_unicode_utf8_first)] }
def PctPiecesSaid : Prop := pctPiecesRow.holds Tryd.pinned (OpenSpec.ofChange pctPiecesSpec)

/-- ITS FALSE NEIGHBOUR: 'it returns false'. Refute it at one input. -/
def pctPiecesWrong : ChangeSpec := { name := "pctPieces", fn := fun _ => fun
  | [d1, d2] => { results := [.lit (.bool false)], args := [d1, d2] }
  | _ => none }
def PctPiecesWrongFalsely : Prop := pctPiecesRow.holds Tryd.pinned (OpenSpec.ofChange pctPiecesWrong)

/-- 'watchbilllaw09.PctParts': WHATEVER THE INPUT: true; the input reads as it did. -/
def pctPartsSpec : ChangeSpec := { name := "pctParts", fn := fun _ => fun
  | [d1, d2, d3] => { results := [.lit (.bool true)], args := [d1, d2, d3] }
  | _ => none }
def pctPartsRow : OpenClaim := { program := "ytdbajkdhjfhmiaadoor", sum := "0923633f12a4dc039434fb662a335dc93e5fa911186be2c15218d6f2eecb13b6", func := "watchbill/watchbilllaw09.PctParts", spec := "pctParts", inPlace := ["internal/bytealg.IndexByteString", "internal/abi.NoEscape", "internal/bytealg.CountString", "internal/bytealg.IndexString"], named := ["unicode/utf8.first", "unicode/utf8.acceptRanges", "internal/bytealg.MaxLen"], apart := false, laid := [("unicode/utf8.acceptRanges", laid_unicode_utf8_acceptRanges), ("unicode/utf8.first", laid_unicode_utf8_first)] }
def PctPartsSaid : Prop := pctPartsRow.holds Tryd.pinned (OpenSpec.ofChange pctPartsSpec)

/-- ITS FALSE NEIGHBOUR: 'it returns false'. Refute it at one input. -/
def pctPartsWrong : ChangeSpec := { name := "pctParts", fn := fun _ => fun
  | [d1, d2, d3] => { results := [.lit (.bool false)], args := [d1, d2, d3] }
  | _ => none }
def PctPartsWrongFalsely : Prop := pctPartsRow.holds Tryd.pinned (OpenSpec.ofChange pctPartsWrong)

/- THE SECOND FORM. 'bulk': how many values and letters a reading holds, each counted each time it is reached (what is shared counts as often as it is met; a slice's spare places count too). A statement '..UptoSaid' is the law's where the arguments, and the package variables that the reading takes, are together of bulk at most 1048576: NARROWER than '..Said'. Prove '..Said' where nothing that the law and all that it calls make is longer than what came in: it says more and counts as full. Else prove '..UptoSaid'. A law counts once. -/
mutual
def uptoBulk {H : Type} : DataW H → Nat
  | .lit (.string bytes) => bytes.length + 1
  | .lit _ => 1
  | .nil => 1
  | .ptr d => uptoBulk d + 1
  | .slice elems spare => uptoBulkAll elems + uptoBulkAll spare + 1
  | .agg parts => uptoBulkAll parts + 1
  | .iface _ d => uptoBulk d + 1
  | .map entries => uptoBulkEntries entries + 1
  | .held _ => 1
def uptoBulkAll {H : Type} : List (DataW H) → Nat
  | [] => 0
  | d :: r => uptoBulk d + uptoBulkAll r
def uptoBulkEntries {H : Type} : List (Lit × DataW H) → Nat
  | [] => 0
  | x :: r => uptoBulkEntry x + uptoBulkEntries r
def uptoBulkEntry {H : Type} : Lit × DataW H → Nat
  | (.string bytes, d) => bytes.length + uptoBulk d + 1
  | (_, d) => uptoBulk d + 1
 end
def uptoSmall : (H : Type) → List (DataW H) → Bool := fun _ ds => decide (uptoBulkAll ds ≤ 1048576)
def OpenSpec.upto (s : _root_.Go.ChangeSpec) : _root_.Go.OpenSpec := { _root_.Go.OpenSpec.ofChange s with cond := some uptoSmall }

/-- 'watchbilllaw09.PctEncodes', WHERE WHAT IT READS IS OF BULK AT MOST 1048576: true; the input reads as it did. -/
def pctEncodesUptoRow : OpenClaim := { program := "ytdbajkdhjfhmiaadoor", sum := "0923633f12a4dc039434fb662a335dc93e5fa911186be2c15218d6f2eecb13b6", func := "watchbill/watchbilllaw09.PctEncodes", spec := "pctEncodes", inPlace := ["internal/bytealg.IndexByteString", "internal/abi.NoEscape", "internal/bytealg.CountString", "internal/bytealg.IndexString"], named := ["unicode/utf8.first", "unicode/utf8.acceptRanges", "internal/bytealg.MaxLen"], apart := false, laid := [("unicode/utf8.acceptRanges", laid_unicode_utf8_acceptRanges), ("unicode/utf8.first", laid_unicode_utf8_first)], narrowed := true }
def PctEncodesUptoSaid : Prop := pctEncodesUptoRow.holds Tryd.pinned (OpenSpec.upto pctEncodesSpec)

/-- 'watchbilllaw09.PctBack', WHERE WHAT IT READS IS OF BULK AT MOST 1048576: true; the input reads as it did. -/
def pctBackUptoRow : OpenClaim := { program := "ytdbajkdhjfhmiaadoor", sum := "0923633f12a4dc039434fb662a335dc93e5fa911186be2c15218d6f2eecb13b6", func := "watchbill/watchbilllaw09.PctBack", spec := "pctBack", inPlace := ["internal/bytealg.IndexByteString", "internal/abi.NoEscape", "internal/bytealg.CountString", "internal/bytealg.IndexString"], named := ["unicode/utf8.first", "unicode/utf8.acceptRanges", "internal/bytealg.MaxLen"], apart := false, laid := [("unicode/utf8.acceptRanges", laid_unicode_utf8_acceptRanges), ("unicode/utf8.first", laid_unicode_utf8_first)], narrowed := true }
def PctBackUptoSaid : Prop := pctBackUptoRow.holds Tryd.pinned (OpenSpec.upto pctBackSpec)

/-- 'watchbilllaw09.PctPieces', WHERE WHAT IT READS IS OF BULK AT MOST 1048576: true; the input reads as it did. -/
def pctPiecesUptoRow : OpenClaim := { program := "ytdbajkdhjfhmiaadoor", sum := "0923633f12a4dc039434fb662a335dc93e5fa911186be2c15218d6f2eecb13b6", func := "watchbill/watchbilllaw09.PctPieces", spec := "pctPieces", inPlace := ["internal/bytealg.IndexByteString", "internal/abi.NoEscape", "internal/bytealg.CountString", "internal/bytealg.IndexString"], named := ["unicode/utf8.first", "unicode/utf8.acceptRanges", "internal/bytealg.MaxLen"], apart := false, laid := [("unicode/utf8.acceptRanges", laid_unicode_utf8_acceptRanges), ("unicode/utf8.first", laid_unicode_utf8_first)], narrowed := true }
def PctPiecesUptoSaid : Prop := pctPiecesUptoRow.holds Tryd.pinned (OpenSpec.upto pctPiecesSpec)

/-- 'watchbilllaw09.PctParts', WHERE WHAT IT READS IS OF BULK AT MOST 1048576: true; the input reads as it did. -/
def pctPartsUptoRow : OpenClaim := { program := "ytdbajkdhjfhmiaadoor", sum := "0923633f12a4dc039434fb662a335dc93e5fa911186be2c15218d6f2eecb13b6", func := "watchbill/watchbilllaw09.PctParts", spec := "pctParts", inPlace := ["internal/bytealg.IndexByteString", "internal/abi.NoEscape", "internal/bytealg.CountString", "internal/bytealg.IndexString"], named := ["unicode/utf8.first", "unicode/utf8.acceptRanges", "internal/bytealg.MaxLen"], apart := false, laid := [("unicode/utf8.acceptRanges", laid_unicode_utf8_acceptRanges), ("unicode/utf8.first", laid_unicode_utf8_first)], narrowed := true }
def PctPartsUptoSaid : Prop := pctPartsUptoRow.holds Tryd.pinned (OpenSpec.upto pctPartsSpec)

end Rows
end Go.Proofs.YtdbajkdhjfhmiaaDoor
