/-
  NARROWER THAN 'FOR EVERY INPUT', by the rows' own cells (each row's printed sentence says how): PathPlaces: loops · PathElsewhere: loops · PathBack: loops.
  DERIVED. THE GIVEN ROWS OF THIS SEAT. 3 by the template 'for every input the law returns true; each argument reads behind the call as it read before'; 0 by the template 'total and deterministic' (their statements: YtjhbedgepfkdbaaTotals.lean).
  GIVEN WITH THE SEED: the statements are not yours to turn. If you find one false, say at which input.
  Laid BY PROGRAM, IN A SANDBOX (cutbox-rows.mjs): the forced cells as the released guide's own fill.sh prints them over the translation ad290f4e80c44ddf… (all of the seat's roots in one cut). By AI agents, Wed Nov 11 2026. No macro, syntax, notation, axiom, sorry.
-/
import Derived.Test.YtjhbedgepfkdbaaChecked
import GoSem.Claim
import GoSem.ClaimJoined
import GoSem.ClaimMapViews
import Derived.JoinedTies
import Derived.KernelRfl
namespace Go.Proofs.Ytjhbedgepfkdbaa
/- THE CELL 'sum', in the pinned program and in every row, IS THE sha256 OF THE DUMP (.gsa) THAT YtjhbedgepfkdbaaProg.lean LOADS. Nothing in Lean hashes anything: it is a label: what it is worth is what the hold of that sum in a sandbox is worth. -/
noncomputable def Try.pinned : Pinned := { name := "ytjhbedgepfkdbaa", sum := "ad290f4e80c44ddf451946244967b62996dca9e8ff3ee4d641231e50fb152e18", checked := Try.checked }
namespace Rows
def none {H : Type} : Left H := { results := [], args := [] }

/-- 'watchbilllaw06.PathPlaces': WHATEVER THE INPUT: true; the input reads as it did. -/
def pathPlacesSpec : ChangeSpec := { name := "pathPlaces", fn := fun _ => fun
  | [d1, d2] => { results := [.lit (.bool true)], args := [d1, d2] }
  | _ => none }
def pathPlacesRow : OpenClaim := { program := "ytjhbedgepfkdbaa", sum := "ad290f4e80c44ddf451946244967b62996dca9e8ff3ee4d641231e50fb152e18", func := "watchbill/watchbilllaw06.PathPlaces", spec := "pathPlaces", inPlace := ["slices.overlaps[watchbill/api.Node]"], unfollowed := true, recurses := true, loops := true, plainKeys := false, apart := false }
def PathPlacesSaid : Prop := pathPlacesRow.holds Try.pinned (OpenSpec.ofChange pathPlacesSpec)

/-- ITS FALSE NEIGHBOUR: 'it returns false'. Refute it at one input. -/
def pathPlacesWrong : ChangeSpec := { name := "pathPlaces", fn := fun _ => fun
  | [d1, d2] => { results := [.lit (.bool false)], args := [d1, d2] }
  | _ => none }
def PathPlacesWrongFalsely : Prop := pathPlacesRow.holds Try.pinned (OpenSpec.ofChange pathPlacesWrong)

/-- 'watchbilllaw06.PathElsewhere': WHATEVER THE INPUT: true; the input reads as it did. -/
def pathElsewhereSpec : ChangeSpec := { name := "pathElsewhere", fn := fun _ => fun
  | [d1, d2, d3, d4] => { results := [.lit (.bool true)], args := [d1, d2, d3, d4] }
  | _ => none }
def pathElsewhereRow : OpenClaim := { program := "ytjhbedgepfkdbaa", sum := "ad290f4e80c44ddf451946244967b62996dca9e8ff3ee4d641231e50fb152e18", func := "watchbill/watchbilllaw06.PathElsewhere", spec := "pathElsewhere", inPlace := ["slices.overlaps[watchbill/api.Node]"], unfollowed := true, recurses := true, loops := true, plainKeys := false, apart := false }
def PathElsewhereSaid : Prop := pathElsewhereRow.holds Try.pinned (OpenSpec.ofChange pathElsewhereSpec)

/-- ITS FALSE NEIGHBOUR: 'it returns false'. Refute it at one input. -/
def pathElsewhereWrong : ChangeSpec := { name := "pathElsewhere", fn := fun _ => fun
  | [d1, d2, d3, d4] => { results := [.lit (.bool false)], args := [d1, d2, d3, d4] }
  | _ => none }
def PathElsewhereWrongFalsely : Prop := pathElsewhereRow.holds Try.pinned (OpenSpec.ofChange pathElsewhereWrong)

/-- 'watchbilllaw06.PathBack': WHATEVER THE INPUT: true; the input reads as it did. -/
def pathBackSpec : ChangeSpec := { name := "pathBack", fn := fun _ => fun
  | [d1, d2, d3, d4, d5] => { results := [.lit (.bool true)], args := [d1, d2, d3, d4, d5] }
  | _ => none }
def pathBackRow : OpenClaim := { program := "ytjhbedgepfkdbaa", sum := "ad290f4e80c44ddf451946244967b62996dca9e8ff3ee4d641231e50fb152e18", func := "watchbill/watchbilllaw06.PathBack", spec := "pathBack", inPlace := ["slices.overlaps[watchbill/api.Node]"], unfollowed := true, recurses := true, loops := true, plainKeys := false, apart := false }
def PathBackSaid : Prop := pathBackRow.holds Try.pinned (OpenSpec.ofChange pathBackSpec)

/-- ITS FALSE NEIGHBOUR: 'it returns false'. Refute it at one input. -/
def pathBackWrong : ChangeSpec := { name := "pathBack", fn := fun _ => fun
  | [d1, d2, d3, d4, d5] => { results := [.lit (.bool false)], args := [d1, d2, d3, d4, d5] }
  | _ => none }
def PathBackWrongFalsely : Prop := pathBackRow.holds Try.pinned (OpenSpec.ofChange pathBackWrong)

/- THE SECOND FORM. 'bulk': how many values and letters a reading holds, each counted each time it is reached (what is shared counts as often as it is met; a slice's spare places count too). A statement '..UptoSaid' is the law's where the arguments, and the package variables that the reading takes, are together of bulk at most 1048576: NARROWER than '..Said'. Prove '..Said' where nothing that the law and all that it calls make is longer than what came in: it says more and counts as full. Else prove '..UptoSaid'. A law counts once. -/
mutual
def uptoBulk {H : Type} : DataW H → Nat
  | .lit (.string bytes) => bytes.length + 1
  | .lit _ => 1
  | .nil => 1
  | .ptr d => uptoBulk d + 1
  | .slice elems spare => uptoBulkAll elems + uptoBulkAll spare + 1
  | .agg parts => uptoBulkAll parts + 1
  | .iface _ d => uptoBulk d + 1
  | .map entries => uptoBulkEntries entries + 1
  | .held _ => 1
def uptoBulkAll {H : Type} : List (DataW H) → Nat
  | [] => 0
  | d :: r => uptoBulk d + uptoBulkAll r
def uptoBulkEntries {H : Type} : List (Lit × DataW H) → Nat
  | [] => 0
  | x :: r => uptoBulkEntry x + uptoBulkEntries r
def uptoBulkEntry {H : Type} : Lit × DataW H → Nat
  | (.string bytes, d) => bytes.length + uptoBulk d + 1
  | (_, d) => uptoBulk d + 1
 end
def uptoSmall : (H : Type) → List (DataW H) → Bool := fun _ ds => decide (uptoBulkAll ds ≤ 1048576)
def OpenSpec.upto (s : _root_.Go.ChangeSpec) : _root_.Go.OpenSpec := { _root_.Go.OpenSpec.ofChange s with cond := some uptoSmall }

/-- 'watchbilllaw06.PathPlaces', WHERE WHAT IT READS IS OF BULK AT MOST 1048576: true; the input reads as it did. -/
def pathPlacesUptoRow : OpenClaim := { program := "ytjhbedgepfkdbaa", sum := "ad290f4e80c44ddf451946244967b62996dca9e8ff3ee4d641231e50fb152e18", func := "watchbill/watchbilllaw06.PathPlaces", spec := "pathPlaces", inPlace := ["slices.overlaps[watchbill/api.Node]"], unfollowed := true, recurses := true, loops := true, plainKeys := false, apart := false, narrowed := true }
def PathPlacesUptoSaid : Prop := pathPlacesUptoRow.holds Try.pinned (OpenSpec.upto pathPlacesSpec)

/-- 'watchbilllaw06.PathElsewhere', WHERE WHAT IT READS IS OF BULK AT MOST 1048576: true; the input reads as it did. -/
def pathElsewhereUptoRow : OpenClaim := { program := "ytjhbedgepfkdbaa", sum := "ad290f4e80c44ddf451946244967b62996dca9e8ff3ee4d641231e50fb152e18", func := "watchbill/watchbilllaw06.PathElsewhere", spec := "pathElsewhere", inPlace := ["slices.overlaps[watchbill/api.Node]"], unfollowed := true, recurses := true, loops := true, plainKeys := false, apart := false, narrowed := true }
def PathElsewhereUptoSaid : Prop := pathElsewhereUptoRow.holds Try.pinned (OpenSpec.upto pathElsewhereSpec)

/-- 'watchbilllaw06.PathBack', WHERE WHAT IT READS IS OF BULK AT MOST 1048576: true; the input reads as it did. -/
def pathBackUptoRow : OpenClaim := { program := "ytjhbedgepfkdbaa", sum := "ad290f4e80c44ddf451946244967b62996dca9e8ff3ee4d641231e50fb152e18", func := "watchbill/watchbilllaw06.PathBack", spec := "pathBack", inPlace := ["slices.overlaps[watchbill/api.Node]"], unfollowed := true, recurses := true, loops := true, plainKeys := false, apart := false, narrowed := true }
def PathBackUptoSaid : Prop := pathBackUptoRow.holds Try.pinned (OpenSpec.upto pathBackSpec)

end Rows
end Go.Proofs.Ytjhbedgepfkdbaa
