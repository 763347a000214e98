/-
  No cell of these rows narrows 'for every input' (looked for: loops, veiled, ifaces, maps, wideKeys, modest, calm, conditions, laid).
  DERIVED. THE GIVEN ROWS OF THIS SEAT. 6 by the template 'for every input the law returns true; each argument reads behind the call as it read before'; 0 by the template 'total and deterministic' (their statements: YtnabecgfaecbmaaTotals.lean).
  GIVEN WITH THE SEED: the statements are not yours to turn. If you find one false, say at which input.
  Laid BY PROGRAM, IN A SANDBOX (cutbox-rows.mjs): the forced cells as the released guide's own fill.sh prints them over the translation 353342fcbc6612c0… (all of the seat's roots in one cut). By AI agents, Wed Nov 11 2026. No macro, syntax, notation, axiom, sorry.
-/
import Derived.Test.YtnabecgfaecbmaaChecked
import GoSem.Claim
import GoSem.ClaimJoined
import GoSem.ClaimMapViews
import Derived.JoinedTies
import Derived.KernelRfl
namespace Go.Proofs.Ytnabecgfaecbmaa
/- THE CELL 'sum', in the pinned program and in every row, IS THE sha256 OF THE DUMP (.gsa) THAT YtnabecgfaecbmaaProg.lean LOADS. Nothing in Lean hashes anything: it is a label: what it is worth is what the hold of that sum in a sandbox is worth. -/
noncomputable def Try.pinned : Pinned := { name := "ytnabecgfaecbmaa", sum := "353342fcbc6612c03ec1950fb8c4dcf4c124ab50ac8bdb035f537399a5c364b5", checked := Try.checked }
namespace Rows
def none {H : Type} : Left H := { results := [], args := [] }

/-- 'watchbilllaw01.UtfRunes': WHATEVER THE INPUT: true; the input reads as it did. -/
def utfRunesSpec : ChangeSpec := { name := "utfRunes", fn := fun _ => fun
  | [d1, d2] => { results := [.lit (.bool true)], args := [d1, d2] }
  | _ => none }
def utfRunesRow : OpenClaim := { program := "ytnabecgfaecbmaa", sum := "353342fcbc6612c03ec1950fb8c4dcf4c124ab50ac8bdb035f537399a5c364b5", func := "watchbill/watchbilllaw01.UtfRunes", spec := "utfRunes", unfollowed := true, recurses := true, apart := false }
def UtfRunesSaid : Prop := utfRunesRow.holds Try.pinned (OpenSpec.ofChange utfRunesSpec)

/-- ITS FALSE NEIGHBOUR: 'it returns false'. Refute it at one input. -/
def utfRunesWrong : ChangeSpec := { name := "utfRunes", fn := fun _ => fun
  | [d1, d2] => { results := [.lit (.bool false)], args := [d1, d2] }
  | _ => none }
def UtfRunesWrongFalsely : Prop := utfRunesRow.holds Try.pinned (OpenSpec.ofChange utfRunesWrong)

/-- 'watchbilllaw01.UtfBack': WHATEVER THE INPUT: true; the input reads as it did. -/
def utfBackSpec : ChangeSpec := { name := "utfBack", fn := fun _ => fun
  | [d1, d2, d3] => { results := [.lit (.bool true)], args := [d1, d2, d3] }
  | _ => none }
def utfBackRow : OpenClaim := { program := "ytnabecgfaecbmaa", sum := "353342fcbc6612c03ec1950fb8c4dcf4c124ab50ac8bdb035f537399a5c364b5", func := "watchbill/watchbilllaw01.UtfBack", spec := "utfBack", unfollowed := true, recurses := true, apart := false }
def UtfBackSaid : Prop := utfBackRow.holds Try.pinned (OpenSpec.ofChange utfBackSpec)

/-- ITS FALSE NEIGHBOUR: 'it returns false'. Refute it at one input. -/
def utfBackWrong : ChangeSpec := { name := "utfBack", fn := fun _ => fun
  | [d1, d2, d3] => { results := [.lit (.bool false)], args := [d1, d2, d3] }
  | _ => none }
def UtfBackWrongFalsely : Prop := utfBackRow.holds Try.pinned (OpenSpec.ofChange utfBackWrong)

/-- 'watchbilllaw01.UtfChecks': WHATEVER THE INPUT: true; the input reads as it did. -/
def utfChecksSpec : ChangeSpec := { name := "utfChecks", fn := fun _ => fun
  | [d1, d2] => { results := [.lit (.bool true)], args := [d1, d2] }
  | _ => none }
def utfChecksRow : OpenClaim := { program := "ytnabecgfaecbmaa", sum := "353342fcbc6612c03ec1950fb8c4dcf4c124ab50ac8bdb035f537399a5c364b5", func := "watchbill/watchbilllaw01.UtfChecks", spec := "utfChecks", unfollowed := true, recurses := true, apart := false }
def UtfChecksSaid : Prop := utfChecksRow.holds Try.pinned (OpenSpec.ofChange utfChecksSpec)

/-- ITS FALSE NEIGHBOUR: 'it returns false'. Refute it at one input. -/
def utfChecksWrong : ChangeSpec := { name := "utfChecks", fn := fun _ => fun
  | [d1, d2] => { results := [.lit (.bool false)], args := [d1, d2] }
  | _ => none }
def UtfChecksWrongFalsely : Prop := utfChecksRow.holds Try.pinned (OpenSpec.ofChange utfChecksWrong)

/-- 'watchbilllaw01.UtfKinds': WHATEVER THE INPUT: true; the input reads as it did. -/
def utfKindsSpec : ChangeSpec := { name := "utfKinds", fn := fun _ => fun
  | [d1, d2] => { results := [.lit (.bool true)], args := [d1, d2] }
  | _ => none }
def utfKindsRow : OpenClaim := { program := "ytnabecgfaecbmaa", sum := "353342fcbc6612c03ec1950fb8c4dcf4c124ab50ac8bdb035f537399a5c364b5", func := "watchbill/watchbilllaw01.UtfKinds", spec := "utfKinds", unfollowed := true, recurses := true, apart := false }
def UtfKindsSaid : Prop := utfKindsRow.holds Try.pinned (OpenSpec.ofChange utfKindsSpec)

/-- ITS FALSE NEIGHBOUR: 'it returns false'. Refute it at one input. -/
def utfKindsWrong : ChangeSpec := { name := "utfKinds", fn := fun _ => fun
  | [d1, d2] => { results := [.lit (.bool false)], args := [d1, d2] }
  | _ => none }
def UtfKindsWrongFalsely : Prop := utfKindsRow.holds Try.pinned (OpenSpec.ofChange utfKindsWrong)

/-- 'watchbilllaw01.UtfNames': WHATEVER THE INPUT: true; the input reads as it did. -/
def utfNamesSpec : ChangeSpec := { name := "utfNames", fn := fun _ => fun
  | [d] => { results := [.lit (.bool true)], args := [d] }
  | _ => none }
def utfNamesRow : OpenClaim := { program := "ytnabecgfaecbmaa", sum := "353342fcbc6612c03ec1950fb8c4dcf4c124ab50ac8bdb035f537399a5c364b5", func := "watchbill/watchbilllaw01.UtfNames", spec := "utfNames", unfollowed := true, recurses := true, apart := false }
def UtfNamesSaid : Prop := utfNamesRow.holds Try.pinned (OpenSpec.ofChange utfNamesSpec)

/-- ITS FALSE NEIGHBOUR: 'it returns false'. Refute it at one input. -/
def utfNamesWrong : ChangeSpec := { name := "utfNames", fn := fun _ => fun
  | [d] => { results := [.lit (.bool false)], args := [d] }
  | _ => none }
def UtfNamesWrongFalsely : Prop := utfNamesRow.holds Try.pinned (OpenSpec.ofChange utfNamesWrong)

/-- 'watchbilllaw01.UtfGrows': WHATEVER THE INPUT: true; the input reads as it did. -/
def utfGrowsSpec : ChangeSpec := { name := "utfGrows", fn := fun _ => fun
  | [d1, d2] => { results := [.lit (.bool true)], args := [d1, d2] }
  | _ => none }
def utfGrowsRow : OpenClaim := { program := "ytnabecgfaecbmaa", sum := "353342fcbc6612c03ec1950fb8c4dcf4c124ab50ac8bdb035f537399a5c364b5", func := "watchbill/watchbilllaw01.UtfGrows", spec := "utfGrows", unfollowed := true, recurses := true, apart := false }
def UtfGrowsSaid : Prop := utfGrowsRow.holds Try.pinned (OpenSpec.ofChange utfGrowsSpec)

/-- ITS FALSE NEIGHBOUR: 'it returns false'. Refute it at one input. -/
def utfGrowsWrong : ChangeSpec := { name := "utfGrows", fn := fun _ => fun
  | [d1, d2] => { results := [.lit (.bool false)], args := [d1, d2] }
  | _ => none }
def UtfGrowsWrongFalsely : Prop := utfGrowsRow.holds Try.pinned (OpenSpec.ofChange utfGrowsWrong)

/- THE SECOND FORM. 'bulk': how many values and letters a reading holds, each counted each time it is reached (what is shared counts as often as it is met; a slice's spare places count too). A statement '..UptoSaid' is the law's where the arguments, and the package variables that the reading takes, are together of bulk at most 1048576: NARROWER than '..Said'. Prove '..Said' where nothing that the law and all that it calls make is longer than what came in: it says more and counts as full. Else prove '..UptoSaid'. A law counts once. -/
mutual
def uptoBulk {H : Type} : DataW H → Nat
  | .lit (.string bytes) => bytes.length + 1
  | .lit _ => 1
  | .nil => 1
  | .ptr d => uptoBulk d + 1
  | .slice elems spare => uptoBulkAll elems + uptoBulkAll spare + 1
  | .agg parts => uptoBulkAll parts + 1
  | .iface _ d => uptoBulk d + 1
  | .map entries => uptoBulkEntries entries + 1
  | .held _ => 1
def uptoBulkAll {H : Type} : List (DataW H) → Nat
  | [] => 0
  | d :: r => uptoBulk d + uptoBulkAll r
def uptoBulkEntries {H : Type} : List (Lit × DataW H) → Nat
  | [] => 0
  | x :: r => uptoBulkEntry x + uptoBulkEntries r
def uptoBulkEntry {H : Type} : Lit × DataW H → Nat
  | (.string bytes, d) => bytes.length + uptoBulk d + 1
  | (_, d) => uptoBulk d + 1
 end
def uptoSmall : (H : Type) → List (DataW H) → Bool := fun _ ds => decide (uptoBulkAll ds ≤ 1048576)
def OpenSpec.upto (s : _root_.Go.ChangeSpec) : _root_.Go.OpenSpec := { _root_.Go.OpenSpec.ofChange s with cond := some uptoSmall }

/-- 'watchbilllaw01.UtfRunes', WHERE WHAT IT READS IS OF BULK AT MOST 1048576: true; the input reads as it did. -/
def utfRunesUptoRow : OpenClaim := { program := "ytnabecgfaecbmaa", sum := "353342fcbc6612c03ec1950fb8c4dcf4c124ab50ac8bdb035f537399a5c364b5", func := "watchbill/watchbilllaw01.UtfRunes", spec := "utfRunes", unfollowed := true, recurses := true, apart := false, narrowed := true }
def UtfRunesUptoSaid : Prop := utfRunesUptoRow.holds Try.pinned (OpenSpec.upto utfRunesSpec)

/-- 'watchbilllaw01.UtfBack', WHERE WHAT IT READS IS OF BULK AT MOST 1048576: true; the input reads as it did. -/
def utfBackUptoRow : OpenClaim := { program := "ytnabecgfaecbmaa", sum := "353342fcbc6612c03ec1950fb8c4dcf4c124ab50ac8bdb035f537399a5c364b5", func := "watchbill/watchbilllaw01.UtfBack", spec := "utfBack", unfollowed := true, recurses := true, apart := false, narrowed := true }
def UtfBackUptoSaid : Prop := utfBackUptoRow.holds Try.pinned (OpenSpec.upto utfBackSpec)

/-- 'watchbilllaw01.UtfChecks', WHERE WHAT IT READS IS OF BULK AT MOST 1048576: true; the input reads as it did. -/
def utfChecksUptoRow : OpenClaim := { program := "ytnabecgfaecbmaa", sum := "353342fcbc6612c03ec1950fb8c4dcf4c124ab50ac8bdb035f537399a5c364b5", func := "watchbill/watchbilllaw01.UtfChecks", spec := "utfChecks", unfollowed := true, recurses := true, apart := false, narrowed := true }
def UtfChecksUptoSaid : Prop := utfChecksUptoRow.holds Try.pinned (OpenSpec.upto utfChecksSpec)

/-- 'watchbilllaw01.UtfKinds', WHERE WHAT IT READS IS OF BULK AT MOST 1048576: true; the input reads as it did. -/
def utfKindsUptoRow : OpenClaim := { program := "ytnabecgfaecbmaa", sum := "353342fcbc6612c03ec1950fb8c4dcf4c124ab50ac8bdb035f537399a5c364b5", func := "watchbill/watchbilllaw01.UtfKinds", spec := "utfKinds", unfollowed := true, recurses := true, apart := false, narrowed := true }
def UtfKindsUptoSaid : Prop := utfKindsUptoRow.holds Try.pinned (OpenSpec.upto utfKindsSpec)

/-- 'watchbilllaw01.UtfNames', WHERE WHAT IT READS IS OF BULK AT MOST 1048576: true; the input reads as it did. -/
def utfNamesUptoRow : OpenClaim := { program := "ytnabecgfaecbmaa", sum := "353342fcbc6612c03ec1950fb8c4dcf4c124ab50ac8bdb035f537399a5c364b5", func := "watchbill/watchbilllaw01.UtfNames", spec := "utfNames", unfollowed := true, recurses := true, apart := false, narrowed := true }
def UtfNamesUptoSaid : Prop := utfNamesUptoRow.holds Try.pinned (OpenSpec.upto utfNamesSpec)

/-- 'watchbilllaw01.UtfGrows', WHERE WHAT IT READS IS OF BULK AT MOST 1048576: true; the input reads as it did. -/
def utfGrowsUptoRow : OpenClaim := { program := "ytnabecgfaecbmaa", sum := "353342fcbc6612c03ec1950fb8c4dcf4c124ab50ac8bdb035f537399a5c364b5", func := "watchbill/watchbilllaw01.UtfGrows", spec := "utfGrows", unfollowed := true, recurses := true, apart := false, narrowed := true }
def UtfGrowsUptoSaid : Prop := utfGrowsUptoRow.holds Try.pinned (OpenSpec.upto utfGrowsSpec)

end Rows
end Go.Proofs.Ytnabecgfaecbmaa
