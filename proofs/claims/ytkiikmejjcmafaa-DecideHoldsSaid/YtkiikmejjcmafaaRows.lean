/-
  No cell of these rows narrows 'for every input' (looked for: loops, veiled, ifaces, maps, wideKeys, modest, calm, conditions, laid).
  DERIVED. THE GIVEN ROWS OF THIS SEAT. 4 by the template 'for every input the law returns true; each argument reads behind the call as it read before'; 0 by the template 'total and deterministic' (their statements: YtkiikmejjcmafaaTotals.lean).
  GIVEN WITH THE SEED: the statements are not yours to turn. If you find one false, say at which input.
  Laid BY PROGRAM, IN A SANDBOX (cutbox-rows.mjs): the forced cells as the released guide's own fill.sh prints them over the translation becc59a05bd23cd6… (all of the seat's roots in one cut). By AI agents, Wed Nov 11 2026. No macro, syntax, notation, axiom, sorry.
-/
import Derived.Test.YtkiikmejjcmafaaChecked
import GoSem.Claim
import GoSem.ClaimJoined
import GoSem.ClaimMapViews
import Derived.JoinedTies
import Derived.KernelRfl
namespace Go.Proofs.Ytkiikmejjcmafaa
/- THE CELL 'sum', in the pinned program and in every row, IS THE sha256 OF THE DUMP (.gsa) THAT YtkiikmejjcmafaaProg.lean LOADS. Nothing in Lean hashes anything: it is a label: what it is worth is what the hold of that sum in a sandbox is worth. -/
noncomputable def Try.pinned : Pinned := { name := "ytkiikmejjcmafaa", sum := "becc59a05bd23cd660bb84c4879d3230f7f00a66adfa31cda60e210e9ee10ba6", checked := Try.checked }
namespace Rows
def none {H : Type} : Left H := { results := [], args := [] }

/-- 'watchbilllaw22.DecideDecides': WHATEVER THE INPUT: true; the input reads as it did. -/
def decideDecidesSpec : ChangeSpec := { name := "decideDecides", fn := fun _ => fun
  | [d1, d2, d3] => { results := [.lit (.bool true)], args := [d1, d2, d3] }
  | _ => none }
def decideDecidesRow : OpenClaim := { program := "ytkiikmejjcmafaa", sum := "becc59a05bd23cd660bb84c4879d3230f7f00a66adfa31cda60e210e9ee10ba6", func := "watchbill/watchbilllaw22.DecideDecides", spec := "decideDecides", recurses := true, apart := false }
def DecideDecidesSaid : Prop := decideDecidesRow.holds Try.pinned (OpenSpec.ofChange decideDecidesSpec)

/-- ITS FALSE NEIGHBOUR: 'it returns false'. Refute it at one input. -/
def decideDecidesWrong : ChangeSpec := { name := "decideDecides", fn := fun _ => fun
  | [d1, d2, d3] => { results := [.lit (.bool false)], args := [d1, d2, d3] }
  | _ => none }
def DecideDecidesWrongFalsely : Prop := decideDecidesRow.holds Try.pinned (OpenSpec.ofChange decideDecidesWrong)

/-- 'watchbilllaw22.DecideMore': WHATEVER THE INPUT: true; the input reads as it did. -/
def decideMoreSpec : ChangeSpec := { name := "decideMore", fn := fun _ => fun
  | [d1, d2, d3, d4] => { results := [.lit (.bool true)], args := [d1, d2, d3, d4] }
  | _ => none }
def decideMoreRow : OpenClaim := { program := "ytkiikmejjcmafaa", sum := "becc59a05bd23cd660bb84c4879d3230f7f00a66adfa31cda60e210e9ee10ba6", func := "watchbill/watchbilllaw22.DecideMore", spec := "decideMore", recurses := true, apart := false }
def DecideMoreSaid : Prop := decideMoreRow.holds Try.pinned (OpenSpec.ofChange decideMoreSpec)

/-- ITS FALSE NEIGHBOUR: 'it returns false'. Refute it at one input. -/
def decideMoreWrong : ChangeSpec := { name := "decideMore", fn := fun _ => fun
  | [d1, d2, d3, d4] => { results := [.lit (.bool false)], args := [d1, d2, d3, d4] }
  | _ => none }
def DecideMoreWrongFalsely : Prop := decideMoreRow.holds Try.pinned (OpenSpec.ofChange decideMoreWrong)

/-- 'watchbilllaw22.DecideOrder': WHATEVER THE INPUT: true; the input reads as it did. -/
def decideOrderSpec : ChangeSpec := { name := "decideOrder", fn := fun _ => fun
  | [d1, d2, d3] => { results := [.lit (.bool true)], args := [d1, d2, d3] }
  | _ => none }
def decideOrderRow : OpenClaim := { program := "ytkiikmejjcmafaa", sum := "becc59a05bd23cd660bb84c4879d3230f7f00a66adfa31cda60e210e9ee10ba6", func := "watchbill/watchbilllaw22.DecideOrder", spec := "decideOrder", recurses := true, apart := false }
def DecideOrderSaid : Prop := decideOrderRow.holds Try.pinned (OpenSpec.ofChange decideOrderSpec)

/-- ITS FALSE NEIGHBOUR: 'it returns false'. Refute it at one input. -/
def decideOrderWrong : ChangeSpec := { name := "decideOrder", fn := fun _ => fun
  | [d1, d2, d3] => { results := [.lit (.bool false)], args := [d1, d2, d3] }
  | _ => none }
def DecideOrderWrongFalsely : Prop := decideOrderRow.holds Try.pinned (OpenSpec.ofChange decideOrderWrong)

/-- 'watchbilllaw22.DecideHolds': WHATEVER THE INPUT: true; the input reads as it did. -/
def decideHoldsSpec : ChangeSpec := { name := "decideHolds", fn := fun _ => fun
  | [d1, d2, d3, d4] => { results := [.lit (.bool true)], args := [d1, d2, d3, d4] }
  | _ => none }
def decideHoldsRow : OpenClaim := { program := "ytkiikmejjcmafaa", sum := "becc59a05bd23cd660bb84c4879d3230f7f00a66adfa31cda60e210e9ee10ba6", func := "watchbill/watchbilllaw22.DecideHolds", spec := "decideHolds", recurses := true, apart := false }
def DecideHoldsSaid : Prop := decideHoldsRow.holds Try.pinned (OpenSpec.ofChange decideHoldsSpec)

/-- ITS FALSE NEIGHBOUR: 'it returns false'. Refute it at one input. -/
def decideHoldsWrong : ChangeSpec := { name := "decideHolds", fn := fun _ => fun
  | [d1, d2, d3, d4] => { results := [.lit (.bool false)], args := [d1, d2, d3, d4] }
  | _ => none }
def DecideHoldsWrongFalsely : Prop := decideHoldsRow.holds Try.pinned (OpenSpec.ofChange decideHoldsWrong)

/- THE SECOND FORM. 'bulk': how many values and letters a reading holds, each counted each time it is reached (what is shared counts as often as it is met; a slice's spare places count too). A statement '..UptoSaid' is the law's where the arguments, and the package variables that the reading takes, are together of bulk at most 1048576: NARROWER than '..Said'. Prove '..Said' where nothing that the law and all that it calls make is longer than what came in: it says more and counts as full. Else prove '..UptoSaid'. A law counts once. -/
mutual
def uptoBulk {H : Type} : DataW H → Nat
  | .lit (.string bytes) => bytes.length + 1
  | .lit _ => 1
  | .nil => 1
  | .ptr d => uptoBulk d + 1
  | .slice elems spare => uptoBulkAll elems + uptoBulkAll spare + 1
  | .agg parts => uptoBulkAll parts + 1
  | .iface _ d => uptoBulk d + 1
  | .map entries => uptoBulkEntries entries + 1
  | .held _ => 1
def uptoBulkAll {H : Type} : List (DataW H) → Nat
  | [] => 0
  | d :: r => uptoBulk d + uptoBulkAll r
def uptoBulkEntries {H : Type} : List (Lit × DataW H) → Nat
  | [] => 0
  | x :: r => uptoBulkEntry x + uptoBulkEntries r
def uptoBulkEntry {H : Type} : Lit × DataW H → Nat
  | (.string bytes, d) => bytes.length + uptoBulk d + 1
  | (_, d) => uptoBulk d + 1
 end
def uptoSmall : (H : Type) → List (DataW H) → Bool := fun _ ds => decide (uptoBulkAll ds ≤ 1048576)
def OpenSpec.upto (s : _root_.Go.ChangeSpec) : _root_.Go.OpenSpec := { _root_.Go.OpenSpec.ofChange s with cond := some uptoSmall }

/-- 'watchbilllaw22.DecideDecides', WHERE WHAT IT READS IS OF BULK AT MOST 1048576: true; the input reads as it did. -/
def decideDecidesUptoRow : OpenClaim := { program := "ytkiikmejjcmafaa", sum := "becc59a05bd23cd660bb84c4879d3230f7f00a66adfa31cda60e210e9ee10ba6", func := "watchbill/watchbilllaw22.DecideDecides", spec := "decideDecides", recurses := true, apart := false, narrowed := true }
def DecideDecidesUptoSaid : Prop := decideDecidesUptoRow.holds Try.pinned (OpenSpec.upto decideDecidesSpec)

/-- 'watchbilllaw22.DecideMore', WHERE WHAT IT READS IS OF BULK AT MOST 1048576: true; the input reads as it did. -/
def decideMoreUptoRow : OpenClaim := { program := "ytkiikmejjcmafaa", sum := "becc59a05bd23cd660bb84c4879d3230f7f00a66adfa31cda60e210e9ee10ba6", func := "watchbill/watchbilllaw22.DecideMore", spec := "decideMore", recurses := true, apart := false, narrowed := true }
def DecideMoreUptoSaid : Prop := decideMoreUptoRow.holds Try.pinned (OpenSpec.upto decideMoreSpec)

/-- 'watchbilllaw22.DecideOrder', WHERE WHAT IT READS IS OF BULK AT MOST 1048576: true; the input reads as it did. -/
def decideOrderUptoRow : OpenClaim := { program := "ytkiikmejjcmafaa", sum := "becc59a05bd23cd660bb84c4879d3230f7f00a66adfa31cda60e210e9ee10ba6", func := "watchbill/watchbilllaw22.DecideOrder", spec := "decideOrder", recurses := true, apart := false, narrowed := true }
def DecideOrderUptoSaid : Prop := decideOrderUptoRow.holds Try.pinned (OpenSpec.upto decideOrderSpec)

/-- 'watchbilllaw22.DecideHolds', WHERE WHAT IT READS IS OF BULK AT MOST 1048576: true; the input reads as it did. -/
def decideHoldsUptoRow : OpenClaim := { program := "ytkiikmejjcmafaa", sum := "becc59a05bd23cd660bb84c4879d3230f7f00a66adfa31cda60e210e9ee10ba6", func := "watchbill/watchbilllaw22.DecideHolds", spec := "decideHolds", recurses := true, apart := false, narrowed := true }
def DecideHoldsUptoSaid : Prop := decideHoldsUptoRow.holds Try.pinned (OpenSpec.upto decideHoldsSpec)

end Rows
end Go.Proofs.Ytkiikmejjcmafaa
