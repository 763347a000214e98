/-
  No cell of these rows narrows 'for every input' (looked for: loops, veiled, ifaces, maps, wideKeys, modest, calm, conditions, laid).
  DERIVED. THE GIVEN ROWS OF THIS SEAT. 5 by the template 'for every input the law returns true; each argument reads behind the call as it read before'; 0 by the template 'total and deterministic' (their statements: YtkmifmkdloeeeaaTotals.lean).
  GIVEN WITH THE SEED: the statements are not yours to turn. If you find one false, say at which input.
  Laid BY PROGRAM, IN A SANDBOX (cutbox-rows.mjs): the forced cells as the released guide's own fill.sh prints them over the translation b160b15970d1a566… (all of the seat's roots in one cut). By AI agents, Wed Nov 11 2026. No macro, syntax, notation, axiom, sorry.
-/
import Derived.Test.YtkmifmkdloeeeaaChecked
import GoSem.Claim
import GoSem.ClaimJoined
import GoSem.ClaimMapViews
import Derived.JoinedTies
import Derived.KernelRfl
namespace Go.Proofs.Ytkmifmkdloeeeaa
/- THE CELL 'sum', in the pinned program and in every row, IS THE sha256 OF THE DUMP (.gsa) THAT YtkmifmkdloeeeaaProg.lean LOADS. Nothing in Lean hashes anything: it is a label: what it is worth is what the hold of that sum in a sandbox is worth. -/
noncomputable def Try.pinned : Pinned := { name := "ytkmifmkdloeeeaa", sum := "b160b15970d1a566ffdf2540056ce09cffbd41727f733148d0753241c40d543b", checked := Try.checked }
namespace Rows
def none {H : Type} : Left H := { results := [], args := [] }

/-- 'watchbilllaw27.SubsPlays': WHATEVER THE INPUT: true; the input reads as it did. -/
def subsPlaysSpec : ChangeSpec := { name := "subsPlays", fn := fun _ => fun
  | [d1, d2, d3] => { results := [.lit (.bool true)], args := [d1, d2, d3] }
  | _ => none }
def subsPlaysRow : OpenClaim := { program := "ytkmifmkdloeeeaa", sum := "b160b15970d1a566ffdf2540056ce09cffbd41727f733148d0753241c40d543b", func := "watchbill/watchbilllaw27.SubsPlays", spec := "subsPlays", unfollowed := true, recurses := true, apart := false }
def SubsPlaysSaid : Prop := subsPlaysRow.holds Try.pinned (OpenSpec.ofChange subsPlaysSpec)

/-- ITS FALSE NEIGHBOUR: 'it returns false'. Refute it at one input. -/
def subsPlaysWrong : ChangeSpec := { name := "subsPlays", fn := fun _ => fun
  | [d1, d2, d3] => { results := [.lit (.bool false)], args := [d1, d2, d3] }
  | _ => none }
def SubsPlaysWrongFalsely : Prop := subsPlaysRow.holds Try.pinned (OpenSpec.ofChange subsPlaysWrong)

/-- 'watchbilllaw27.SubsTakes': WHATEVER THE INPUT: true; the input reads as it did. -/
def subsTakesSpec : ChangeSpec := { name := "subsTakes", fn := fun _ => fun
  | [d1, d2] => { results := [.lit (.bool true)], args := [d1, d2] }
  | _ => none }
def subsTakesRow : OpenClaim := { program := "ytkmifmkdloeeeaa", sum := "b160b15970d1a566ffdf2540056ce09cffbd41727f733148d0753241c40d543b", func := "watchbill/watchbilllaw27.SubsTakes", spec := "subsTakes", unfollowed := true, recurses := true, apart := false }
def SubsTakesSaid : Prop := subsTakesRow.holds Try.pinned (OpenSpec.ofChange subsTakesSpec)

/-- ITS FALSE NEIGHBOUR: 'it returns false'. Refute it at one input. -/
def subsTakesWrong : ChangeSpec := { name := "subsTakes", fn := fun _ => fun
  | [d1, d2] => { results := [.lit (.bool false)], args := [d1, d2] }
  | _ => none }
def SubsTakesWrongFalsely : Prop := subsTakesRow.holds Try.pinned (OpenSpec.ofChange subsTakesWrong)

/-- 'watchbilllaw27.SubsFold': WHATEVER THE INPUT: true; the input reads as it did. -/
def subsFoldSpec : ChangeSpec := { name := "subsFold", fn := fun _ => fun
  | [d1, d2, d3] => { results := [.lit (.bool true)], args := [d1, d2, d3] }
  | _ => none }
def subsFoldRow : OpenClaim := { program := "ytkmifmkdloeeeaa", sum := "b160b15970d1a566ffdf2540056ce09cffbd41727f733148d0753241c40d543b", func := "watchbill/watchbilllaw27.SubsFold", spec := "subsFold", unfollowed := true, recurses := true, apart := false }
def SubsFoldSaid : Prop := subsFoldRow.holds Try.pinned (OpenSpec.ofChange subsFoldSpec)

/-- ITS FALSE NEIGHBOUR: 'it returns false'. Refute it at one input. -/
def subsFoldWrong : ChangeSpec := { name := "subsFold", fn := fun _ => fun
  | [d1, d2, d3] => { results := [.lit (.bool false)], args := [d1, d2, d3] }
  | _ => none }
def SubsFoldWrongFalsely : Prop := subsFoldRow.holds Try.pinned (OpenSpec.ofChange subsFoldWrong)

/-- 'watchbilllaw27.SubsLeast': WHATEVER THE INPUT: true; the input reads as it did. -/
def subsLeastSpec : ChangeSpec := { name := "subsLeast", fn := fun _ => fun
  | [d1, d2] => { results := [.lit (.bool true)], args := [d1, d2] }
  | _ => none }
def subsLeastRow : OpenClaim := { program := "ytkmifmkdloeeeaa", sum := "b160b15970d1a566ffdf2540056ce09cffbd41727f733148d0753241c40d543b", func := "watchbill/watchbilllaw27.SubsLeast", spec := "subsLeast", unfollowed := true, recurses := true, apart := false }
def SubsLeastSaid : Prop := subsLeastRow.holds Try.pinned (OpenSpec.ofChange subsLeastSpec)

/-- ITS FALSE NEIGHBOUR: 'it returns false'. Refute it at one input. -/
def subsLeastWrong : ChangeSpec := { name := "subsLeast", fn := fun _ => fun
  | [d1, d2] => { results := [.lit (.bool false)], args := [d1, d2] }
  | _ => none }
def SubsLeastWrongFalsely : Prop := subsLeastRow.holds Try.pinned (OpenSpec.ofChange subsLeastWrong)

/-- 'watchbilllaw27.SubsEnds': WHATEVER THE INPUT: true; the input reads as it did. -/
def subsEndsSpec : ChangeSpec := { name := "subsEnds", fn := fun _ => fun
  | [d1, d2, d3] => { results := [.lit (.bool true)], args := [d1, d2, d3] }
  | _ => none }
def subsEndsRow : OpenClaim := { program := "ytkmifmkdloeeeaa", sum := "b160b15970d1a566ffdf2540056ce09cffbd41727f733148d0753241c40d543b", func := "watchbill/watchbilllaw27.SubsEnds", spec := "subsEnds", unfollowed := true, recurses := true, apart := false }
def SubsEndsSaid : Prop := subsEndsRow.holds Try.pinned (OpenSpec.ofChange subsEndsSpec)

/-- ITS FALSE NEIGHBOUR: 'it returns false'. Refute it at one input. -/
def subsEndsWrong : ChangeSpec := { name := "subsEnds", fn := fun _ => fun
  | [d1, d2, d3] => { results := [.lit (.bool false)], args := [d1, d2, d3] }
  | _ => none }
def SubsEndsWrongFalsely : Prop := subsEndsRow.holds Try.pinned (OpenSpec.ofChange subsEndsWrong)

/- THE SECOND FORM. 'bulk': how many values and letters a reading holds, each counted each time it is reached (what is shared counts as often as it is met; a slice's spare places count too). A statement '..UptoSaid' is the law's where the arguments, and the package variables that the reading takes, are together of bulk at most 1048576: NARROWER than '..Said'. Prove '..Said' where nothing that the law and all that it calls make is longer than what came in: it says more and counts as full. Else prove '..UptoSaid'. A law counts once. -/
mutual
def uptoBulk {H : Type} : DataW H → Nat
  | .lit (.string bytes) => bytes.length + 1
  | .lit _ => 1
  | .nil => 1
  | .ptr d => uptoBulk d + 1
  | .slice elems spare => uptoBulkAll elems + uptoBulkAll spare + 1
  | .agg parts => uptoBulkAll parts + 1
  | .iface _ d => uptoBulk d + 1
  | .map entries => uptoBulkEntries entries + 1
  | .held _ => 1
def uptoBulkAll {H : Type} : List (DataW H) → Nat
  | [] => 0
  | d :: r => uptoBulk d + uptoBulkAll r
def uptoBulkEntries {H : Type} : List (Lit × DataW H) → Nat
  | [] => 0
  | x :: r => uptoBulkEntry x + uptoBulkEntries r
def uptoBulkEntry {H : Type} : Lit × DataW H → Nat
  | (.string bytes, d) => bytes.length + uptoBulk d + 1
  | (_, d) => uptoBulk d + 1
 end
def uptoSmall : (H : Type) → List (DataW H) → Bool := fun _ ds => decide (uptoBulkAll ds ≤ 1048576)
def OpenSpec.upto (s : _root_.Go.ChangeSpec) : _root_.Go.OpenSpec := { _root_.Go.OpenSpec.ofChange s with cond := some uptoSmall }

/-- 'watchbilllaw27.SubsPlays', WHERE WHAT IT READS IS OF BULK AT MOST 1048576: true; the input reads as it did. -/
def subsPlaysUptoRow : OpenClaim := { program := "ytkmifmkdloeeeaa", sum := "b160b15970d1a566ffdf2540056ce09cffbd41727f733148d0753241c40d543b", func := "watchbill/watchbilllaw27.SubsPlays", spec := "subsPlays", unfollowed := true, recurses := true, apart := false, narrowed := true }
def SubsPlaysUptoSaid : Prop := subsPlaysUptoRow.holds Try.pinned (OpenSpec.upto subsPlaysSpec)

/-- 'watchbilllaw27.SubsTakes', WHERE WHAT IT READS IS OF BULK AT MOST 1048576: true; the input reads as it did. -/
def subsTakesUptoRow : OpenClaim := { program := "ytkmifmkdloeeeaa", sum := "b160b15970d1a566ffdf2540056ce09cffbd41727f733148d0753241c40d543b", func := "watchbill/watchbilllaw27.SubsTakes", spec := "subsTakes", unfollowed := true, recurses := true, apart := false, narrowed := true }
def SubsTakesUptoSaid : Prop := subsTakesUptoRow.holds Try.pinned (OpenSpec.upto subsTakesSpec)

/-- 'watchbilllaw27.SubsFold', WHERE WHAT IT READS IS OF BULK AT MOST 1048576: true; the input reads as it did. -/
def subsFoldUptoRow : OpenClaim := { program := "ytkmifmkdloeeeaa", sum := "b160b15970d1a566ffdf2540056ce09cffbd41727f733148d0753241c40d543b", func := "watchbill/watchbilllaw27.SubsFold", spec := "subsFold", unfollowed := true, recurses := true, apart := false, narrowed := true }
def SubsFoldUptoSaid : Prop := subsFoldUptoRow.holds Try.pinned (OpenSpec.upto subsFoldSpec)

/-- 'watchbilllaw27.SubsLeast', WHERE WHAT IT READS IS OF BULK AT MOST 1048576: true; the input reads as it did. -/
def subsLeastUptoRow : OpenClaim := { program := "ytkmifmkdloeeeaa", sum := "b160b15970d1a566ffdf2540056ce09cffbd41727f733148d0753241c40d543b", func := "watchbill/watchbilllaw27.SubsLeast", spec := "subsLeast", unfollowed := true, recurses := true, apart := false, narrowed := true }
def SubsLeastUptoSaid : Prop := subsLeastUptoRow.holds Try.pinned (OpenSpec.upto subsLeastSpec)

/-- 'watchbilllaw27.SubsEnds', WHERE WHAT IT READS IS OF BULK AT MOST 1048576: true; the input reads as it did. -/
def subsEndsUptoRow : OpenClaim := { program := "ytkmifmkdloeeeaa", sum := "b160b15970d1a566ffdf2540056ce09cffbd41727f733148d0753241c40d543b", func := "watchbill/watchbilllaw27.SubsEnds", spec := "subsEnds", unfollowed := true, recurses := true, apart := false, narrowed := true }
def SubsEndsUptoSaid : Prop := subsEndsUptoRow.holds Try.pinned (OpenSpec.upto subsEndsSpec)

end Rows
end Go.Proofs.Ytkmifmkdloeeeaa
