/-
  NARROWER THAN 'FOR EVERY INPUT', by the rows' own cells (each row's printed sentence says how): ChangePut: loops · ChangeAttr: loops · ChangeDelete: loops.
  DERIVED. THE GIVEN ROWS OF THIS SEAT. 3 by the template 'for every input the law returns true; each argument reads behind the call as it read before'; 0 by the template 'total and deterministic' (their statements: YtafoiodfflcpeaaTotals.lean).
  GIVEN WITH THE SEED: the statements are not yours to turn. If you find one false, say at which input.
  Laid BY PROGRAM, IN A SANDBOX (cutbox-rows.mjs): the forced cells as the released guide's own fill.sh prints them over the translation 72336460109fddd1… (all of the seat's roots in one cut). By AI agents, Wed Nov 11 2026. No macro, syntax, notation, axiom, sorry.
-/
import Derived.Test.YtafoiodfflcpeaaChecked
import GoSem.Claim
import GoSem.ClaimJoined
import GoSem.ClaimMapViews
import Derived.JoinedTies
import Derived.KernelRfl
namespace Go.Proofs.Ytafoiodfflcpeaa
/- THE CELL 'sum', in the pinned program and in every row, IS THE sha256 OF THE DUMP (.gsa) THAT YtafoiodfflcpeaaProg.lean LOADS. Nothing in Lean hashes anything: it is a label: what it is worth is what the hold of that sum in a sandbox is worth. -/
noncomputable def Try.pinned : Pinned := { name := "ytafoiodfflcpeaa", sum := "72336460109fddd1f09dc55908e9536963439d347cecce1d659840429600d732", checked := Try.checked }
namespace Rows
def none {H : Type} : Left H := { results := [], args := [] }

/-- 'watchbilllaw13.ChangePut': WHATEVER THE INPUT: true; the input reads as it did. -/
def changePutSpec : ChangeSpec := { name := "changePut", fn := fun _ => fun
  | [d1, d2, d3] => { results := [.lit (.bool true)], args := [d1, d2, d3] }
  | _ => none }
def changePutRow : OpenClaim := { program := "ytafoiodfflcpeaa", sum := "72336460109fddd1f09dc55908e9536963439d347cecce1d659840429600d732", func := "watchbill/watchbilllaw13.ChangePut", spec := "changePut", inPlace := ["slices.overlaps[watchbill/api.Node]"], unfollowed := true, recurses := true, loops := true, plainKeys := false, apart := false }
def ChangePutSaid : Prop := changePutRow.holds Try.pinned (OpenSpec.ofChange changePutSpec)

/-- ITS FALSE NEIGHBOUR: 'it returns false'. Refute it at one input. -/
def changePutWrong : ChangeSpec := { name := "changePut", fn := fun _ => fun
  | [d1, d2, d3] => { results := [.lit (.bool false)], args := [d1, d2, d3] }
  | _ => none }
def ChangePutWrongFalsely : Prop := changePutRow.holds Try.pinned (OpenSpec.ofChange changePutWrong)

/-- 'watchbilllaw13.ChangeAttr': WHATEVER THE INPUT: true; the input reads as it did. -/
def changeAttrSpec : ChangeSpec := { name := "changeAttr", fn := fun _ => fun
  | [d1, d2, d3] => { results := [.lit (.bool true)], args := [d1, d2, d3] }
  | _ => none }
def changeAttrRow : OpenClaim := { program := "ytafoiodfflcpeaa", sum := "72336460109fddd1f09dc55908e9536963439d347cecce1d659840429600d732", func := "watchbill/watchbilllaw13.ChangeAttr", spec := "changeAttr", inPlace := ["slices.overlaps[watchbill/api.Node]"], unfollowed := true, recurses := true, loops := true, plainKeys := false, apart := false }
def ChangeAttrSaid : Prop := changeAttrRow.holds Try.pinned (OpenSpec.ofChange changeAttrSpec)

/-- ITS FALSE NEIGHBOUR: 'it returns false'. Refute it at one input. -/
def changeAttrWrong : ChangeSpec := { name := "changeAttr", fn := fun _ => fun
  | [d1, d2, d3] => { results := [.lit (.bool false)], args := [d1, d2, d3] }
  | _ => none }
def ChangeAttrWrongFalsely : Prop := changeAttrRow.holds Try.pinned (OpenSpec.ofChange changeAttrWrong)

/-- 'watchbilllaw13.ChangeDelete': WHATEVER THE INPUT: true; the input reads as it did. -/
def changeDeleteSpec : ChangeSpec := { name := "changeDelete", fn := fun _ => fun
  | [d1, d2, d3] => { results := [.lit (.bool true)], args := [d1, d2, d3] }
  | _ => none }
def changeDeleteRow : OpenClaim := { program := "ytafoiodfflcpeaa", sum := "72336460109fddd1f09dc55908e9536963439d347cecce1d659840429600d732", func := "watchbill/watchbilllaw13.ChangeDelete", spec := "changeDelete", inPlace := ["slices.overlaps[watchbill/api.Node]"], unfollowed := true, recurses := true, loops := true, plainKeys := false, apart := false }
def ChangeDeleteSaid : Prop := changeDeleteRow.holds Try.pinned (OpenSpec.ofChange changeDeleteSpec)

/-- ITS FALSE NEIGHBOUR: 'it returns false'. Refute it at one input. -/
def changeDeleteWrong : ChangeSpec := { name := "changeDelete", fn := fun _ => fun
  | [d1, d2, d3] => { results := [.lit (.bool false)], args := [d1, d2, d3] }
  | _ => none }
def ChangeDeleteWrongFalsely : Prop := changeDeleteRow.holds Try.pinned (OpenSpec.ofChange changeDeleteWrong)

/- THE SECOND FORM. 'bulk': how many values and letters a reading holds, each counted each time it is reached (what is shared counts as often as it is met; a slice's spare places count too). A statement '..UptoSaid' is the law's where the arguments, and the package variables that the reading takes, are together of bulk at most 1048576: NARROWER than '..Said'. Prove '..Said' where nothing that the law and all that it calls make is longer than what came in: it says more and counts as full. Else prove '..UptoSaid'. A law counts once. -/
mutual
def uptoBulk {H : Type} : DataW H → Nat
  | .lit (.string bytes) => bytes.length + 1
  | .lit _ => 1
  | .nil => 1
  | .ptr d => uptoBulk d + 1
  | .slice elems spare => uptoBulkAll elems + uptoBulkAll spare + 1
  | .agg parts => uptoBulkAll parts + 1
  | .iface _ d => uptoBulk d + 1
  | .map entries => uptoBulkEntries entries + 1
  | .held _ => 1
def uptoBulkAll {H : Type} : List (DataW H) → Nat
  | [] => 0
  | d :: r => uptoBulk d + uptoBulkAll r
def uptoBulkEntries {H : Type} : List (Lit × DataW H) → Nat
  | [] => 0
  | x :: r => uptoBulkEntry x + uptoBulkEntries r
def uptoBulkEntry {H : Type} : Lit × DataW H → Nat
  | (.string bytes, d) => bytes.length + uptoBulk d + 1
  | (_, d) => uptoBulk d + 1
 end
def uptoSmall : (H : Type) → List (DataW H) → Bool := fun _ ds => decide (uptoBulkAll ds ≤ 1048576)
def OpenSpec.upto (s : _root_.Go.ChangeSpec) : _root_.Go.OpenSpec := { _root_.Go.OpenSpec.ofChange s with cond := some uptoSmall }

/-- 'watchbilllaw13.ChangePut', WHERE WHAT IT READS IS OF BULK AT MOST 1048576: true; the input reads as it did. -/
def changePutUptoRow : OpenClaim := { program := "ytafoiodfflcpeaa", sum := "72336460109fddd1f09dc55908e9536963439d347cecce1d659840429600d732", func := "watchbill/watchbilllaw13.ChangePut", spec := "changePut", inPlace := ["slices.overlaps[watchbill/api.Node]"], unfollowed := true, recurses := true, loops := true, plainKeys := false, apart := false, narrowed := true }
def ChangePutUptoSaid : Prop := changePutUptoRow.holds Try.pinned (OpenSpec.upto changePutSpec)

/-- 'watchbilllaw13.ChangeAttr', WHERE WHAT IT READS IS OF BULK AT MOST 1048576: true; the input reads as it did. -/
def changeAttrUptoRow : OpenClaim := { program := "ytafoiodfflcpeaa", sum := "72336460109fddd1f09dc55908e9536963439d347cecce1d659840429600d732", func := "watchbill/watchbilllaw13.ChangeAttr", spec := "changeAttr", inPlace := ["slices.overlaps[watchbill/api.Node]"], unfollowed := true, recurses := true, loops := true, plainKeys := false, apart := false, narrowed := true }
def ChangeAttrUptoSaid : Prop := changeAttrUptoRow.holds Try.pinned (OpenSpec.upto changeAttrSpec)

/-- 'watchbilllaw13.ChangeDelete', WHERE WHAT IT READS IS OF BULK AT MOST 1048576: true; the input reads as it did. -/
def changeDeleteUptoRow : OpenClaim := { program := "ytafoiodfflcpeaa", sum := "72336460109fddd1f09dc55908e9536963439d347cecce1d659840429600d732", func := "watchbill/watchbilllaw13.ChangeDelete", spec := "changeDelete", inPlace := ["slices.overlaps[watchbill/api.Node]"], unfollowed := true, recurses := true, loops := true, plainKeys := false, apart := false, narrowed := true }
def ChangeDeleteUptoSaid : Prop := changeDeleteUptoRow.holds Try.pinned (OpenSpec.upto changeDeleteSpec)

end Rows
end Go.Proofs.Ytafoiodfflcpeaa
