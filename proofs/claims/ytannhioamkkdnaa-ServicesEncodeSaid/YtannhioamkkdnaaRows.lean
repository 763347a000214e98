/-
  NARROWER THAN 'FOR EVERY INPUT', by the rows' own cells (each row's printed sentence says how): ServicesDecode: loops · ServicesEncode: loops · ServicesBack: loops · ServicesMore: loops · ServicesBlanks: loops.
  DERIVED. THE GIVEN ROWS OF THIS SEAT. 5 by the template 'for every input the law returns true; each argument reads behind the call as it read before'; 0 by the template 'total and deterministic' (their statements: YtannhioamkkdnaaTotals.lean).
  GIVEN WITH THE SEED: the statements are not yours to turn. If you find one false, say at which input.
  Laid BY PROGRAM, IN A SANDBOX (cutbox-rows.mjs): the forced cells as the released guide's own fill.sh prints them over the translation 4628f096a8149c1f… (all of the seat's roots in one cut). By AI agents, Wed Nov 11 2026. No macro, syntax, notation, axiom, sorry.
-/
import Derived.Test.YtannhioamkkdnaaChecked
import GoSem.Claim
import GoSem.ClaimJoined
import GoSem.ClaimMapViews
import Derived.JoinedTies
import Derived.KernelRfl
namespace Go.Proofs.Ytannhioamkkdnaa
/- THE CELL 'sum', in the pinned program and in every row, IS THE sha256 OF THE DUMP (.gsa) THAT YtannhioamkkdnaaProg.lean LOADS. Nothing in Lean hashes anything: it is a label: what it is worth is what the hold of that sum in a sandbox is worth. -/
noncomputable def Try.pinned : Pinned := { name := "ytannhioamkkdnaa", sum := "4628f096a8149c1fc5cbd28b10324f94e657f7656008ab23fe726651635881a6", checked := Try.checked }
namespace Rows
def none {H : Type} : Left H := { results := [], args := [] }

/-- 'watchbilllaw17.ServicesDecode': WHATEVER THE INPUT: true; the input reads as it did. -/
def servicesDecodeSpec : ChangeSpec := { name := "servicesDecode", fn := fun _ => fun
  | [d1, d2] => { results := [.lit (.bool true)], args := [d1, d2] }
  | _ => none }
def servicesDecodeRow : OpenClaim := { program := "ytannhioamkkdnaa", sum := "4628f096a8149c1fc5cbd28b10324f94e657f7656008ab23fe726651635881a6", func := "watchbill/watchbilllaw17.ServicesDecode", spec := "servicesDecode", unfollowed := true, recurses := true, loops := true, plainKeys := false, apart := false }
def ServicesDecodeSaid : Prop := servicesDecodeRow.holds Try.pinned (OpenSpec.ofChange servicesDecodeSpec)

/-- ITS FALSE NEIGHBOUR: 'it returns false'. Refute it at one input. -/
def servicesDecodeWrong : ChangeSpec := { name := "servicesDecode", fn := fun _ => fun
  | [d1, d2] => { results := [.lit (.bool false)], args := [d1, d2] }
  | _ => none }
def ServicesDecodeWrongFalsely : Prop := servicesDecodeRow.holds Try.pinned (OpenSpec.ofChange servicesDecodeWrong)

/-- 'watchbilllaw17.ServicesEncode': WHATEVER THE INPUT: true; the input reads as it did. -/
def servicesEncodeSpec : ChangeSpec := { name := "servicesEncode", fn := fun _ => fun
  | [d] => { results := [.lit (.bool true)], args := [d] }
  | _ => none }
def servicesEncodeRow : OpenClaim := { program := "ytannhioamkkdnaa", sum := "4628f096a8149c1fc5cbd28b10324f94e657f7656008ab23fe726651635881a6", func := "watchbill/watchbilllaw17.ServicesEncode", spec := "servicesEncode", unfollowed := true, recurses := true, loops := true, plainKeys := false, apart := false }
def ServicesEncodeSaid : Prop := servicesEncodeRow.holds Try.pinned (OpenSpec.ofChange servicesEncodeSpec)

/-- ITS FALSE NEIGHBOUR: 'it returns false'. Refute it at one input. -/
def servicesEncodeWrong : ChangeSpec := { name := "servicesEncode", fn := fun _ => fun
  | [d] => { results := [.lit (.bool false)], args := [d] }
  | _ => none }
def ServicesEncodeWrongFalsely : Prop := servicesEncodeRow.holds Try.pinned (OpenSpec.ofChange servicesEncodeWrong)

/-- 'watchbilllaw17.ServicesBack': WHATEVER THE INPUT: true; the input reads as it did. -/
def servicesBackSpec : ChangeSpec := { name := "servicesBack", fn := fun _ => fun
  | [d1, d2] => { results := [.lit (.bool true)], args := [d1, d2] }
  | _ => none }
def servicesBackRow : OpenClaim := { program := "ytannhioamkkdnaa", sum := "4628f096a8149c1fc5cbd28b10324f94e657f7656008ab23fe726651635881a6", func := "watchbill/watchbilllaw17.ServicesBack", spec := "servicesBack", unfollowed := true, recurses := true, loops := true, plainKeys := false, apart := false }
def ServicesBackSaid : Prop := servicesBackRow.holds Try.pinned (OpenSpec.ofChange servicesBackSpec)

/-- ITS FALSE NEIGHBOUR: 'it returns false'. Refute it at one input. -/
def servicesBackWrong : ChangeSpec := { name := "servicesBack", fn := fun _ => fun
  | [d1, d2] => { results := [.lit (.bool false)], args := [d1, d2] }
  | _ => none }
def ServicesBackWrongFalsely : Prop := servicesBackRow.holds Try.pinned (OpenSpec.ofChange servicesBackWrong)

/-- 'watchbilllaw17.ServicesMore': WHATEVER THE INPUT: true; the input reads as it did. -/
def servicesMoreSpec : ChangeSpec := { name := "servicesMore", fn := fun _ => fun
  | [d1, d2] => { results := [.lit (.bool true)], args := [d1, d2] }
  | _ => none }
def servicesMoreRow : OpenClaim := { program := "ytannhioamkkdnaa", sum := "4628f096a8149c1fc5cbd28b10324f94e657f7656008ab23fe726651635881a6", func := "watchbill/watchbilllaw17.ServicesMore", spec := "servicesMore", unfollowed := true, recurses := true, loops := true, plainKeys := false, apart := false }
def ServicesMoreSaid : Prop := servicesMoreRow.holds Try.pinned (OpenSpec.ofChange servicesMoreSpec)

/-- ITS FALSE NEIGHBOUR: 'it returns false'. Refute it at one input. -/
def servicesMoreWrong : ChangeSpec := { name := "servicesMore", fn := fun _ => fun
  | [d1, d2] => { results := [.lit (.bool false)], args := [d1, d2] }
  | _ => none }
def ServicesMoreWrongFalsely : Prop := servicesMoreRow.holds Try.pinned (OpenSpec.ofChange servicesMoreWrong)

/-- 'watchbilllaw17.ServicesBlanks': WHATEVER THE INPUT: true; the input reads as it did. -/
def servicesBlanksSpec : ChangeSpec := { name := "servicesBlanks", fn := fun _ => fun
  | [d] => { results := [.lit (.bool true)], args := [d] }
  | _ => none }
def servicesBlanksRow : OpenClaim := { program := "ytannhioamkkdnaa", sum := "4628f096a8149c1fc5cbd28b10324f94e657f7656008ab23fe726651635881a6", func := "watchbill/watchbilllaw17.ServicesBlanks", spec := "servicesBlanks", unfollowed := true, recurses := true, loops := true, plainKeys := false, apart := false }
def ServicesBlanksSaid : Prop := servicesBlanksRow.holds Try.pinned (OpenSpec.ofChange servicesBlanksSpec)

/-- ITS FALSE NEIGHBOUR: 'it returns false'. Refute it at one input. -/
def servicesBlanksWrong : ChangeSpec := { name := "servicesBlanks", fn := fun _ => fun
  | [d] => { results := [.lit (.bool false)], args := [d] }
  | _ => none }
def ServicesBlanksWrongFalsely : Prop := servicesBlanksRow.holds Try.pinned (OpenSpec.ofChange servicesBlanksWrong)

/- THE SECOND FORM. 'bulk': how many values and letters a reading holds, each counted each time it is reached (what is shared counts as often as it is met; a slice's spare places count too). A statement '..UptoSaid' is the law's where the arguments, and the package variables that the reading takes, are together of bulk at most 1048576: NARROWER than '..Said'. Prove '..Said' where nothing that the law and all that it calls make is longer than what came in: it says more and counts as full. Else prove '..UptoSaid'. A law counts once. -/
mutual
def uptoBulk {H : Type} : DataW H → Nat
  | .lit (.string bytes) => bytes.length + 1
  | .lit _ => 1
  | .nil => 1
  | .ptr d => uptoBulk d + 1
  | .slice elems spare => uptoBulkAll elems + uptoBulkAll spare + 1
  | .agg parts => uptoBulkAll parts + 1
  | .iface _ d => uptoBulk d + 1
  | .map entries => uptoBulkEntries entries + 1
  | .held _ => 1
def uptoBulkAll {H : Type} : List (DataW H) → Nat
  | [] => 0
  | d :: r => uptoBulk d + uptoBulkAll r
def uptoBulkEntries {H : Type} : List (Lit × DataW H) → Nat
  | [] => 0
  | x :: r => uptoBulkEntry x + uptoBulkEntries r
def uptoBulkEntry {H : Type} : Lit × DataW H → Nat
  | (.string bytes, d) => bytes.length + uptoBulk d + 1
  | (_, d) => uptoBulk d + 1
 end
def uptoSmall : (H : Type) → List (DataW H) → Bool := fun _ ds => decide (uptoBulkAll ds ≤ 1048576)
def OpenSpec.upto (s : _root_.Go.ChangeSpec) : _root_.Go.OpenSpec := { _root_.Go.OpenSpec.ofChange s with cond := some uptoSmall }

/-- 'watchbilllaw17.ServicesDecode', WHERE WHAT IT READS IS OF BULK AT MOST 1048576: true; the input reads as it did. -/
def servicesDecodeUptoRow : OpenClaim := { program := "ytannhioamkkdnaa", sum := "4628f096a8149c1fc5cbd28b10324f94e657f7656008ab23fe726651635881a6", func := "watchbill/watchbilllaw17.ServicesDecode", spec := "servicesDecode", unfollowed := true, recurses := true, loops := true, plainKeys := false, apart := false, narrowed := true }
def ServicesDecodeUptoSaid : Prop := servicesDecodeUptoRow.holds Try.pinned (OpenSpec.upto servicesDecodeSpec)

/-- 'watchbilllaw17.ServicesEncode', WHERE WHAT IT READS IS OF BULK AT MOST 1048576: true; the input reads as it did. -/
def servicesEncodeUptoRow : OpenClaim := { program := "ytannhioamkkdnaa", sum := "4628f096a8149c1fc5cbd28b10324f94e657f7656008ab23fe726651635881a6", func := "watchbill/watchbilllaw17.ServicesEncode", spec := "servicesEncode", unfollowed := true, recurses := true, loops := true, plainKeys := false, apart := false, narrowed := true }
def ServicesEncodeUptoSaid : Prop := servicesEncodeUptoRow.holds Try.pinned (OpenSpec.upto servicesEncodeSpec)

/-- 'watchbilllaw17.ServicesBack', WHERE WHAT IT READS IS OF BULK AT MOST 1048576: true; the input reads as it did. -/
def servicesBackUptoRow : OpenClaim := { program := "ytannhioamkkdnaa", sum := "4628f096a8149c1fc5cbd28b10324f94e657f7656008ab23fe726651635881a6", func := "watchbill/watchbilllaw17.ServicesBack", spec := "servicesBack", unfollowed := true, recurses := true, loops := true, plainKeys := false, apart := false, narrowed := true }
def ServicesBackUptoSaid : Prop := servicesBackUptoRow.holds Try.pinned (OpenSpec.upto servicesBackSpec)

/-- 'watchbilllaw17.ServicesMore', WHERE WHAT IT READS IS OF BULK AT MOST 1048576: true; the input reads as it did. -/
def servicesMoreUptoRow : OpenClaim := { program := "ytannhioamkkdnaa", sum := "4628f096a8149c1fc5cbd28b10324f94e657f7656008ab23fe726651635881a6", func := "watchbill/watchbilllaw17.ServicesMore", spec := "servicesMore", unfollowed := true, recurses := true, loops := true, plainKeys := false, apart := false, narrowed := true }
def ServicesMoreUptoSaid : Prop := servicesMoreUptoRow.holds Try.pinned (OpenSpec.upto servicesMoreSpec)

/-- 'watchbilllaw17.ServicesBlanks', WHERE WHAT IT READS IS OF BULK AT MOST 1048576: true; the input reads as it did. -/
def servicesBlanksUptoRow : OpenClaim := { program := "ytannhioamkkdnaa", sum := "4628f096a8149c1fc5cbd28b10324f94e657f7656008ab23fe726651635881a6", func := "watchbill/watchbilllaw17.ServicesBlanks", spec := "servicesBlanks", unfollowed := true, recurses := true, loops := true, plainKeys := false, apart := false, narrowed := true }
def ServicesBlanksUptoSaid : Prop := servicesBlanksUptoRow.holds Try.pinned (OpenSpec.upto servicesBlanksSpec)

end Rows
end Go.Proofs.Ytannhioamkkdnaa
