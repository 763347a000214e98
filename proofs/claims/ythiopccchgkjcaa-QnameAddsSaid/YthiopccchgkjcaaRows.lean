/-
  No cell of these rows narrows 'for every input' (looked for: loops, veiled, ifaces, maps, wideKeys, modest, calm, conditions, laid).
  DERIVED. THE GIVEN ROWS OF THIS SEAT. 6 by the template 'for every input the law returns true; each argument reads behind the call as it read before'; 0 by the template 'total and deterministic' (their statements: YthiopccchgkjcaaTotals.lean).
  GIVEN WITH THE SEED: the statements are not yours to turn. If you find one false, say at which input.
  Laid BY PROGRAM, IN A SANDBOX (cutbox-rows.mjs): the forced cells as the released guide's own fill.sh prints them over the translation b2e0927357fd84a4… (all of the seat's roots in one cut). By AI agents, Wed Nov 11 2026. No macro, syntax, notation, axiom, sorry.
-/
import Derived.Test.YthiopccchgkjcaaChecked
import GoSem.Claim
import GoSem.ClaimJoined
import GoSem.ClaimMapViews
import Derived.JoinedTies
import Derived.KernelRfl
namespace Go.Proofs.Ythiopccchgkjcaa
/- THE CELL 'sum', in the pinned program and in every row, IS THE sha256 OF THE DUMP (.gsa) THAT YthiopccchgkjcaaProg.lean LOADS. Nothing in Lean hashes anything: it is a label: what it is worth is what the hold of that sum in a sandbox is worth. -/
noncomputable def Try.pinned : Pinned := { name := "ythiopccchgkjcaa", sum := "b2e0927357fd84a48de27526bff0d4e2b7b7959437ecb7b3ec3ed2486b73e12b", checked := Try.checked }
namespace Rows
def none {H : Type} : Left H := { results := [], args := [] }

/-- 'watchbilllaw02.QnameSplits': WHATEVER THE INPUT: true; the input reads as it did. -/
def qnameSplitsSpec : ChangeSpec := { name := "qnameSplits", fn := fun _ => fun
  | [d] => { results := [.lit (.bool true)], args := [d] }
  | _ => none }
def qnameSplitsRow : OpenClaim := { program := "ythiopccchgkjcaa", sum := "b2e0927357fd84a48de27526bff0d4e2b7b7959437ecb7b3ec3ed2486b73e12b", func := "watchbill/watchbilllaw02.QnameSplits", spec := "qnameSplits", inPlace := ["internal/bytealg.IndexByteString", "internal/bytealg.IndexString"], unfollowed := true, recurses := true, named := ["internal/bytealg.MaxLen"], plainKeys := false, apart := false }
def QnameSplitsSaid : Prop := qnameSplitsRow.holds Try.pinned (OpenSpec.ofChange qnameSplitsSpec)

/-- ITS FALSE NEIGHBOUR: 'it returns false'. Refute it at one input. -/
def qnameSplitsWrong : ChangeSpec := { name := "qnameSplits", fn := fun _ => fun
  | [d] => { results := [.lit (.bool false)], args := [d] }
  | _ => none }
def QnameSplitsWrongFalsely : Prop := qnameSplitsRow.holds Try.pinned (OpenSpec.ofChange qnameSplitsWrong)

/-- 'watchbilllaw02.QnameAdds': WHATEVER THE INPUT: true; the input reads as it did. -/
def qnameAddsSpec : ChangeSpec := { name := "qnameAdds", fn := fun _ => fun
  | [d1, d2, d3, d4] => { results := [.lit (.bool true)], args := [d1, d2, d3, d4] }
  | _ => none }
def qnameAddsRow : OpenClaim := { program := "ythiopccchgkjcaa", sum := "b2e0927357fd84a48de27526bff0d4e2b7b7959437ecb7b3ec3ed2486b73e12b", func := "watchbill/watchbilllaw02.QnameAdds", spec := "qnameAdds", inPlace := ["internal/bytealg.IndexByteString", "internal/bytealg.IndexString"], unfollowed := true, recurses := true, named := ["internal/bytealg.MaxLen"], plainKeys := false, apart := false }
def QnameAddsSaid : Prop := qnameAddsRow.holds Try.pinned (OpenSpec.ofChange qnameAddsSpec)

/-- ITS FALSE NEIGHBOUR: 'it returns false'. Refute it at one input. -/
def qnameAddsWrong : ChangeSpec := { name := "qnameAdds", fn := fun _ => fun
  | [d1, d2, d3, d4] => { results := [.lit (.bool false)], args := [d1, d2, d3, d4] }
  | _ => none }
def QnameAddsWrongFalsely : Prop := qnameAddsRow.holds Try.pinned (OpenSpec.ofChange qnameAddsWrong)

/-- 'watchbilllaw02.QnameResolves': WHATEVER THE INPUT: true; the input reads as it did. -/
def qnameResolvesSpec : ChangeSpec := { name := "qnameResolves", fn := fun _ => fun
  | [d1, d2, d3] => { results := [.lit (.bool true)], args := [d1, d2, d3] }
  | _ => none }
def qnameResolvesRow : OpenClaim := { program := "ythiopccchgkjcaa", sum := "b2e0927357fd84a48de27526bff0d4e2b7b7959437ecb7b3ec3ed2486b73e12b", func := "watchbill/watchbilllaw02.QnameResolves", spec := "qnameResolves", inPlace := ["internal/bytealg.IndexByteString", "internal/bytealg.IndexString"], unfollowed := true, recurses := true, named := ["internal/bytealg.MaxLen"], plainKeys := false, apart := false }
def QnameResolvesSaid : Prop := qnameResolvesRow.holds Try.pinned (OpenSpec.ofChange qnameResolvesSpec)

/-- ITS FALSE NEIGHBOUR: 'it returns false'. Refute it at one input. -/
def qnameResolvesWrong : ChangeSpec := { name := "qnameResolves", fn := fun _ => fun
  | [d1, d2, d3] => { results := [.lit (.bool false)], args := [d1, d2, d3] }
  | _ => none }
def QnameResolvesWrongFalsely : Prop := qnameResolvesRow.holds Try.pinned (OpenSpec.ofChange qnameResolvesWrong)

/-- 'watchbilllaw02.QnameInner': WHATEVER THE INPUT: true; the input reads as it did. -/
def qnameInnerSpec : ChangeSpec := { name := "qnameInner", fn := fun _ => fun
  | [d1, d2, d3, d4] => { results := [.lit (.bool true)], args := [d1, d2, d3, d4] }
  | _ => none }
def qnameInnerRow : OpenClaim := { program := "ythiopccchgkjcaa", sum := "b2e0927357fd84a48de27526bff0d4e2b7b7959437ecb7b3ec3ed2486b73e12b", func := "watchbill/watchbilllaw02.QnameInner", spec := "qnameInner", inPlace := ["internal/bytealg.IndexByteString", "internal/bytealg.IndexString"], unfollowed := true, recurses := true, named := ["internal/bytealg.MaxLen"], plainKeys := false, apart := false }
def QnameInnerSaid : Prop := qnameInnerRow.holds Try.pinned (OpenSpec.ofChange qnameInnerSpec)

/-- ITS FALSE NEIGHBOUR: 'it returns false'. Refute it at one input. -/
def qnameInnerWrong : ChangeSpec := { name := "qnameInner", fn := fun _ => fun
  | [d1, d2, d3, d4] => { results := [.lit (.bool false)], args := [d1, d2, d3, d4] }
  | _ => none }
def QnameInnerWrongFalsely : Prop := qnameInnerRow.holds Try.pinned (OpenSpec.ofChange qnameInnerWrong)

/-- 'watchbilllaw02.QnameOrder': WHATEVER THE INPUT: true; the input reads as it did. -/
def qnameOrderSpec : ChangeSpec := { name := "qnameOrder", fn := fun _ => fun
  | [d1, d2] => { results := [.lit (.bool true)], args := [d1, d2] }
  | _ => none }
def qnameOrderRow : OpenClaim := { program := "ythiopccchgkjcaa", sum := "b2e0927357fd84a48de27526bff0d4e2b7b7959437ecb7b3ec3ed2486b73e12b", func := "watchbill/watchbilllaw02.QnameOrder", spec := "qnameOrder", inPlace := ["internal/bytealg.IndexByteString", "internal/bytealg.IndexString"], unfollowed := true, recurses := true, named := ["internal/bytealg.MaxLen"], plainKeys := false, apart := false }
def QnameOrderSaid : Prop := qnameOrderRow.holds Try.pinned (OpenSpec.ofChange qnameOrderSpec)

/-- ITS FALSE NEIGHBOUR: 'it returns false'. Refute it at one input. -/
def qnameOrderWrong : ChangeSpec := { name := "qnameOrder", fn := fun _ => fun
  | [d1, d2] => { results := [.lit (.bool false)], args := [d1, d2] }
  | _ => none }
def QnameOrderWrongFalsely : Prop := qnameOrderRow.holds Try.pinned (OpenSpec.ofChange qnameOrderWrong)

/-- 'watchbilllaw02.QnameDeclares': WHATEVER THE INPUT: true; the input reads as it did. -/
def qnameDeclaresSpec : ChangeSpec := { name := "qnameDeclares", fn := fun _ => fun
  | [d1, d2] => { results := [.lit (.bool true)], args := [d1, d2] }
  | _ => none }
def qnameDeclaresRow : OpenClaim := { program := "ythiopccchgkjcaa", sum := "b2e0927357fd84a48de27526bff0d4e2b7b7959437ecb7b3ec3ed2486b73e12b", func := "watchbill/watchbilllaw02.QnameDeclares", spec := "qnameDeclares", inPlace := ["internal/bytealg.IndexByteString", "internal/bytealg.IndexString"], unfollowed := true, recurses := true, named := ["internal/bytealg.MaxLen"], plainKeys := false, apart := false }
def QnameDeclaresSaid : Prop := qnameDeclaresRow.holds Try.pinned (OpenSpec.ofChange qnameDeclaresSpec)

/-- ITS FALSE NEIGHBOUR: 'it returns false'. Refute it at one input. -/
def qnameDeclaresWrong : ChangeSpec := { name := "qnameDeclares", fn := fun _ => fun
  | [d1, d2] => { results := [.lit (.bool false)], args := [d1, d2] }
  | _ => none }
def QnameDeclaresWrongFalsely : Prop := qnameDeclaresRow.holds Try.pinned (OpenSpec.ofChange qnameDeclaresWrong)

/- THE SECOND FORM. 'bulk': how many values and letters a reading holds, each counted each time it is reached (what is shared counts as often as it is met; a slice's spare places count too). A statement '..UptoSaid' is the law's where the arguments, and the package variables that the reading takes, are together of bulk at most 1048576: NARROWER than '..Said'. Prove '..Said' where nothing that the law and all that it calls make is longer than what came in: it says more and counts as full. Else prove '..UptoSaid'. A law counts once. -/
mutual
def uptoBulk {H : Type} : DataW H → Nat
  | .lit (.string bytes) => bytes.length + 1
  | .lit _ => 1
  | .nil => 1
  | .ptr d => uptoBulk d + 1
  | .slice elems spare => uptoBulkAll elems + uptoBulkAll spare + 1
  | .agg parts => uptoBulkAll parts + 1
  | .iface _ d => uptoBulk d + 1
  | .map entries => uptoBulkEntries entries + 1
  | .held _ => 1
def uptoBulkAll {H : Type} : List (DataW H) → Nat
  | [] => 0
  | d :: r => uptoBulk d + uptoBulkAll r
def uptoBulkEntries {H : Type} : List (Lit × DataW H) → Nat
  | [] => 0
  | x :: r => uptoBulkEntry x + uptoBulkEntries r
def uptoBulkEntry {H : Type} : Lit × DataW H → Nat
  | (.string bytes, d) => bytes.length + uptoBulk d + 1
  | (_, d) => uptoBulk d + 1
 end
def uptoSmall : (H : Type) → List (DataW H) → Bool := fun _ ds => decide (uptoBulkAll ds ≤ 1048576)
def OpenSpec.upto (s : _root_.Go.ChangeSpec) : _root_.Go.OpenSpec := { _root_.Go.OpenSpec.ofChange s with cond := some uptoSmall }

/-- 'watchbilllaw02.QnameSplits', WHERE WHAT IT READS IS OF BULK AT MOST 1048576: true; the input reads as it did. -/
def qnameSplitsUptoRow : OpenClaim := { program := "ythiopccchgkjcaa", sum := "b2e0927357fd84a48de27526bff0d4e2b7b7959437ecb7b3ec3ed2486b73e12b", func := "watchbill/watchbilllaw02.QnameSplits", spec := "qnameSplits", inPlace := ["internal/bytealg.IndexByteString", "internal/bytealg.IndexString"], unfollowed := true, recurses := true, named := ["internal/bytealg.MaxLen"], plainKeys := false, apart := false, narrowed := true }
def QnameSplitsUptoSaid : Prop := qnameSplitsUptoRow.holds Try.pinned (OpenSpec.upto qnameSplitsSpec)

/-- 'watchbilllaw02.QnameAdds', WHERE WHAT IT READS IS OF BULK AT MOST 1048576: true; the input reads as it did. -/
def qnameAddsUptoRow : OpenClaim := { program := "ythiopccchgkjcaa", sum := "b2e0927357fd84a48de27526bff0d4e2b7b7959437ecb7b3ec3ed2486b73e12b", func := "watchbill/watchbilllaw02.QnameAdds", spec := "qnameAdds", inPlace := ["internal/bytealg.IndexByteString", "internal/bytealg.IndexString"], unfollowed := true, recurses := true, named := ["internal/bytealg.MaxLen"], plainKeys := false, apart := false, narrowed := true }
def QnameAddsUptoSaid : Prop := qnameAddsUptoRow.holds Try.pinned (OpenSpec.upto qnameAddsSpec)

/-- 'watchbilllaw02.QnameResolves', WHERE WHAT IT READS IS OF BULK AT MOST 1048576: true; the input reads as it did. -/
def qnameResolvesUptoRow : OpenClaim := { program := "ythiopccchgkjcaa", sum := "b2e0927357fd84a48de27526bff0d4e2b7b7959437ecb7b3ec3ed2486b73e12b", func := "watchbill/watchbilllaw02.QnameResolves", spec := "qnameResolves", inPlace := ["internal/bytealg.IndexByteString", "internal/bytealg.IndexString"], unfollowed := true, recurses := true, named := ["internal/bytealg.MaxLen"], plainKeys := false, apart := false, narrowed := true }
def QnameResolvesUptoSaid : Prop := qnameResolvesUptoRow.holds Try.pinned (OpenSpec.upto qnameResolvesSpec)

/-- 'watchbilllaw02.QnameInner', WHERE WHAT IT READS IS OF BULK AT MOST 1048576: true; the input reads as it did. -/
def qnameInnerUptoRow : OpenClaim := { program := "ythiopccchgkjcaa", sum := "b2e0927357fd84a48de27526bff0d4e2b7b7959437ecb7b3ec3ed2486b73e12b", func := "watchbill/watchbilllaw02.QnameInner", spec := "qnameInner", inPlace := ["internal/bytealg.IndexByteString", "internal/bytealg.IndexString"], unfollowed := true, recurses := true, named := ["internal/bytealg.MaxLen"], plainKeys := false, apart := false, narrowed := true }
def QnameInnerUptoSaid : Prop := qnameInnerUptoRow.holds Try.pinned (OpenSpec.upto qnameInnerSpec)

/-- 'watchbilllaw02.QnameOrder', WHERE WHAT IT READS IS OF BULK AT MOST 1048576: true; the input reads as it did. -/
def qnameOrderUptoRow : OpenClaim := { program := "ythiopccchgkjcaa", sum := "b2e0927357fd84a48de27526bff0d4e2b7b7959437ecb7b3ec3ed2486b73e12b", func := "watchbill/watchbilllaw02.QnameOrder", spec := "qnameOrder", inPlace := ["internal/bytealg.IndexByteString", "internal/bytealg.IndexString"], unfollowed := true, recurses := true, named := ["internal/bytealg.MaxLen"], plainKeys := false, apart := false, narrowed := true }
def QnameOrderUptoSaid : Prop := qnameOrderUptoRow.holds Try.pinned (OpenSpec.upto qnameOrderSpec)

/-- 'watchbilllaw02.QnameDeclares', WHERE WHAT IT READS IS OF BULK AT MOST 1048576: true; the input reads as it did. -/
def qnameDeclaresUptoRow : OpenClaim := { program := "ythiopccchgkjcaa", sum := "b2e0927357fd84a48de27526bff0d4e2b7b7959437ecb7b3ec3ed2486b73e12b", func := "watchbill/watchbilllaw02.QnameDeclares", spec := "qnameDeclares", inPlace := ["internal/bytealg.IndexByteString", "internal/bytealg.IndexString"], unfollowed := true, recurses := true, named := ["internal/bytealg.MaxLen"], plainKeys := false, apart := false, narrowed := true }
def QnameDeclaresUptoSaid : Prop := qnameDeclaresUptoRow.holds Try.pinned (OpenSpec.upto qnameDeclaresSpec)

end Rows
end Go.Proofs.Ythiopccchgkjcaa
