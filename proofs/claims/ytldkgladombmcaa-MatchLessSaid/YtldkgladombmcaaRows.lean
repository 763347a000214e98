/-
  NARROWER THAN 'FOR EVERY INPUT', by the rows' own cells (each row's printed sentence says how): MatchFinds: loops · MatchSelects: loops · MatchLess: loops · MatchEach: loops.
  DERIVED. THE GIVEN ROWS OF THIS SEAT. 4 by the template 'for every input the law returns true; each argument reads behind the call as it read before'; 0 by the template 'total and deterministic' (their statements: YtldkgladombmcaaTotals.lean).
  GIVEN WITH THE SEED: the statements are not yours to turn. If you find one false, say at which input.
  Laid BY PROGRAM, IN A SANDBOX (cutbox-rows.mjs): the forced cells as the released guide's own fill.sh prints them over the translation 4cd3c9f5975af3e4… (all of the seat's roots in one cut). By AI agents, Wed Nov 11 2026. No macro, syntax, notation, axiom, sorry.
-/
import Derived.Test.YtldkgladombmcaaChecked
import GoSem.Claim
import GoSem.ClaimJoined
import GoSem.ClaimMapViews
import Derived.JoinedTies
import Derived.KernelRfl
namespace Go.Proofs.Ytldkgladombmcaa
/- THE CELL 'sum', in the pinned program and in every row, IS THE sha256 OF THE DUMP (.gsa) THAT YtldkgladombmcaaProg.lean LOADS. Nothing in Lean hashes anything: it is a label: what it is worth is what the hold of that sum in a sandbox is worth. -/
noncomputable def Try.pinned : Pinned := { name := "ytldkgladombmcaa", sum := "4cd3c9f5975af3e4a910504f8a1798b93608ae179f7b12b747de84bd8a2e5f4c", checked := Try.checked }
namespace Rows
def none {H : Type} : Left H := { results := [], args := [] }

/-- 'watchbilllaw12.MatchFinds': WHATEVER THE INPUT: true; the input reads as it did. -/
def matchFindsSpec : ChangeSpec := { name := "matchFinds", fn := fun _ => fun
  | [d1, d2, d3, d4] => { results := [.lit (.bool true)], args := [d1, d2, d3, d4] }
  | _ => none }
def matchFindsRow : OpenClaim := { program := "ytldkgladombmcaa", sum := "4cd3c9f5975af3e4a910504f8a1798b93608ae179f7b12b747de84bd8a2e5f4c", func := "watchbill/watchbilllaw12.MatchFinds", spec := "matchFinds", unfollowed := true, recurses := true, loops := true, apart := false }
def MatchFindsSaid : Prop := matchFindsRow.holds Try.pinned (OpenSpec.ofChange matchFindsSpec)

/-- ITS FALSE NEIGHBOUR: 'it returns false'. Refute it at one input. -/
def matchFindsWrong : ChangeSpec := { name := "matchFinds", fn := fun _ => fun
  | [d1, d2, d3, d4] => { results := [.lit (.bool false)], args := [d1, d2, d3, d4] }
  | _ => none }
def MatchFindsWrongFalsely : Prop := matchFindsRow.holds Try.pinned (OpenSpec.ofChange matchFindsWrong)

/-- 'watchbilllaw12.MatchSelects': WHATEVER THE INPUT: true; the input reads as it did. -/
def matchSelectsSpec : ChangeSpec := { name := "matchSelects", fn := fun _ => fun
  | [d1, d2] => { results := [.lit (.bool true)], args := [d1, d2] }
  | _ => none }
def matchSelectsRow : OpenClaim := { program := "ytldkgladombmcaa", sum := "4cd3c9f5975af3e4a910504f8a1798b93608ae179f7b12b747de84bd8a2e5f4c", func := "watchbill/watchbilllaw12.MatchSelects", spec := "matchSelects", unfollowed := true, recurses := true, loops := true, apart := false }
def MatchSelectsSaid : Prop := matchSelectsRow.holds Try.pinned (OpenSpec.ofChange matchSelectsSpec)

/-- ITS FALSE NEIGHBOUR: 'it returns false'. Refute it at one input. -/
def matchSelectsWrong : ChangeSpec := { name := "matchSelects", fn := fun _ => fun
  | [d1, d2] => { results := [.lit (.bool false)], args := [d1, d2] }
  | _ => none }
def MatchSelectsWrongFalsely : Prop := matchSelectsRow.holds Try.pinned (OpenSpec.ofChange matchSelectsWrong)

/-- 'watchbilllaw12.MatchLess': WHATEVER THE INPUT: true; the input reads as it did. -/
def matchLessSpec : ChangeSpec := { name := "matchLess", fn := fun _ => fun
  | [d1, d2, d3, d4] => { results := [.lit (.bool true)], args := [d1, d2, d3, d4] }
  | _ => none }
def matchLessRow : OpenClaim := { program := "ytldkgladombmcaa", sum := "4cd3c9f5975af3e4a910504f8a1798b93608ae179f7b12b747de84bd8a2e5f4c", func := "watchbill/watchbilllaw12.MatchLess", spec := "matchLess", unfollowed := true, recurses := true, loops := true, apart := false }
def MatchLessSaid : Prop := matchLessRow.holds Try.pinned (OpenSpec.ofChange matchLessSpec)

/-- ITS FALSE NEIGHBOUR: 'it returns false'. Refute it at one input. -/
def matchLessWrong : ChangeSpec := { name := "matchLess", fn := fun _ => fun
  | [d1, d2, d3, d4] => { results := [.lit (.bool false)], args := [d1, d2, d3, d4] }
  | _ => none }
def MatchLessWrongFalsely : Prop := matchLessRow.holds Try.pinned (OpenSpec.ofChange matchLessWrong)

/-- 'watchbilllaw12.MatchEach': WHATEVER THE INPUT: true; the input reads as it did. -/
def matchEachSpec : ChangeSpec := { name := "matchEach", fn := fun _ => fun
  | [d] => { results := [.lit (.bool true)], args := [d] }
  | _ => none }
def matchEachRow : OpenClaim := { program := "ytldkgladombmcaa", sum := "4cd3c9f5975af3e4a910504f8a1798b93608ae179f7b12b747de84bd8a2e5f4c", func := "watchbill/watchbilllaw12.MatchEach", spec := "matchEach", unfollowed := true, recurses := true, loops := true, apart := false }
def MatchEachSaid : Prop := matchEachRow.holds Try.pinned (OpenSpec.ofChange matchEachSpec)

/-- ITS FALSE NEIGHBOUR: 'it returns false'. Refute it at one input. -/
def matchEachWrong : ChangeSpec := { name := "matchEach", fn := fun _ => fun
  | [d] => { results := [.lit (.bool false)], args := [d] }
  | _ => none }
def MatchEachWrongFalsely : Prop := matchEachRow.holds Try.pinned (OpenSpec.ofChange matchEachWrong)

/- THE SECOND FORM. 'bulk': how many values and letters a reading holds, each counted each time it is reached (what is shared counts as often as it is met; a slice's spare places count too). A statement '..UptoSaid' is the law's where the arguments, and the package variables that the reading takes, are together of bulk at most 1048576: NARROWER than '..Said'. Prove '..Said' where nothing that the law and all that it calls make is longer than what came in: it says more and counts as full. Else prove '..UptoSaid'. A law counts once. -/
mutual
def uptoBulk {H : Type} : DataW H → Nat
  | .lit (.string bytes) => bytes.length + 1
  | .lit _ => 1
  | .nil => 1
  | .ptr d => uptoBulk d + 1
  | .slice elems spare => uptoBulkAll elems + uptoBulkAll spare + 1
  | .agg parts => uptoBulkAll parts + 1
  | .iface _ d => uptoBulk d + 1
  | .map entries => uptoBulkEntries entries + 1
  | .held _ => 1
def uptoBulkAll {H : Type} : List (DataW H) → Nat
  | [] => 0
  | d :: r => uptoBulk d + uptoBulkAll r
def uptoBulkEntries {H : Type} : List (Lit × DataW H) → Nat
  | [] => 0
  | x :: r => uptoBulkEntry x + uptoBulkEntries r
def uptoBulkEntry {H : Type} : Lit × DataW H → Nat
  | (.string bytes, d) => bytes.length + uptoBulk d + 1
  | (_, d) => uptoBulk d + 1
 end
def uptoSmall : (H : Type) → List (DataW H) → Bool := fun _ ds => decide (uptoBulkAll ds ≤ 1048576)
def OpenSpec.upto (s : _root_.Go.ChangeSpec) : _root_.Go.OpenSpec := { _root_.Go.OpenSpec.ofChange s with cond := some uptoSmall }

/-- 'watchbilllaw12.MatchFinds', WHERE WHAT IT READS IS OF BULK AT MOST 1048576: true; the input reads as it did. -/
def matchFindsUptoRow : OpenClaim := { program := "ytldkgladombmcaa", sum := "4cd3c9f5975af3e4a910504f8a1798b93608ae179f7b12b747de84bd8a2e5f4c", func := "watchbill/watchbilllaw12.MatchFinds", spec := "matchFinds", unfollowed := true, recurses := true, loops := true, apart := false, narrowed := true }
def MatchFindsUptoSaid : Prop := matchFindsUptoRow.holds Try.pinned (OpenSpec.upto matchFindsSpec)

/-- 'watchbilllaw12.MatchSelects', WHERE WHAT IT READS IS OF BULK AT MOST 1048576: true; the input reads as it did. -/
def matchSelectsUptoRow : OpenClaim := { program := "ytldkgladombmcaa", sum := "4cd3c9f5975af3e4a910504f8a1798b93608ae179f7b12b747de84bd8a2e5f4c", func := "watchbill/watchbilllaw12.MatchSelects", spec := "matchSelects", unfollowed := true, recurses := true, loops := true, apart := false, narrowed := true }
def MatchSelectsUptoSaid : Prop := matchSelectsUptoRow.holds Try.pinned (OpenSpec.upto matchSelectsSpec)

/-- 'watchbilllaw12.MatchLess', WHERE WHAT IT READS IS OF BULK AT MOST 1048576: true; the input reads as it did. -/
def matchLessUptoRow : OpenClaim := { program := "ytldkgladombmcaa", sum := "4cd3c9f5975af3e4a910504f8a1798b93608ae179f7b12b747de84bd8a2e5f4c", func := "watchbill/watchbilllaw12.MatchLess", spec := "matchLess", unfollowed := true, recurses := true, loops := true, apart := false, narrowed := true }
def MatchLessUptoSaid : Prop := matchLessUptoRow.holds Try.pinned (OpenSpec.upto matchLessSpec)

/-- 'watchbilllaw12.MatchEach', WHERE WHAT IT READS IS OF BULK AT MOST 1048576: true; the input reads as it did. -/
def matchEachUptoRow : OpenClaim := { program := "ytldkgladombmcaa", sum := "4cd3c9f5975af3e4a910504f8a1798b93608ae179f7b12b747de84bd8a2e5f4c", func := "watchbill/watchbilllaw12.MatchEach", spec := "matchEach", unfollowed := true, recurses := true, loops := true, apart := false, narrowed := true }
def MatchEachUptoSaid : Prop := matchEachUptoRow.holds Try.pinned (OpenSpec.upto matchEachSpec)

end Rows
end Go.Proofs.Ytldkgladombmcaa
