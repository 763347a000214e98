import Derived.Test.YtapbckofgcmgmaaGreatDoorVxN
namespace Go.Proofs.Vx
open Go Go.RowKit
set_option linter.unusedSectionVars false
variable [Glo]
theorem w64 {x:Int} (h:-9223372036854775808 ≤ x) (h2:x ≤ 9223372036854775807):IntKind.i64.wrap x=x:=by
 simp [IntKind.wrap,IntKind.bits,IntKind.signed]; omega
theorem rd_drop {α:Type} [Inhabited α] {xs:List α} {i:Nat} (h:i < xs.length):xs.drop i=rd xs (i:Int) :: xs.drop (i + 1):=by
 rw [List.drop_eq_getElem_cons h]; simp [rd,h]
end Go.Proofs.Vx
