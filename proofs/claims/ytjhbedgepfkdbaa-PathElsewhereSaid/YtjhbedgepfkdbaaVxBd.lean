import Derived.Test.YtjhbedgepfkdbaaVxSo
import Derived.Lib.Builder
import Derived.Lib.UnsafeStr
import Derived.Lib.AppendStr
namespace Go.Proofs.Vx
open Go Go.RowKit
set_option linter.unusedSectionVars false
variable [Glo]
section
variable {P:Program} {n:Nat} {o:Oper} {σ:St}
structure Still (w w':World) (tb:Option Nat):Prop where
 os:w'.os=w.os
 tape:w'.tape=w.tape
 output:w'.output=w.output
 size:w.heap.size ≤ w'.heap.size
 block:∀ k,k < w.heap.size→some k ≠ tb→w'.heap[k]? =w.heap[k]?
end
end Go.Proofs.Vx
