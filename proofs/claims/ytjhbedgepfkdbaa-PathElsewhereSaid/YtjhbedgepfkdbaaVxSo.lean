import Derived.Test.YtjhbedgepfkdbaaVxZ
import Derived.Sort.OwnSorted
import Derived.Lib.SlicesCompact
namespace Go.Proofs.Vx
open Go Go.RowKit Go.Sort
set_option linter.unusedSectionVars false
variable [Glo]
section
variable {P:Program} {n:Nat} {o:Oper} {σ:St}
end
end Go.Proofs.Vx
