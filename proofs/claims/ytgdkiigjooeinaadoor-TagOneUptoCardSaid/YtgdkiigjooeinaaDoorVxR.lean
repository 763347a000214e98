/- Lists whose capacity is their length: what is put behind them goes elsewhere. Arguments that say more. -/
import Derived.Test.YtgdkiigjooeinaaDoorVxQ
import Derived.Lib.Bytealg
import Derived.Laws.StandIn
namespace Go.Proofs.Vx
open Go Go.RowKit
set_option linter.unusedSectionVars false
variable [Glo]

section
variable {P : Program} {n : Nat} {o : Oper} {σ : St}
end
end Go.Proofs.Vx
namespace Go.Proofs.Vx
variable [Glo]
end Go.Proofs.Vx
namespace Go.Proofs.Vx
open Go Go.RowKit
variable [Glo]
end Go.Proofs.Vx
