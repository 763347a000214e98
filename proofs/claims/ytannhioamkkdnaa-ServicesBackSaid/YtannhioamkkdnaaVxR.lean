/- Lists whose capacity is their length: what is put behind them goes elsewhere. Arguments that say more. -/
import Derived.Test.YtannhioamkkdnaaVxQ
import Derived.Lib.Bytealg
import Derived.Laws.StandIn
namespace Go.Proofs.Vx
open Go Go.RowKit

section
variable {P : Program} {n : Nat} {o : Oper} {σ : St}
end
end Go.Proofs.Vx
namespace Go.Proofs.Vx
end Go.Proofs.Vx
namespace Go.Proofs.Vx
open Go Go.RowKit
end Go.Proofs.Vx
