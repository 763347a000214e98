/- Stores into rows that may yet change; results that are rows of the caller's own. -/
import Derived.Test.YthiopccchgkjcaaVxT
namespace Go.Proofs.Vx
open Go Go.RowKit
set_option linter.unusedSectionVars false
variable [Glo]
section
variable {P : Program} {n : Nat} {o : Oper} {σ : St}
end
end Go.Proofs.Vx
namespace Go.Proofs.Vx
open Go Go.RowKit
variable [Glo]
section
variable {P : Program} {n : Nat} {o : Oper} {σ : St}
end
end Go.Proofs.Vx
namespace Go.Proofs.Vx
open Go Go.RowKit
variable [Glo]
section
variable {P : Program} {n : Nat} {o : Oper} {σ : St}
end
end Go.Proofs.Vx
namespace Go.Proofs.Vx
open Go Go.RowKit
variable [Glo]
end Go.Proofs.Vx
namespace Go.Proofs.Vx
open Go Go.RowKit
variable [Glo]
end Go.Proofs.Vx
