/- Stores into rows that may yet change; results that are rows of the caller's own. -/
import Derived.Test.YtannhioamkkdnaaVxT
namespace Go.Proofs.Vx
open Go Go.RowKit
section
variable {P : Program} {n : Nat} {o : Oper} {σ : St}
end
end Go.Proofs.Vx
namespace Go.Proofs.Vx
open Go Go.RowKit
section
variable {P : Program} {n : Nat} {o : Oper} {σ : St}
end
end Go.Proofs.Vx
namespace Go.Proofs.Vx
open Go Go.RowKit
section
variable {P : Program} {n : Nat} {o : Oper} {σ : St}
end
end Go.Proofs.Vx
namespace Go.Proofs.Vx
open Go Go.RowKit
end Go.Proofs.Vx
namespace Go.Proofs.Vx
open Go Go.RowKit
end Go.Proofs.Vx
