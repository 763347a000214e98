/- The bytes of a text, of one's own, stored into (`b := []byte(s)`, b[i] = c, string(b)). -/
import Derived.Test.YthiopccchgkjcaaVxU
import Derived.Test.YthiopccchgkjcaaVxL
namespace Go.Proofs.Vx
open Go Go.RowKit
set_option linter.unusedSectionVars false
set_option linter.unusedVariables false
variable [Glo]
variable {P : Program} {n : Nat} {o : Oper} {σ : St}

end Go.Proofs.Vx
