/- Proved here: services, read as the program does and as the document does. -/
import Derived.Test.YtannhioamkkdnaaPureD
namespace Go.Proofs.Ytannhioamkkdnaa.Pure
open Go Go.RowKit Go.Proofs.Vx Go.Proofs.Ytannhioamkkdnaa.Sh
set_option linter.unusedSimpArgs false
set_option linter.unusedVariables false

def wPkgs : Str := [112, 97, 99, 107, 97, 103, 101, 115]
def wPkg : Str := [112, 97, 99, 107, 97, 103, 101]
def wRL : Str := [114, 101, 115, 111, 117, 114, 99, 101, 45, 108, 105, 115, 116]
def wSvc : Str := [115, 101, 114, 118, 105, 99, 101]
def wRls : Str := [114, 108, 115, 45, 115, 101, 114, 118, 105, 99, 101, 115]

end Go.Proofs.Ytannhioamkkdnaa.Pure
