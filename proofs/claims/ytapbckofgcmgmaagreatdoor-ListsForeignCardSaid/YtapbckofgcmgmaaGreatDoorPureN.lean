import Derived.Test.YtapbckofgcmgmaaGreatDoorPureA
namespace Go.Proofs.YtapbckofgcmgmaaGreatDoor.Pure
open Go Go.RowKit Go.Proofs.Vx Go.Proofs.YtapbckofgcmgmaaGreatDoor.Sh
set_option linter.unusedSimpArgs false
set_option linter.unusedVariables false
def wRLs:Str:=[114,101,115,111,117,114,99,101,45,108,105,115,116,115]
def okX (x:T_api_Entry):Bool:=(x.Kind == 2) && mayE x
theorem awake:watchbilllaw16_awake 36000000000=some true:=by kernel_rfl
end Go.Proofs.YtapbckofgcmgmaaGreatDoor.Pure
