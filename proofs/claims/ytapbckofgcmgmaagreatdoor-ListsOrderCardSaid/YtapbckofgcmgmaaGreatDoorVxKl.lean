import Derived.Test.YtapbckofgcmgmaaGreatDoorVxSl
import Derived.Test.YtapbckofgcmgmaaGreatDoorVxTa
namespace Go.Proofs.Vx
open Go Go.RowKit
set_option linter.unusedSectionVars false
variable [Glo]
section
variable {P:Program} {n:Nat} {o:Oper} {σ:St}
theorem OkD.last {ops:Array Oper} {σ σ1 σ2:St} (cert:List (List Nat)) (h:OkD P n ops.pop σ σ1) (hL:lastB ops cert=true) (hl:OpOk P n (lastOf ops) σ1 σ2):OkD P n ops σ σ2:=by
 simp only [lastB,Bool.and_eq_true] at hL
 exact OkD.snoc h (lastOf_eq hL.1.1) (by rw [Bool.and_eq_true]; exact hL.1.2) (by simpa using hL.2) hl
end
end Go.Proofs.Vx
