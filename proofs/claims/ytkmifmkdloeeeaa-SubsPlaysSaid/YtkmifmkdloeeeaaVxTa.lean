/- Regions that draw their order, but for their last operation: it hangs on all others, and may do what it will. -/
import Derived.Test.YtkmifmkdloeeeaaVxBd
set_option linter.unusedVariables false
namespace Go.Proofs.Vx
open Go Go.RowKit
set_option linter.unusedSectionVars false
variable [Glo]

section
variable {P : Program} {n : Nat} {ops pre : Array Oper} {last : Oper} {Q : Exit → Act → World → Prop}
end

section
variable {P : Program} {n : Nat}
def OkD (P : Program) (n : Nat) (ops : Array Oper) (σ σ' : St) : Prop :=
  ∀ cx a w Q, Sim cx n σ a w → (∀ a' w', Sim cx n σ' a' w' → Q Exit.normal a' w') → wpAny P .any ops Q ops.size (Array.replicate ops.size false) a { w with drawn := w.drawn + 1 }
theorem OkD.le {ops : Array Oper} {σ σ1 σ2 : St} (h : OkD P n ops σ σ1) (hl : SLe σ2 σ1) : OkD P n ops σ σ2 := fun cx a w Q hs hq => h cx a w Q hs fun a' w' hs' => hq a' w' (hl _ _ _ _ hs')
end
end Go.Proofs.Vx
