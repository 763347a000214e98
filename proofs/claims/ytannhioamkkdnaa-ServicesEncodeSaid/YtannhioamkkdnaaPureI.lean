/- Proved here: a service more. -/
import Derived.Test.YtannhioamkkdnaaPureH
namespace Go.Proofs.Ytannhioamkkdnaa.Pure
open Go Go.RowKit Go.Proofs.Vx Go.Proofs.Ytannhioamkkdnaa.Sh
set_option linter.unusedSimpArgs false
set_option linter.unusedVariables false

theorem encS_code (l : List T_api_Service) : (encS l).2 = if l.all mayV = true then (if (l.all fun x => uqF [] x.List_) = true ∧ dstS [] l = true then 0 else 41) else 4 := by
  unfold encS
  split
  · split <;> rfl
  · rfl
end Go.Proofs.Ytannhioamkkdnaa.Pure
