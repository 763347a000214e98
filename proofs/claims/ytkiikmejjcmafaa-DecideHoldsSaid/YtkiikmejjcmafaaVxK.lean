/- Texts and bytes; calls that only look at a list that may yet change. -/
import Derived.Test.YtkiikmejjcmafaaVxJ
import Derived.Laws.BytesArg
import Derived.Lib.ConvBytes
namespace Go.Proofs.Vx
open Go Go.RowKit

theorem pu_v {ι w} {x y : Value} (h : Pu ι w (.v x) y) : y = x := (R.pu (ρ := fun _ _ => False) h).v_inv
section
variable {P : Program} {n : Nat} {o : Oper} {σ : St}
/-! ### A call that only looks, and answers plain values -/
def D.look (T : List (Nat × Ob)) : D → D
  | .sref t => match getT T t with | .rows _ _ sz rs => .list sz rs | _ => .junk
  | d => d
end
end Go.Proofs.Vx
