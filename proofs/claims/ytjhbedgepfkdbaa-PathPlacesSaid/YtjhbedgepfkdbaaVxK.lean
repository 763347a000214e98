/- Texts and bytes; calls that only look at a list that may yet change. -/
import Derived.Test.YtjhbedgepfkdbaaVxJ
import Derived.Laws.BytesArg
import Derived.Lib.ConvBytes
namespace Go.Proofs.Vx
open Go Go.RowKit
set_option linter.unusedSectionVars false
variable [Glo]

section
variable {P : Program} {n : Nat} {o : Oper} {σ : St}
def D.plainB : D → Bool
  | .v _ => true
  | .tup ds => ds.all fun d => match d with | .v _ => true | _ => false
  | _ => false
theorem plainB_R {ι ι' : Nat → Nat → Prop} {w w' : World} {ρ ρ' : D → Value → Prop} {d : D} {x : Value} (h : R ι w ρ d x) (hp : d.plainB = true) : R ι' w' ρ' d x := by
  cases d with
  | v y => rw [h.v_inv]; exact .v _
  | tup ds =>
    obtain ⟨vs, rfl, hl, hg⟩ := h.tup_inv
    refine .tup ds vs hl (fun k d y hd hy => ?_)
    simp only [D.plainB, List.all_eq_true] at hp
    have := hp d (List.mem_of_getElem? hd)
    cases d with
    | v z => rw [(hg k _ y hd hy).v_inv]; exact .v _
    | _ => cases this
  | _ => cases hp
end
end Go.Proofs.Vx
