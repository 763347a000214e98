/- Ways that part amid a region; new objects handed back; nil taken for a list of one's own; pointers held against nil. -/
import Derived.Test.YthiopccchgkjcaaVxX
namespace Go.Proofs.Vx
open Go Go.RowKit
set_option linter.unusedSectionVars false
variable [Glo]

def OpsC (P : Program) (n : Nat) (ops : Array Oper) (l : List Oper) (σ : St) (Φ : St → Prop) : Prop :=
  ∀ cx a w Q, Sim cx n σ a w → (∀ σ' a' w', Φ σ' → Sim cx n σ' a' w' → Q Exit.normal a' w') → wpList P ops Q l a w
section
variable {P : Program} {n : Nat} {ops : Array Oper} {l : List Oper} {σ σ₁ σ' : St} {o : Oper} {Φ : St → Prop}
theorem OpsC.cons (hg : o.guard = none) (h : OpOk P n o σ σ₁) (hl : OpsC P n ops l σ₁ Φ) : OpsC P n ops (o :: l) σ Φ := fun cx a w Q hs hq => by
  unfold wpList
  rw [if_pos (by simp [Region.wanted, hg])]
  exact .inl (h cx a w _ _ hs fun a' w' hs' => hl cx a' w' Q hs' hq)
theorem OpsC.done (hl : Le σ' σ) (h : Φ σ') : OpsC P n ops [] σ Φ := fun _ _ _ _ hs hq => hq _ _ _ h (hs.le hl)
end

section
variable {P : Program} {n : Nat} {o : Oper} {σ : St}
end
end Go.Proofs.Vx
