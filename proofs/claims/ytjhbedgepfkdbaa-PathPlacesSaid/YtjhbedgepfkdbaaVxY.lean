/- Ways that part amid a region; new objects handed back; nil taken for a list of one's own; pointers held against nil. -/
import Derived.Test.YtjhbedgepfkdbaaVxX
namespace Go.Proofs.Vx
open Go Go.RowKit
set_option linter.unusedSectionVars false
variable [Glo]

def OpsC (P : Program) (n : Nat) (ops : Array Oper) (l : List Oper) (σ : St) (Φ : St → Prop) : Prop :=
  ∀ cx a w Q, Sim cx n σ a w → (∀ σ' a' w', Φ σ' → Sim cx n σ' a' w' → Q Exit.normal a' w') → wpList P ops Q l a w
section
variable {P : Program} {n : Nat} {ops : Array Oper} {l : List Oper} {σ σ₁ σ' : St} {o : Oper} {Φ : St → Prop}
theorem OpsC.cons (hg : o.guard = none) (h : OpOk P n o σ σ₁) (hl : OpsC P n ops l σ₁ Φ) : OpsC P n ops (o :: l) σ Φ := fun cx a w Q hs hq => by
  unfold wpList
  rw [if_pos (by simp [Region.wanted, hg])]
  exact .inl (h cx a w _ _ hs fun a' w' hs' => hl cx a' w' Q hs' hq)
theorem OpsC.sle (hl : SLe σ' σ) (h : OpsC P n ops l σ' Φ) : OpsC P n ops l σ Φ := fun cx a w Q hs hq => h cx a w Q (hl _ _ _ _ hs) hq
theorem OpsC.cut (hl : Le σ σ') (h : OpsC P n ops l σ Φ) : OpsC P n ops l σ' Φ := .sle hl.s h
theorem OpsC.frzBox (t : Nat) {cells : List D} (hb : getT σ.T t = .box .ex cells) (hf : cells.all D.flat1 = true) (h : OpsC P n ops l ⟨subFr t (toFp cells) σ.fr, subT t (toFp cells) σ.T⟩ Φ) : OpsC P n ops l σ Φ :=
  fun cx a w Q hs hq => h cx a w Q (hs.frzBox hb hf) hq
theorem OpsC.done (hl : Le σ' σ) (h : Φ σ') : OpsC P n ops [] σ Φ := fun _ _ _ _ hs hq => hq _ _ _ h (hs.le hl)
theorem OpsC.doneS (hl : SLe σ' σ) (h : Φ σ') : OpsC P n ops [] σ Φ := fun _ _ _ _ hs hq => hq _ _ _ h (hl _ _ _ _ hs)
theorem Ok.regionC {Ψ : Exit → St → Prop} {id : Nat} (h : OpsC P n ops ops.toList σ (Ψ .normal)) : Ok P n (.region id ops false) σ Ψ := fun cx a w Q hs hq =>
  wp_region_list (h cx a w Q hs fun _ _ _ hk hs' => hq _ _ _ _ hk hs')
theorem Ok.sle {c : Code} {Ψ : Exit → St → Prop} (hl : SLe σ' σ) (h : Ok P n c σ' Ψ) : Ok P n c σ Ψ := fun cx a w Q hs hq => h cx a w Q (hl _ _ _ _ hs) hq
theorem OpsOk.sle {σ2 : St} (hl : SLe σ' σ) (h : OpsOk P n ops l σ' σ2) : OpsOk P n ops l σ σ2 := fun cx a w Q hs hq => h cx a w Q (hl _ _ _ _ hs) hq
end

section
variable {P : Program} {n : Nat} {o : Oper} {σ : St}
end
end Go.Proofs.Vx
