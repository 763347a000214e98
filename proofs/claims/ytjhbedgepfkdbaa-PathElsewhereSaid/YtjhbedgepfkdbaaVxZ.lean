import Derived.Test.YtjhbedgepfkdbaaVxY
import Derived.ScopeJumps
namespace Go.Proofs.Vx
open Go Go.RowKit
set_option linter.unusedSectionVars false
variable [Glo]
theorem leFr.rf {fr:List (Nat × D)}:∀ {fr':List (Nat × D)},(fr'.map fun p => get fr p.1)=fr'.map (·.2)→leFr fr' fr
 | [],_ => trivial
 | p :: r,h => by
  simp only [List.map_cons,List.cons.injEq] at h
  exact⟨h.1 ▸ .same _,leFr.rf h.2⟩
theorem leT.rf {T:List (Nat × Ob)}:∀ {T':List (Nat × Ob)},(T'.map fun p => getT T p.1)=T'.map (·.2)→leT T' T
 | [],_ => trivial
 | p :: r,h => by
  simp only [List.map_cons,List.cons.injEq] at h
  exact⟨h.1 ▸ .same _,leT.rf h.2⟩
theorem Le.rf {fr fr':List (Nat × D)} {T T':List (Nat × Ob)} (h:(fr'.map fun p => get fr p.1)=fr'.map (·.2)) (hT:(T'.map fun p => getT T p.1)=T'.map (·.2)):Le ⟨fr',T'⟩ ⟨fr,T⟩:=.mk (.rf h) (.rf hT)
theorem Le.one {fr:List (Nat × D)} {T:List (Nat × Ob)} {x:Nat} {w:D} (h:DLe w (get fr x)):Le ⟨(x,w) :: fr,T⟩ ⟨fr,T⟩:=⟨fun s => by
  show DLe (match Nat.beq x s with | true => w | false => get fr s) _
  cases hb:Nat.beq x s with
  | true => cases Nat.eq_of_beq_eq_true hb; exact h
  | false => exact .same _,fun _ => .same _⟩
theorem OpsOk.cut1 {P:Program} {n:Nat} {ops:Array Oper} {l:List Oper} {fr:List (Nat × D)} {T:List (Nat × Ob)} {σ2:St} (x:Nat) (w:D) (h:DLe w (get fr x)) (hl:OpsOk P n ops l ⟨(x,w) :: fr,T⟩ σ2):OpsOk P n ops l ⟨fr,T⟩ σ2:=
 OpsOk.cut (Le.one h) hl
theorem OpsOk.cv {P:Program} {n:Nat} {ops:Array Oper} {l:List Oper} {σ σ':St} {o:Oper} {d:D} (h:VOk P o σ d) (hg:o.guard=none) (hn:dstB n o.dst=true) (hl:OpsOk P n ops l (σ.put o.dst d) σ'):OpsOk P n ops (o :: l) σ σ':=.cons hg (.v h hn) hl
theorem OpsOk.cg {P:Program} {n:Nat} {ops:Array Oper} {l:List Oper} {σ σ':St} {o:Oper} {d:D} (h:GOk P o σ d) (hg:o.guard=none) (hn:dstB n o.dst=true) (hl:OpsOk P n ops l (σ.put o.dst d) σ'):OpsOk P n ops (o :: l) σ σ':=.cons hg (.g h hn) hl
end Go.Proofs.Vx
