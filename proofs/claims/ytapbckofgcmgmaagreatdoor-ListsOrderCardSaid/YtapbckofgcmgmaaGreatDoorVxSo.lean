import Derived.Test.YtapbckofgcmgmaaGreatDoorVxZ
import Derived.Sort.OwnSorted
import Derived.Lib.SlicesCompact
namespace Go.Proofs.Vx
open Go Go.RowKit Go.Sort
set_option linter.unusedSectionVars false
variable [Glo]
section
variable {P:Program} {n:Nat} {o:Oper} {σ:St}
theorem run_call1 {x y:Operand} {ts:Array TypeId} {f:Nat} (ho:o.op=.call { callee:=.value x,args:=#[y],argTypes:=ts }) (hc:callable P f=true) {a:Act} {w:World} {u:Value} (hx:a.eval x=.func (.func f) #[] #[]) (hy:a.eval y=u):(execOp a.eval o).run P w=.ok (.enter f #[u]) w:=by
 simp [execOp,ho,resolve,hx,hy,Deferred.ofValue,invoke,run_callFunc hc]
theorem rho_gone {β:Nat→Value} {T:List (Nat × Ob)} {t:Nat} {d:D} {x:Value} (h:rho β T d x):rho β ((t,.none) :: T) d x:=by
 have same:∀ v,v ≠ t→getT ((t,Ob.none) :: T) v=getT T v:=fun v h2 => getT_cons_other h2
 cases d with
 | bref v off => simp only [rho] at h ⊢; by_cases hv:v=t; (subst hv; rw [getT_cons_same]; trivial); rw [same v hv]; exact h
 | sref v => simp only [rho] at h ⊢; by_cases hv:v=t; (subst hv; rw [getT_cons_same]; trivial); rw [same v hv]; exact h
 | eref v i off => simp only [rho] at h ⊢; by_cases hv:v=t; (subst hv; rw [getT_cons_same]; trivial); rw [same v hv]; exact h
 | mref v => simp only [rho] at h ⊢; by_cases hv:v=t; (subst hv; rw [getT_cons_same]; trivial); rw [same v hv]; exact h
 | _ => exact h
end
end Go.Proofs.Vx
