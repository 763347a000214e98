import Derived.Test.YtapbckofgcmgmaaGreatDoorVxY
import Derived.ScopeJumps
namespace Go.Proofs.Vx
open Go Go.RowKit
set_option linter.unusedSectionVars false
variable [Glo]
theorem leFr.rf {fr:List (Nat × D)}:∀ {fr':List (Nat × D)},(fr'.map fun p => get fr p.1)=fr'.map (·.2)→leFr fr' fr
 | [],_ => trivial
 | p :: r,h => by
  simp only [List.map_cons,List.cons.injEq] at h
  exact⟨h.1 ▸ .same _,leFr.rf h.2⟩
theorem leT.rf {T:List (Nat × Ob)}:∀ {T':List (Nat × Ob)},(T'.map fun p => getT T p.1)=T'.map (·.2)→leT T' T
 | [],_ => trivial
 | p :: r,h => by
  simp only [List.map_cons,List.cons.injEq] at h
  exact⟨h.1 ▸ .same _,leT.rf h.2⟩
theorem Le.rf {fr fr':List (Nat × D)} {T T':List (Nat × Ob)} (h:(fr'.map fun p => get fr p.1)=fr'.map (·.2)) (hT:(T'.map fun p => getT T p.1)=T'.map (·.2)):Le ⟨fr',T'⟩ ⟨fr,T⟩:=.mk (.rf h) (.rf hT)
theorem Le.one {fr:List (Nat × D)} {T:List (Nat × Ob)} {x:Nat} {w:D} (h:DLe w (get fr x)):Le ⟨(x,w) :: fr,T⟩ ⟨fr,T⟩:=⟨fun s => by
  show DLe (match Nat.beq x s with | true => w | false => get fr s) _
  cases hb:Nat.beq x s with
  | true => cases Nat.eq_of_beq_eq_true hb; exact h
  | false => exact .same _,fun _ => .same _⟩
theorem OpsOk.cut1 {P:Program} {n:Nat} {ops:Array Oper} {l:List Oper} {fr:List (Nat × D)} {T:List (Nat × Ob)} {σ2:St} (x:Nat) (w:D) (h:DLe w (get fr x)) (hl:OpsOk P n ops l ⟨(x,w) :: fr,T⟩ σ2):OpsOk P n ops l ⟨fr,T⟩ σ2:=
 OpsOk.cut (Le.one h) hl
theorem OpsOk.cv {P:Program} {n:Nat} {ops:Array Oper} {l:List Oper} {σ σ':St} {o:Oper} {d:D} (h:VOk P o σ d) (hg:o.guard=none) (hn:dstB n o.dst=true) (hl:OpsOk P n ops l (σ.put o.dst d) σ'):OpsOk P n ops (o :: l) σ σ':=.cons hg (.v h hn) hl
theorem OpsOk.cg {P:Program} {n:Nat} {ops:Array Oper} {l:List Oper} {σ σ':St} {o:Oper} {d:D} (h:GOk P o σ d) (hg:o.guard=none) (hn:dstB n o.dst=true) (hl:OpsOk P n ops l (σ.put o.dst d) σ'):OpsOk P n ops (o :: l) σ σ':=.cons hg (.g h hn) hl
def jmp (J:Nat→Nat→St→Prop) (m:Nat) (Φ:Exit→St→Prop):Exit→St→Prop
 | .goto l,σ => ∃ m',m' < m ∧ J l m' σ
 | e,σ => Φ e σ
def jmpW (J:Nat→Nat→Act→World→Prop) (m:Nat) (Q:Exit→Act→World→Prop):Exit→Act→World→Prop
 | .goto l,a,w => ∃ m',m' < m ∧ J l m' a w
 | e,a,w => Q e a w
theorem wp_scope_many {P:Program} {a:Act} {w:World} {Q:Exit→Act→World→Prop} {c:Code} (J:Nat→Nat→Act→World→Prop) (N:Nat) (first:c.wp P (jmpW J N Q) a w)
  (pass:∀ l m a w,J l m a w→∃ rest,findLabel c l=some rest ∧ rest.wp P (jmpW J m Q) a w):(Code.scope c).wp P Q a w:=by
 intro b k cs
 have hg:∀ l rest,findLabel c l=some rest→gotoIn l (.inScope c :: k)=some (.code rest :: .inScope c :: k):=fun l rest hf => by simp [gotoIn,hf]
 have key:∀ m l a w,J l m a w→∃ rest,findLabel c l=some rest ∧ ∃ e a' w',Q e a' w' ∧ Arrives P (lone (b.at a (.code rest :: .inScope c :: k)) cs w) b k cs e a' w':=by
  intro m
  induction m using Nat.strongRecOn with
  | _ m ih =>
   intro l a w hJ
   obtain⟨rest,hf,hp⟩:=pass l m a w hJ
   refine⟨rest,hf,?_⟩
   obtain⟨e,a₁,w₁,hq,harr⟩:=hp b (.inScope c :: k) cs
   cases e with
   | normal => exact⟨.normal,a₁,w₁,hq,Steps.trans harr (.one step_inScope)⟩
   | exit id => exact⟨.exit id,a₁,w₁,hq,fun k' hk => harr k' (by simp [exitTo,hk])⟩
   | goto l' =>
    obtain⟨m',hlt,hJ'⟩:=hq
    obtain⟨rest',hf',e₂,a₂,w₂,hq₂,harr₂⟩:=ih m' hlt l' a₁ w₁ hJ'
    exact⟨e₂,a₂,w₂,hq₂,.of_steps (harr _ (hg _ _ hf')) harr₂⟩
   | ret => exact⟨_,a₁,w₁,hq,harr⟩
   | panic ch => exact⟨_,a₁,w₁,hq,harr⟩
   | outgrown => exact⟨_,a₁,w₁,hq,harr⟩
 obtain⟨e,a₁,w₁,hq,harr⟩:=first b (.inScope c :: k) cs
 cases e with
 | normal => exact⟨.normal,a₁,w₁,hq,.head step_scope (Steps.trans harr (.one step_inScope))⟩
 | exit id => exact⟨.exit id,a₁,w₁,hq,fun k' hk => .head step_scope (harr k' (by simp [exitTo,hk]))⟩
 | goto l' =>
  obtain⟨m',_,hJ'⟩:=hq
  obtain⟨rest',hf',e₂,a₂,w₂,hq₂,harr₂⟩:=key m' l' a₁ w₁ hJ'
  exact⟨e₂,a₂,w₂,hq₂,.of_steps (.head step_scope (harr _ (hg _ _ hf'))) harr₂⟩
 | ret => exact⟨_,a₁,w₁,hq,.of_steps (.one step_scope) harr⟩
 | panic ch => exact⟨_,a₁,w₁,hq,.of_steps (.one step_scope) harr⟩
 | outgrown => exact⟨_,a₁,w₁,hq,.of_steps (.one step_scope) harr⟩
theorem Ok.scope {P:Program} {n:Nat} {σ:St} {Φ:Exit→St→Prop} {c:Code} (J:Nat→Nat→St→Prop) (N:Nat) (h:Ok P n c σ (jmp J N Φ))
  (hl:∀ l m σ',J l m σ'→∃ rest,findLabel c l=some rest ∧ Ok P n rest σ' (jmp J m Φ)):Ok P n (.scope c) σ Φ:=fun cx a w Q hs hq => by
 have up:∀ m e σ' a' w',jmp J m Φ e σ'→Sim cx n σ' a' w'→jmpW (fun l m a w => ∃ σ,J l m σ ∧ Sim cx n σ a w) m Q e a' w':=by
  intro m e σ' a' w' he hs'
  cases e with
  | goto l => obtain⟨m',h1,h2⟩:=he; exact⟨m',h1,σ',h2,hs'⟩
  | _ => exact hq _ _ _ _ he hs'
 refine wp_scope_many (fun l m a w => ∃ σ,J l m σ ∧ Sim cx n σ a w) N (h cx a w _ hs fun e σ' a' w' he hs' => up N e σ' a' w' he hs') ?_
 rintro l m a w ⟨σ',hJ,hs'⟩
 obtain⟨rest,hf,hr⟩:=hl l m σ' hJ
 exact⟨rest,hf,hr cx a w _ hs' fun e σ'' a' w' he hs'' => up m e σ'' a' w' he hs''⟩
end Go.Proofs.Vx
