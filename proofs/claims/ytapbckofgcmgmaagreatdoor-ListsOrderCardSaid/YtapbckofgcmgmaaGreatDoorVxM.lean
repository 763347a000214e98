import Derived.Test.YtapbckofgcmgmaaGreatDoorVxL
namespace Go.Proofs.Vx
open Go Go.RowKit
set_option linter.unusedSectionVars false
variable [Glo]
theorem selF {b:Prop} [Decidable b] {α:Type} {A B:Option α} {t:α} {C:Prop} (h:(if b then A else B)=some t) (h1:b→A=some t→C) (h2:B=some t→C):C:=by
 by_cases hb:b
 ·rw [if_pos hb] at h; exact h1 hb h
 ·rw [if_neg hb] at h; exact h2 h
section
variable {P:Program} {n:Nat} {ops:Array Oper} {σ σ':St} {Φ:Exit→St→Prop} {o:Oper} {l:List Oper}
theorem ev_le {fr fr':List (Nat × D)} {T:List (Nat × Ob)} (hl:leFr fr' fr) (x:Operand):DLe (St.ev ⟨fr',T⟩ x) (St.ev ⟨fr,T⟩ x):=by
 cases x with
 | tmp t => exact leFr_get hl t
 | _ => exact .same _
theorem GOk.fr {fr fr':List (Nat × D)} {T:List (Nat × Ob)} {d:D} (hl:leFr fr' fr) (h:GOk P o ⟨fr',T⟩ d):GOk P o ⟨fr,T⟩ d:=
 fun cx ι β a w next Q hi hev hk => h cx ι β a w next Q hi (fun x => (ev_le hl x).r (hev x)) hk
theorem OpsOk.frzL {α:Type} (t:Nat) {ety sz:Nat} {e:α→List D} {xs:List α} (hb:getT σ.T t=.rows true ety sz (xs.map e)) (h:OpsOk P n ops l ⟨subFr t (toList sz (xs.map e)) σ.fr,subT t (toList sz (xs.map e)) σ.T⟩ σ'):OpsOk P n ops l σ σ':=
 fun cx a w Q hs hq => h cx a w Q (hs.frzRows hb) hq
theorem OpsOk.cut (hl:Le σ σ') {σ2:St} (h:OpsOk P n ops l σ σ2):OpsOk P n ops l σ' σ2:=fun cx a w Q hs hq => h cx a w Q (hs.le hl) hq
def TxtE (P:Program) (n:Nat) (T:List (Nat × Ob)) (all:Array Oper) (os:List Oper) (its:List It) (f:List (Nat × D)) (σ':St):Prop:=∃ f',Txt P n T all os its f f' ∧ Le σ' ⟨f',T⟩
theorem TxtE.done {T:List (Nat × Ob)} {all:Array Oper} {f:List (Nat × D)} (h:Le σ' ⟨f,T⟩):TxtE P n T all [] [] f σ':=⟨f,rfl,h⟩
theorem TxtE.cons {T:List (Nat × Ob)} {all:Array Oper} {os:List Oper} {its:List It} {f fr:List (Nat × D)} {d:D} (hd:dstB n o.dst=true) (hl:leFr fr f) (hg:o.guard=none) (h:GOk P o ⟨fr,T⟩ d) (hr:TxtE P n T all os its (putF f o.dst d) σ') :
  TxtE P n T all (o :: os) (⟨true,fr,d⟩ :: its) f σ':=let ⟨f',t,l⟩:=hr; ⟨f',Txt.cons hd hl hg h t,l⟩
theorem TxtE.consI {T:List (Nat × Ob)} {all:Array Oper} {os:List Oper} {its:List It} {f fr:List (Nat × D)} {d:D} {j t:Nat} {want g:Bool} (hd:dstB n o.dst=true) (hl:leFr fr f) (hg:o.guard=some (j,want)) (hj:((all[j]?).bind (·.dst))=some t) (hG:Gd fr t want g)
  (h:g=true→GOk P o ⟨fr,T⟩ d) (hr:TxtE P n T all os its (putF f o.dst (bif g then d else .v undef)) σ'):TxtE P n T all (o :: os) (It.I g fr d :: its) f σ':=
 let ⟨f',t,l⟩:=hr; ⟨f',Txt.consI hd hl hg hj hG h t,l⟩
theorem Ok.drawE {id:Nat} {ops:Array Oper} {fr:List (Nat × D)} {T:List (Nat × Ob)} (its:List It) (cert:List (List Nat)) (hm:P.follows .mixedOrders=true) (hc:(certOk ops.toList cert && hangOk ops.toList (its.map fun it => it.fr.map (·.1)) cert)=true)
  (ht:TxtE P n T ops ops.toList its fr σ') (hk:Φ .normal σ'):Ok P n (.region id ops true) ⟨fr,T⟩ Φ:=
 let ⟨_,t,l⟩:=ht; .drawc its cert hm hc t l hk
theorem VOk.mv {x:Operand} {d:D} (ho:o.op=.move x) (hx:σ.ev x=d):VOk P o σ d:=hx ▸ VOk.move ho
theorem VOk.asg {x:Operand} {d:D} (ho:o.op=.assign x) (hx:σ.ev x=d):VOk P o σ d:=hx ▸ VOk.assign ho
theorem VOk.makeFunc {f:Nat} {caps:Array Operand} {ds:List D} (ho:o.op=.makeFunc (.func f) #[] caps) (hd:caps.toList.map σ.ev=ds):VOk P o σ (.clo f ds):=by
 intro cx ι β a w hi hr
 subst hd
 refine⟨.func (.func f) #[] (caps.map a.eval),by simp [execOp,ho,Instr.makeFunc],.clo _ _ _ (by simp) fun k d x hd hx => ?_⟩
 simp only [List.getElem?_map,Array.getElem?_map,Option.map_eq_some_iff] at hd hx
 obtain⟨y,hy,rfl⟩:=hd
 obtain⟨z,hz,rfl⟩:=hx
 rw [Array.getElem?_toList] at hy
 rw [hy] at hz; cases hz
 exact hr y
end
end Go.Proofs.Vx
