import Derived.Test.YtapbckofgcmgmaaGreatDoorVxK
import Derived.KernelRfl
namespace Go.Proofs.Vx
open Go Go.RowKit
set_option linter.unusedSectionVars false
variable [Glo]
abbrev Str:=List UInt8
def eI (k:IntKind) (n:Int):List D:=[.v (.int k n)]
def eB (b:Bool):List D:=[.v (.bool b)]
def eS (s:Str):List D:=[S s]
def eL {α:Type} (sz:Nat) (e:α→List D) (xs:List α):List D:=[L sz e xs]
theorem pickAnd (b p:Bool):(D.v (.bool (bif b then p else false)))=.v (.bool (b && p)):=by cases b <;> rfl
theorem pickOr (b p:Bool):(D.v (.bool (bif b then true else p)))=.v (.bool (b || p)):=by cases b <;> rfl
section
variable {P:Program} {n:Nat} {ops:Array Oper} {σ σ':St} {Φ:Exit→St→Prop} {o:Oper}
theorem OpsOk.done (h:Le σ' σ):OpsOk P n ops [] σ σ':=OpsOk.nil.le h
theorem Ok.leOut {c:Code} {Ψ:Exit→St→Prop} (h:Ok P n c σ Ψ) (hq:∀ e σ1,Ψ e σ1→∃ σ2,Le σ2 σ1 ∧ Φ e σ2):Ok P n c σ Φ:=
 fun cx a w Q hs hk => h cx a w Q hs fun e σ1 a' w' hp hs' => by
  obtain⟨σ2,hl,hΦ⟩:=hq e σ1 hp
  exact hk e σ2 a' w' hΦ (hs'.le hl)
theorem Ok.drawc {id:Nat} {ops:Array Oper} {fr f':List (Nat × D)} {T:List (Nat × Ob)} (its:List It) (cert:List (List Nat)) (hm:P.follows .mixedOrders=true) (hc:(certOk ops.toList cert && hangOk ops.toList (its.map fun it => it.fr.map (·.1)) cert)=true)
  (ht:Txt P n T ops ops.toList its fr f') (hl:Le σ' ⟨f',T⟩) (hk:Φ .normal σ'):Ok P n (.region id ops true) ⟨fr,T⟩ Φ:=
 (Ok.draw (Φ:=fun e σ => e=.normal ∧ σ=⟨f',T⟩) its cert hm ht hc ⟨rfl,rfl⟩).leOut fun e σ1 h => by obtain⟨rfl,rfl⟩:=h; exact⟨σ',hl,hk⟩
theorem VOk.to {d d':D} (h:VOk P o σ d) (e:d=d'):VOk P o σ d':=e ▸ h
theorem GOk.to {d d':D} (h:GOk P o σ d) (e:d=d'):GOk P o σ d':=e ▸ h
theorem DLe.of_eq {d d':D} (h:d'=d):DLe d' d:=h ▸ .same d
theorem OpOk.appendL {α:Type} {s x:Operand} {ty ety sz by_ t:Nat} {e:α→List D} {xs ys:List α} (ho:o.op=.call { callee:=.builtin .append,args:=#[s,x],argTypes:=#[ty,ty] }) (ht:P.underlying ty=some (.slice ety)) (he:Elt P ety sz by_)
  (hs:σ.ev s=.sref t) (hb:getT σ.T t=.rows true ety sz (xs.map e)) (hx:σ.ev x=L sz e ys) (hl:(xs.length + ys.length) * by_ ≤ 140737488355328) (hn:dstB n o.dst=true) :
  OpOk P n o σ ((obSt σ t (.rows true ety sz ((xs ++ ys).map e))).put o.dst (.sref t)):=by
 have:=OpOk.appendList (P:=P) (n:=n) ho ht he hs hb hx (by simpa using hl) hn
 rwa [← List.map_append] at this
theorem Ok.frzL {α:Type} {c:Code} (t:Nat) {ety sz:Nat} {e:α→List D} {xs:List α} (hb:getT σ.T t=.rows true ety sz (xs.map e)) (h:Ok P n c ⟨subFr t (toList sz (xs.map e)) σ.fr,subT t (toList sz (xs.map e)) σ.T⟩ Φ):Ok P n c σ Φ:=.frzRows t hb h
theorem VOk.indexTL {α:Type} [Inhabited α] {ty elem t:Nat} {x y:Operand} {ex:Bool} {ety sz:Nat} {e:α→List D} {xs:List α} {k:IntKind} {i:Int} (ho:o.op=.indexAddr ty x y) (ht:P.underlying ty=some (.slice elem)) (hz:szOf P elem=some sz)
  (hx:σ.ev x=.sref t) (hb:getT σ.T t=.rows ex ety sz (xs.map e)) (hy:σ.ev y=.v (.int k i)) (h:0 ≤ i ∧ i < (xs.length:Int)):VOk P o σ (.eref t i.toNat 0):=
 .indexT ho ht hz hx hb hy h.1 (r:=e (rd xs i)) (by
  have:i.toNat < xs.length:=by omega
  simp [rd,this])
theorem VOk.lenTL {α:Type} {x:Operand} {ty elem t:Nat} {ex:Bool} {ety sz:Nat} {e:α→List D} {xs:List α} (ho:o.op=.call { callee:=.builtin .len,args:=#[x],argTypes:=#[ty] }) (ht:P.underlying ty=some (.slice elem))
  (hx:σ.ev x=.sref t) (hb:getT σ.T t=.rows ex ety sz (xs.map e)):VOk P o σ (.v (.int .i64 (xs.length:Int))):=by
 have:=VOk.lenT (P:=P) ho ht hx hb
 rwa [List.length_map] at this
theorem row_rd {α:Type} [Inhabited α] {e:α→List D} {xs:List α} {i:Int} (h:0 ≤ i ∧ i < (xs.length:Int)):(xs.map e)[i.toNat]? =some (e (rd xs i)):=by
 have:i.toNat < xs.length:=by omega
 simp [rd,this]
theorem VOk.eqS' {op:BinOp} {t t2:TypeId} {ks:List Nat} {x y:Operand} {cs ds:List D} {b:Bool} (ho:o.op=.binOp op t x y t2) (hop:op=.eql ∨ op=.neq) (hE:EqT P 10000 t ks) (hu:(P.underlying t).map aggB=some true) (hg:P.eqGuardType P.depth t=false)
  (hx:σ.ev x=.agg cs) (hy:σ.ev y=.agg ds) (h:dEq ks cs ds=some b) {d:D} (hd:(.v (.bool (eqOr op b)):D)=d):VOk P o σ d:=hd ▸ VOk.eqS ho hop hE hu hg hx hy h
end
end Go.Proofs.Vx
