import Derived.Test.YtjhbedgepfkdbaaVxX
namespace Go.Proofs.Vx
open Go Go.RowKit
set_option linter.unusedSectionVars false
variable [Glo]
def OpsC (P:Program) (n:Nat) (ops:Array Oper) (l:List Oper) (σ:St) (Φ:St→Prop):Prop:=
 ∀ cx a w Q,Sim cx n σ a w→(∀ σ' a' w',Φ σ'→Sim cx n σ' a' w'→Q Exit.normal a' w')→wpList P ops Q l a w
section
variable {P:Program} {n:Nat} {ops:Array Oper} {l:List Oper} {σ σ₁ σ':St} {o:Oper} {Φ:St→Prop}
theorem OpsC.cons (hg:o.guard=none) (h:OpOk P n o σ σ₁) (hl:OpsC P n ops l σ₁ Φ):OpsC P n ops (o :: l) σ Φ:=fun cx a w Q hs hq => by
 unfold wpList
 rw [if_pos (by simp [Region.wanted,hg])]
 exact .inl (h cx a w _ _ hs fun a' w' hs' => hl cx a' w' Q hs' hq)
theorem OpsC.consI {j t:Nat} {want g:Bool} {d:D} (hg:o.guard=some (j,want)) (hj:((ops[j]?).bind (·.dst))=some t) (ht:Nat.ble (t + 1) n=true) (hG:Gd σ.fr t want g) (hd:dstB n o.dst=true) (h:g=true→GOk P o σ d)
  (hl:OpsC P n ops l (σ.put o.dst (bif g then d else .v undef)) Φ):OpsC P n ops (o :: l) σ Φ:=fun cx a w Q hs hq => by
 have hw:=sim_wanted hs hg hj (Nat.le_of_ble_eq_true ht) hG
 unfold wpList
 cases g with
 | true => rw [if_pos hw]; exact .inl (OpOk.g (h rfl) hd cx a w _ _ hs fun a' w' hs' => hl cx a' w' Q hs' hq)
 | false =>
  rw [if_neg (by rw [hw]; simp)]
  exact hl cx _ w Q (hs.put (dstB_lt hd) fun _ _ _ _ => .v _) hq
theorem OpsC.consG {j t:Nat} {b c:Bool} (hg:o.guard=some (j,b)) (hj:((ops[j]?).bind (·.dst))=some t) (ht:Nat.ble (t + 1) n=true)
  (hb:get σ.fr t=.v (.bool c)) (hc:c=b) (h:OpOk P n o σ σ₁) (hl:OpsC P n ops l σ₁ Φ):OpsC P n ops (o :: l) σ Φ:=fun cx a w Q hs hq => by
 subst hc
 unfold wpList
 rw [if_pos (by simp [Region.wanted,hg,sim_yield hs hj (Nat.le_of_ble_eq_true ht) hb])]
 exact .inl (h cx a w _ _ hs fun a' w' hs' => hl cx a' w' Q hs' hq)
theorem OpsC.consN {j t:Nat} {b c:Bool} (hg:o.guard=some (j,b)) (hj:((ops[j]?).bind (·.dst))=some t) (ht:Nat.ble (t + 1) n=true)
  (hb:get σ.fr t=.v (.bool c)) (hc:c=!b) (hd:dstB n o.dst=true) (hl:OpsC P n ops l (σ.put o.dst .junk) Φ):OpsC P n ops (o :: l) σ Φ:=fun cx a w Q hs hq => by
 subst hc
 unfold wpList
 rw [if_neg (by simp [Region.wanted,hg,sim_yield hs hj (Nat.le_of_ble_eq_true ht) hb])]
 exact hl cx _ w Q (hs.put (dstB_lt hd) fun _ _ _ _ => .junk _) hq
theorem OpsC.split (b:Bool) (ht:b=true→OpsC P n ops l σ Φ) (hf:b=false→OpsC P n ops l σ Φ):OpsC P n ops l σ Φ:=by
 cases b
 ·exact hf rfl
 ·exact ht rfl
theorem OpsC.sle (hl:SLe σ' σ) (h:OpsC P n ops l σ' Φ):OpsC P n ops l σ Φ:=fun cx a w Q hs hq => h cx a w Q (hl _ _ _ _ hs) hq
theorem OpsC.cut (hl:Le σ σ') (h:OpsC P n ops l σ Φ):OpsC P n ops l σ' Φ:=.sle hl.s h
theorem OpsC.frzBox (t:Nat) {cells:List D} (hb:getT σ.T t=.box .ex cells) (hf:cells.all D.flat1=true) (h:OpsC P n ops l ⟨subFr t (toFp cells) σ.fr,subT t (toFp cells) σ.T⟩ Φ):OpsC P n ops l σ Φ:=
 fun cx a w Q hs hq => h cx a w Q (hs.frzBox hb hf) hq
theorem OpsC.done (hl:Le σ' σ) (h:Φ σ'):OpsC P n ops [] σ Φ:=fun _ _ _ _ hs hq => hq _ _ _ h (hs.le hl)
theorem OpsC.doneS (hl:SLe σ' σ) (h:Φ σ'):OpsC P n ops [] σ Φ:=fun _ _ _ _ hs hq => hq _ _ _ h (hl _ _ _ _ hs)
theorem Ok.regionC {Ψ:Exit→St→Prop} {id:Nat} (h:OpsC P n ops ops.toList σ (Ψ .normal)):Ok P n (.region id ops false) σ Ψ:=fun cx a w Q hs hq =>
 wp_region_list (h cx a w Q hs fun _ _ _ hk hs' => hq _ _ _ _ hk hs')
theorem Ok.sle {c:Code} {Ψ:Exit→St→Prop} (hl:SLe σ' σ) (h:Ok P n c σ' Ψ):Ok P n c σ Ψ:=fun cx a w Q hs hq => h cx a w Q (hl _ _ _ _ hs) hq
theorem OpsOk.sle {σ2:St} (hl:SLe σ' σ) (h:OpsOk P n ops l σ' σ2):OpsOk P n ops l σ σ2:=fun cx a w Q hs hq => h cx a w Q (hl _ _ _ _ hs) hq
theorem VOk.pickT {c x y:Operand} {b:Bool} {d:D} (ho:o.op=.pick c x y) (hc:σ.ev c=.v (.bool b)) (hb:b=true) (hx:σ.ev x=d):VOk P o σ d:=
 fun _ _ _ a _ _ hr =>⟨a.eval x,by subst hb; simp [execOp,ho,ev_v hr hc,asBool],hx ▸ hr x⟩
theorem VOk.pickF {c x y:Operand} {b:Bool} {d:D} (ho:o.op=.pick c x y) (hc:σ.ev c=.v (.bool b)) (hb:b=false) (hy:σ.ev y=d):VOk P o σ d:=
 fun _ _ _ a _ _ hr =>⟨a.eval y,by subst hb; simp [execOp,ho,ev_v hr hc,asBool],hy ▸ hr y⟩
end
section
variable {P:Program} {n:Nat} {o:Oper} {σ:St}
end
end Go.Proofs.Vx
