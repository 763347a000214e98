import Derived.Test.YtjhbedgepfkdbaaVxSl
import Derived.Test.YtjhbedgepfkdbaaVxTa
namespace Go.Proofs.Vx
open Go Go.RowKit
set_option linter.unusedSectionVars false
variable [Glo]
theorem leL_refl:∀ l:List D,leL l l
 | [] => trivial
 | d :: r =>⟨.same d,leL_refl r⟩
theorem map_rn2 {μ:List (Nat × Nat)} {ds:List D} (hp:D.pureL ds=true):ds.map (rn2 μ)=ds:=map_id_of fun _ hd => rn2_pure _ (pureL_mem hp hd)
section
variable {P:Program} {n:Nat} {o:Oper} {σ:St}
theorem OpOk.callRows {x:Operand} {args:Array Operand} {ts:Array TypeId} {f ety sz:Nat} {caps ds:List D} {rs rs':List (List D)} {r:D}
  (ho:o.op=.call { callee:=.value x,args:=args,argTypes:=ts }) (hx:σ.ev x=.clo f caps) (hc:callable P f=true) (hf:Fn P f (.sref 0 :: ds) [(0,.rows true ety sz rs)] r [(0,.rows true ety sz rs')])
  (hb:getT σ.T 0=.rows true ety sz rs) (hds:(args.toList.map σ.ev) ++ caps=.sref 0 :: ds) (hp:D.pureL ds=true) (hr:ok2 [(0,0)] r=true) (hr2:rn2 [(0,0)] r=r) (hn:dstB n o.dst=true) :
  OpOk P n o σ (St.put ⟨kill 0 σ.fr,(0,.rows true ety sz rs') :: killT 0 σ.T⟩ o.dst r):=by
 have h:=OpOk.callG (σ:=σ) (T1:=[(0,.rows true ety sz rs)]) (T1':=[(0,.rows true ety sz rs')]) (r:=r) (ds:=.sref 0 :: ds) [(0,0)] false ho hx hc (fun _ => hf)
  (by rw [map_lookF,hds,List.map_cons,map_rn2 hp]; exact⟨.same _,leL_refl ds⟩)
  (by
   simp only [Bool.and_eq_true,List.all_eq_true]
   refine⟨by simp [goG,injN,lkN,lkB,optIs,okOb],fun d hd => ?_⟩
   rcases List.mem_cons.1 hd with rfl | hd
   ·rfl
   ·exact ok2_pure _ (pureL_mem hp hd))
  (by simp [lkN,hb,rnOb]) (by simp [backG,hr,okOb,lkN,okBk,getT]) (fun h => by cases h) hn
 have e:postG [(0,0)] [(0,Ob.rows true ety sz rs)] [(0,.rows true ety sz rs')] r σ o.dst=St.put ⟨kill 0 σ.fr,(0,.rows true ety sz rs') :: killT 0 σ.T⟩ o.dst r:=by
  unfold postG
  rw [hr2]
  rfl
 rw [e] at h
 exact h
theorem OpOk.callRows0 {x:Operand} {args:Array Operand} {ts:Array TypeId} {f ety sz:Nat} {caps ds:List D} {rs:List (List D)} {r:D}
  (ho:o.op=.call { callee:=.value x,args:=args,argTypes:=ts }) (hx:σ.ev x=.clo f caps) (hc:callable P f=true) (hf:Fn P f (.sref 0 :: ds) [(0,.rows true ety sz rs)] r [])
  (hb:getT σ.T 0=.rows true ety sz rs) (hds:(args.toList.map σ.ev) ++ caps=.sref 0 :: ds) (hp:D.pureL ds=true) (hr:r.pure=true) (hn:dstB n o.dst=true) :
  OpOk P n o σ (St.put ⟨σ.fr,(0,.none) :: σ.T⟩ o.dst r):=by
 have h:=OpOk.callG (σ:=σ) (T1:=[(0,.rows true ety sz rs)]) (T1':=[]) (r:=r) (ds:=.sref 0 :: ds) [(0,0)] false ho hx hc (fun _ => hf)
  (by rw [map_lookF,hds,List.map_cons,map_rn2 hp]; exact⟨.same _,leL_refl ds⟩)
  (by
   simp only [Bool.and_eq_true,List.all_eq_true]
   refine⟨by simp [goG,injN,lkN,lkB,optIs,okOb],fun d hd => ?_⟩
   rcases List.mem_cons.1 hd with rfl | hd
   ·rfl
   ·exact ok2_pure _ (pureL_mem hp hd))
  (by simp [lkN,hb,rnOb]) (by simp [backG,ok2_pure _ hr]) (fun h => by cases h) hn
 have e:postG [(0,0)] [(0,Ob.rows true ety sz rs)] [] r σ o.dst=St.put ⟨σ.fr,(0,.none) :: σ.T⟩ o.dst r:=by
  unfold postG
  rw [rn2_pure _ hr]
  rfl
 rw [e] at h
 exact h
theorem OpOk.callIns {x:Operand} {args:Array Operand} {ts:Array TypeId} {f ety sz:Nat} {v:Value} {rs rs' r1:List (List D)} (u:Nat) (hu:Nat.beq 0 u=false)
  (ho:o.op=.call { callee:=.value x,args:=args,argTypes:=ts }) (hx:σ.ev x=.clo f []) (hc:callable P f=true) (hf:Fn P f [.sref 0,.v v,.sref 1] [(0,.rows true ety sz rs),(1,.rows true ety sz r1)] (.sref 0) [(0,.rows true ety sz rs')])
  (hb:getT σ.T 0=.rows true ety sz rs) (hb2:getT σ.T u=.rows true ety sz r1) (hds:args.toList.map σ.ev=[.sref 0,.v v,.sref u]) (hn:dstB n o.dst=true) :
  OpOk P n o σ (St.put ⟨kill 0 σ.fr,(0,.rows true ety sz rs') :: (u,.none) :: killT 0 σ.T⟩ o.dst (.sref 0)):=by
 have hu':Nat.beq u 0=false:=by
  cases h:Nat.beq u 0 with
  | false => rfl
  | true => cases Nat.eq_of_beq_eq_true h; cases hu
 have huu:Nat.beq u u=true:=Nat.beq_refl u
 have h:=OpOk.callG (σ:=σ) (T1:=[(0,.rows true ety sz rs),(1,.rows true ety sz r1)]) (T1':=[(0,.rows true ety sz rs')]) (r:=.sref 0) (ds:=[.sref 0,.v v,.sref 1]) [(0,0),(1,u)] false ho hx hc (fun _ => hf)
  (by rw [map_lookF,hds]; exact⟨.same _,.same _,.same _,trivial⟩)
  (by
   have e1:Nat.beq 0 u=false:=hu
   simp [goG,injN,lkN,lkB,optIs,okOb,ok2,ok1,ok0,D.pure,e1])
  (by simp [lkN,hb,hb2,rnOb]) (by simp [backG,okOb,lkN,okBk,getT,ok2,ok1,ok0]) (fun h => by cases h) hn
 have e:postG [(0,0),(1,u)] [(0,Ob.rows true ety sz rs),(1,.rows true ety sz r1)] [(0,.rows true ety sz rs')] (.sref 0) σ o.dst=St.put ⟨kill 0 σ.fr,(0,.rows true ety sz rs') :: (u,.none) :: killT 0 σ.T⟩ o.dst (.sref 0):=by
  unfold postG
  rfl
 rw [e] at h
 exact h
theorem OkD.last {ops:Array Oper} {σ σ1 σ2:St} (cert:List (List Nat)) (h:OkD P n ops.pop σ σ1) (hL:lastB ops cert=true) (hl:OpOk P n (lastOf ops) σ1 σ2):OkD P n ops σ σ2:=by
 simp only [lastB,Bool.and_eq_true] at hL
 exact OkD.snoc h (lastOf_eq hL.1.1) (by rw [Bool.and_eq_true]; exact hL.1.2) (by simpa using hL.2) hl
theorem DLe.agg_eq {cells:List D} {d:D} (h:DLe (.agg cells) d):d=.agg cells:=by cases h; rfl
theorem It2.lit1 {all:Array Oper} {fr:List (Nat × D)} {rd:List (Nat × Ob)} {ty ety sz:Nat} {y:Operand} {row:List D} (t:Nat) (hg:o.guard=none) (ho:o.op=.buildSlice ty 1 #[(0,y)]) (ht:P.underlying ty=some (.slice ety)) (hs:szOf P ety=some sz)
  (hz:(zeroOf P ety).map (fun z => z.cells.size)=some sz) (hy:St.ev ⟨fr,[]⟩ y=.agg row) (hsz:(Nat.beq row.length sz && Nat.ble sz 16777216)=true) (hf:flatRows [row]=true) (hn:dstB n o.dst=true):ItOk P n all o ⟨true,fr,rd,.sref t,[(t,.rows true ety sz [row])],true,[]⟩:=by
 simp only [Bool.and_eq_true] at hsz
 exact⟨hn,by simp only [gd2,hg],fun _ σ h1 _ _ => by
  have he:σ.ev y=.agg row:=(hy ▸ ev_le (T:=[]) h1 y:DLe (.agg row) (σ.ev y)).agg_eq
  exact OpOk.litT (σ:=σ) t rfl ho ht hs hz (by simp [seqB,hsz.2]) (by simp [rowsOf,he,cellsOf]) (by simp [hsz.1]) hf hn,fun h => by cases h⟩
theorem OpX.callPin {A:Type} {x:Operand} {args:Array Operand} {ts:Array TypeId} {f:Nat} {ds:List D} {R:A→D} {B:A→Ob} (t:Nat)
  (ho:o.op=.call { callee:=.value x,args:=args,argTypes:=ts }) (hx:σ.ev x=.clo f []) (hc:callable P f=true)
  (hf:FnX P f ds [] fun r T' => ∃ s,r=R s ∧ T'=[(0,B s)]) (hB:∀ s,(∃ v ety sz rows,B s=.pin v ety sz rows))
  (hds:args.toList.map σ.ev=ds) (hp:D.pureL ds=true) (hr:∀ s,(R s).pure=true) (hn:dstB n o.dst=true) :
  OpX P n o σ fun σ' => ∃ s,σ'=St.put ⟨kill t σ.fr,(t,B s) :: killT t σ.T⟩ o.dst (R s):=by
 have h:=OpX.callG (σ:=σ) (T1:=[]) (ds:=ds) (Res:=fun r T' => ∃ s,r=R s ∧ T'=[(0,B s)]) [(0,t)] false ho hx hc
  (fun bs => by
   intro w ι β vs hi hl hr
   refine (hf w ι β vs hi hl hr).mono fun _ _ h => ?_
   obtain⟨v,ι',β',r,T',⟨s,rfl,rfl⟩,he,hi',hR⟩:=h
   refine⟨v,ι',β',R s,[(0,B s)],⟨[(0,B s)],⟨s,rfl,rfl⟩,?_⟩,he,hi',hR⟩
   obtain⟨v,ety,sz,rows,hb⟩:=hB s
   rw [hb]; rfl)
  (by rw [map_lookF,map_id_of fun d hd => rn2_pure _ (pureL_mem hp hd),← hds,List.append_nil]; exact leL_refl _)
  (by
   simp only [Bool.and_eq_true,List.all_eq_true]
   refine⟨?_,fun d hd => ok2_pure _ (pureL_mem hp hd)⟩
   simp [goG,injN,lkN,lkB,optIs])
  rfl (by
   rintro r T1' ⟨s,rfl,rfl⟩
   obtain⟨v,ety,sz,rows,hb⟩:=hB s
   rw [hb]
   simp [backG,ok2_pure _ (hr s),okOb,lkN,getT,okBk])
  (fun _ _ _ h => by cases h) hn
 intro cx a w K Q hs hk
 refine h cx a w K Q hs fun σ' a' w' hσ hs' => ?_
 obtain⟨r,T1',⟨s',rfl,rfl⟩,rfl⟩:=hσ
 refine hk _ a' w' ⟨s',?_⟩ hs'
 obtain⟨v,ety,sz,rows,hb⟩:=hB s'
 unfold postG
 rw [rn2_pure _ (hr s'),hb]
 rfl
theorem GOk.boxP {elem:TypeId} {x:Operand} {cells:List D} (ho:o.op=.box elem x) (hx:cellsOf (σ.ev x)=some cells) (hp:D.pureL cells=true):GOk P o σ (.fp cells 0):=by
 intro cx ι β a w next Q hi hr hk
 obtain⟨hl,h1,hg⟩:=(hr x).cells hx
 have hcell:∀ b o,ι b o→(w.alloc (.cells (a.eval x).cells elem)).cell? ⟨b,o,none⟩=w.cell? ⟨b,o,none⟩:=fun b o hb => World.cell?_alloc_lt w _ _ (hi.lt b o hb)
 have hrun:(execOp a.eval o).run P w=.ok (.value (.pointer (some ⟨w.heap.size,0,none⟩))) (w.alloc (.cells (a.eval x).cells elem)):=by simp [execOp,ho,Instr.box,newVar,newRow]
 unfold Oper.wp
 rw [hrun]
 refine hk _ (w.alloc (.cells (a.eval x).cells elem)) (fun b o => ι b o ∨ (b=w.heap.size ∧ o < cells.length)) (hi.grow rfl rfl rfl (by simp) (fun k hk => Below.heap_alloc w _ k hk) (fun _ _ h => .inl h) (fun b o h => h.imp id (fun h => by simp; omega))) (fun _ _ h => .inl h) hcell (.pu ?_)
 refine .fp cells 0 w.heap.size 0 (fun k => ((a.eval x).cells[k]?).getD undef) (fun k hk => ?_) (fun k d hd => ?_)
 ·have hk':(a.eval x).cells[k]? =some ((a.eval x).cells[k]'(by omega)):=Array.getElem?_eq_getElem _
  exact⟨by rw [Nat.zero_add,World.cell?_alloc_new,hk']; rfl,by rw [hk']; exact h1 _ _ hk',.inr ⟨rfl,by omega⟩⟩
 ·have hk:k < cells.length:=(List.getElem?_eq_some_iff.1 hd).1
  have hk':(a.eval x).cells[k]? =some ((a.eval x).cells[k]'(by omega)):=Array.getElem?_eq_getElem _
  rw [hk']
  exact ((hg _ _ _ hd hk').pure (pureL_mem hp (List.mem_of_getElem? hd))).mono (fun _ _ h => .inl h) hcell
end
end Go.Proofs.Vx
