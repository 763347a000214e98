import Derived.Test.YtapbckofgcmgmaaGreatDoorVxKl
import Derived.Recover
namespace Go.Proofs.Vx
open Go Go.RowKit
set_option linter.unusedSectionVars false
variable [Glo]
def isDf (f m:Nat) (ds:List Deferred):Prop:=∃ caps:Array Value,caps.size=m ∧ ds=[{ target:=.fn (.func f) caps,args:=#[] }]
def OkDf (P:Program) (n f m:Nat) (c:Code) (σ:St) (Φ:Exit→St→Prop):Prop:=
 ∀ cx a w Q,cx.ds=[]→Sim cx n σ a w→(∀ e σ' a' w' ds,ds=[] ∨ isDf f m ds→Φ e σ'→Sim ⟨cx.w0,cx.W,cx.ι0,ds⟩ n σ' a' w'→Q e a' w')→c.wp P Q a w
def thnDf (P:Program) (n f m:Nat) (c:Code) (Φ:Exit→St→Prop):Exit→St→Prop
 | .normal,σ => OkDf P n f m c σ Φ
 | e,σ => Φ e σ
section
variable {P:Program} {n f m:Nat} {σ:St} {Φ:Exit→St→Prop}
theorem cx_ds {cx:Cx} (h:cx.ds=[]):(⟨cx.w0,cx.W,cx.ι0,[]⟩:Cx)=cx:=by cases cx; simp_all
theorem OkDf.seq {x y:Code} (h:Ok P n x σ (thnDf P n f m y Φ)):OkDf P n f m (.seq x y) σ Φ:=fun cx a w Q hd hs hq =>
 wp_seq (h cx a w _ hs fun e σ' a' w' he hs' => by
  cases e
  case normal => exact he cx a' w' Q hd hs' hq
  all_goals exact hq _ _ _ _ [] (.inl rfl) he (by rw [cx_ds hd]; exact hs'))
theorem OkDf.le {σ':St} {c:Code} (hl:Le σ' σ) (h:OkDf P n f m c σ' Φ):OkDf P n f m c σ Φ:=fun cx a w Q hd hs hq => h cx a w Q hd (hs.le hl) hq
theorem OkDf.defer {id t:Nat} {o1 o2:Oper} {caps:Array Operand} {y:Code} (h1:o1.op=.makeFunc (.func f) #[] caps) (hd1:o1.dst=some t) (hg1:o1.guard=none) (ht:t < n)
  (h2:o2.op=.defer { callee:=.value (.tmp t),args:=#[],argTypes:=#[] }) (hd2:o2.dst=none) (hg2:o2.guard=none) (hm:caps.size=m)
  (hk:Ok P n y (σ.put (some t) .junk) Φ):OkDf P n f m (.seq (.region id #[o1,o2] false) y) σ Φ:=fun cx a w Q hd hs hq => by
 refine wp_seq (wp_region_list ?_)
 show wpList P #[o1,o2] _ [o1,o2] a w
 obtain⟨ι,β,hi,hr⟩:=hs.ex
 unfold wpList
 rw [if_pos (by simp [Region.wanted,hg1])]
 refine .inl ?_
 have e1:(execOp a.eval o1).run P w=.ok (.value (.func (.func f) #[] (caps.map a.eval))) w:=by simp [execOp,h1,Instr.makeFunc]
 unfold Oper.wp
 rw [e1,Oper.upon_value]
 unfold wpList
 rw [if_pos (by simp [Region.wanted,hg2])]
 refine .inl ?_
 have hsz:t < a.tmps.size:=by rw [hs.size]; exact ht
 have e2:(execOp (a.put o1.dst (.func (.func f) #[] (caps.map a.eval))).eval o2).run P w=.ok (.defer { target:=.fn (.func f) (caps.map a.eval),args:=#[] }) w:=by
  simp [execOp,h2,resolve,Deferred.ofValue,hd1,Act.put,Act.eval,hsz]
 unfold Oper.wp
 rw [e2,Oper.upon_defer]
 unfold wpList
 have hs':Sim ⟨cx.w0,cx.W,cx.ι0,[{ target:=.fn (.func f) (caps.map a.eval),args:=#[] }]⟩ n (σ.put (some t) .junk) (({ a.put o1.dst (.func (.func f) #[] (caps.map a.eval)) with defers:={ target:=.fn (.func f) (caps.map a.eval),args:=#[] } :: (a.put o1.dst (.func (.func f) #[] (caps.map a.eval))).defers }:Act).put o2.dst undef) w:=by
  have hp:=Sim.put1 (cx:=⟨cx.w0,cx.W,cx.ι0,[]⟩) (fr:=σ.fr) (T:=σ.T) (dst:=some t) (d:=.junk) (x:=.func (.func f) #[] (caps.map a.eval)) (by rw [cx_ds hd]; exact hi) hr hs.size (by show a.defers=[]; rw [hs.defers,hd]) (fun s h => by cases h; exact ht) (.junk _)
  obtain⟨⟨ι',β',hi',hr'⟩,hz,hdf⟩:=hp
  rw [hd1,hd2]
  exact⟨⟨ι',β',⟨hi'.gl,hi'.os,hi'.tape,hi'.output,hi'.size,hi'.kept,hi'.old,hi'.new,hi'.lt,hi'.obj,hi'.mine,hi'.apart⟩,hr'⟩,hz,by show _ :: a.defers=_; rw [hs.defers,hd]⟩
 exact hk _ _ w Q hs' fun e σ' a' w' he hs2 => hq e σ' a' w' _ (.inr ⟨_,by simp [hm],rfl⟩) he hs2
end
theorem ta_nil {P:Program} {s t:TypeId} {z:Value} {d:TypeDesc} (hu:P.underlying t=some d) (hz:zeroOf P t=some z) (w:World):(Instr.typeAssert .nilIface s t true).run P w=.ok (.tuple #[z,.bool false]) w:=by
 unfold Instr.typeAssert
 have h:=run_zeroValue' hz w
 cases d <;> simp [run_underlying hu,h]
structure Ext (w w':World):Prop where
 os:w'.os=w.os
 tape:w'.tape=w.tape
 output:w'.output=w.output
 size:w.heap.size ≤ w'.heap.size
 kept:∀ k,k < w.heap.size→w'.heap[k]? =w.heap[k]?
theorem Fn.of_okDf {P:Program} {g:Nat} {fn:Func} {c:Code} {ds:List D} {T T':List (Nat × Ob)} {r:D} (f m:Nat) (hf:P.funcs[g]? =some fn) (hb:fn.body=some c)
  (hn:ds.length ≤ fn.ntmps) (hcl:callable P f=true)
  (hD:∀ (caps:Array Value) (w:World),caps.size=m→CallsD P f caps .returning w fun e u' w' => e=.returned (.tuple #[]) ∧ u'=.returning ∧ Ext w w')
  (h:OkDf P fn.ntmps f m c ⟨params ds 0,T⟩ fun e σ => (e=.ret ∨ e=.normal) ∧ (∃ rs,ResL P σ fn.results.toList rs ∧ tupOf rs=r) ∧ leT T' σ.T):Fn P g ds T r T':=by
 intro w ι β vs hi hl hr
 refine calls_of_wp_defers hf hb (h ⟨w,Wof β T,ι,[]⟩ _ w _ rfl ⟨⟨ι,β,hi,fun s => ?_⟩,?_,rfl⟩ fun e σ' a' w' dd hdd he hs => ?_)
 ·show R ι w (rho β T) (get (params ds 0) s) _
  rw [get_params,if_pos (Nat.zero_le _)]
  simp only [Nat.sub_zero]
  by_cases hlt:s < ds.length
  ·have hv:s < vs.size:=by omega
   have e:(vs ++ Array.replicate (fn.ntmps - vs.size) undef).getD s undef=vs[s]:=by simp [Array.getD,Array.getElem_append_left,hv]; intro h; omega
   rw [e,List.getElem?_eq_getElem hlt]
   exact hr s _ _ (List.getElem?_eq_getElem hlt) (Array.getElem?_eq_getElem hv)
  ·rw [List.getElem?_eq_none (by omega)]; exact .junk _
 ·simp; omega
 ·obtain⟨he,⟨rs,hres,hrt⟩,hT⟩:=he
  obtain⟨⟨ι',β',hi0,hr0⟩,hsz,hd⟩:=hs
  have hi1:Inv ⟨w,Wof β T,ι,[]⟩ ι' β' σ'.T w':=⟨hi0.gl,hi0.os,hi0.tape,hi0.output,hi0.size,hi0.kept,hi0.old,hi0.new,hi0.lt,hi0.obj,hi0.mine,hi0.apart⟩
  have hT':=leT_get hT
  have fin:∀ w2,Inv ⟨w,Wof β T,ι,[]⟩ ι' β' σ'.T w2→(∀ s,R ι' w2 (rho β' σ'.T) (get σ'.fr s) (a'.tmps.getD s undef))→∃ v,(results fn a'.tmps).run P w2=.ok v w2 ∧ ∃ v' ι'' β'',Ending.returned v=.returned v' ∧ Inv ⟨w,Wof β T,ι,[]⟩ ι'' β'' T' w2 ∧ R ι'' w2 (rho β'' T') r v':=by
   intro w' hi' hr'
   have down:∀ d x,R ι' w' (rho β' σ'.T) d x→R ι' w' (rho β' T') d x:=fun d x h => h.mono (fun _ _ h => h) (fun _ _ _ => rfl) (rho_le hT')
   have all:∀ rl rs,ResL P σ' rl rs→∃ vs:List Value,F2 (fun r v => (rdRes a'.tmps r).run P w'=.ok v w') rl vs ∧ F2 (fun d v => R ι' w' (rho β' T') d v) rs vs:=by
    intro rl rs h
    induction h with
    | nil => exact⟨[],.nil,.nil⟩
    | cons h _ ih =>
     obtain⟨v,h1,h2⟩:=h.run hi' hr'
     obtain⟨vs,h3,h4⟩:=ih
     exact⟨v :: vs,.cons h1 h3,.cons (down _ _ h2) h4⟩
   obtain⟨vl,hv1,hv2⟩:=all _ _ hres
   have runl:∀ rl vl,F2 (fun r v => (rdRes a'.tmps r).run P w'=.ok v w') rl vl→(rl.mapM (rdRes a'.tmps)).run P w'=.ok vl w':=by
    intro rl vl h
    induction h with
    | nil => rfl
    | cons h _ ih => rw [List.mapM_cons]; simp [h,ih]
   have key:(results fn a'.tmps).run P w'=.ok (if h:vl.length=1 then vl[0] else .tuple vl.toArray) w':=by
    have e:(fn.results.mapM (rdRes a'.tmps)).run P w'=.ok vl.toArray w':=by
     have:=runl _ _ hv1
     rw [← Array.toArray_toList (xs:=fn.results)]
     simp only [List.mapM_toArray]
     rw [← bind_pure_comp]
     simp [this]
    show ((fn.results.mapM (rdRes a'.tmps)) >>= fun vs => pure (if h:vs.size=1 then vs[0] else .tuple vs)).run P w'=_
    simp [e]
   have hR:R ι' w' (rho β' T') r (if h:vl.length=1 then vl[0] else .tuple vl.toArray):=by
    subst hrt
    match rs,vl,hv2 with
    | [],[],_ => exact .tup [] #[] rfl (fun k d x h => by simp at h)
    | [d],[v],.cons h _ => exact h
    | d :: e :: ds,v :: u :: vs,hv2 =>
     simp only [List.length_cons]
     rw [dif_neg (by omega)]
     have hlen:=hv2.len
     refine .tup _ _ (by simpa using hlen.symm) (fun k d x hk hx => ?_)
     have hx:(v :: u :: vs)[k]? =some x:=by simpa using hx
     exact hv2.get k d x hk hx
   exact⟨_,key,_,ι',β',rfl,hi'.le hT',hR⟩
  have leave:Leaves P fn a'.tmps (fun e w' => ∃ v ι' β',e=.returned v ∧ Inv ⟨w,Wof β T,ι,[]⟩ ι' β' T' w' ∧ R ι' w' (rho β' T') r v) a'.defers .returning w':=by
   rw [hd]
   rcases hdd with rfl |⟨caps,hc,rfl⟩
   ·exact fin w' hi1 hr0
   ·refine leaves_cons (f:=f) (args:=caps) (by simp) (by simp [invoke,run_callFunc hcl]) ?_
    refine (hD caps w' hc).mono ?_
    rintro e u' w2 ⟨rfl,rfl,hx⟩
    have hcell:∀ b o,ι' b o→w2.cell? ⟨b,o,none⟩=w'.cell? ⟨b,o,none⟩:=fun b o hb => World.cell?_of_block (w:=w') (hx.kept b (hi1.lt b o hb))
    exact fin w2 (hi1.grow hx.os hx.tape hx.output hx.size hx.kept (fun _ _ h => h) (fun _ _ h => .inl h)) fun s => (hr0 s).mono (fun _ _ h => h) hcell (fun _ _ h => h)
  rcases he with rfl | rfl
  ·exact leave
  ·exact leave
end Go.Proofs.Vx
namespace Go.Proofs.Vx
open Go
theorem Ext.alloc (w:World) (ob:Obj):Ext w (w.alloc ob):=⟨rfl,rfl,rfl,by show w.heap.size ≤ (w.heap.push ob).size; simp,fun k hk => by show (w.heap.push ob)[k]? =_; rw [Array.getElem?_push]; exact if_neg (by omega)⟩
end Go.Proofs.Vx
namespace Go.Proofs.Vx
open Go Go.RowKit
variable [Glo]
theorem VOk.cntByte {P:Program} {o:Oper} {σ:St} {g x y:Operand} {ts:Array TypeId} {f:Nat} {fn:Func} {s:List UInt8} {c:Int} (ho:o.op=.call { callee:=.value g,args:=#[x,y],argTypes:=ts }) (hg:σ.ev g=.clo f [])
  (hf:P.funcs[f]? =some fn) (h1:(fn.name == "runtime.NumGoroutine")=false) (hb:fn.body.isNone=true) (hn:Extern.findNext fn=none) (he:Extern.find fn=some Extern.BytealgCount.count)
  (hx:σ.ev x=S s) (hy:σ.ev y=.v (.int .u8 c)):VOk P o σ (.v (.int .i64 (Lib.countByte s c.toNat.toUInt8))):=by
 intro cx ι β a w hi hr
 have hgg:=hr g
 rw [hg] at hgg
 obtain⟨vs,hv,hl,_⟩:=hgg.clo_inv
 have hvs:vs=#[]:=Array.eq_empty_of_size_eq_zero (by simpa using hl)
 subst hvs
 have hxv:=ev_v hr hx
 have hyv:=ev_v hr hy
 have:=run_callFunc_extern (P:=P) hf h1 hb hn he #[.string (ba s),.int .u8 c] w
 refine⟨_,?_,.v _⟩
 have hd:(ba s).data.toList=s:=by simp [ba]
 simp [execOp,ho,resolve,hv,Deferred.ofValue,invoke,hxv,hyv,this,Lib.run_countString,hd]
end Go.Proofs.Vx
