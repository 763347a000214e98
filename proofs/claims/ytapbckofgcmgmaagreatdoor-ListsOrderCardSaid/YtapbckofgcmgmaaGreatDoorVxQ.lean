import Derived.Test.YtapbckofgcmgmaaGreatDoorVxM
namespace Go.Proofs.Vx
open Go Go.RowKit
set_option linter.unusedSectionVars false
variable [Glo]
def ldO (ty:TypeId) (a:Nat):Oper:={ dst:=none,op:=.load ty (.tmp a),type:=ty,pos:="",after:=#[],guard:=none }
inductive ResD (P:Program) (σ:St):ResultVar→D→Prop
 | tmp {t:Nat} {d:D} (h:get σ.fr t=d):ResD P σ (.tmp t) d
 | cell {a:Nat} {ty:TypeId} {d:D} (h:VOk P (ldO ty a) σ d):ResD P σ (.cell a ty) d
inductive ResL (P:Program) (σ:St):List ResultVar→List D→Prop
 | nil:ResL P σ [] []
 | cons {r:ResultVar} {rs:List ResultVar} {d:D} {ds:List D} (h:ResD P σ r d) (hr:ResL P σ rs ds):ResL P σ (r :: rs) (d :: ds)
def tupOf:List D→D
 | [d] => d
 | ds => .tup ds
def rdRes (tmps:Array Value):ResultVar→Sem Value
 | .tmp t => pure (tmps.getD t undef)
 | .cell a t => do loadVar t (← asAddr (tmps.getD a undef))
theorem ResD.run {P:Program} {σ:St} {r:ResultVar} {d:D} (h:ResD P σ r d) {cx:Cx} {ι:Nat→Nat→Prop} {β:Nat→Value} {tmps:Array Value} {w:World} (hi:Inv cx ι β σ.T w) (hr:∀ s,R ι w (rho β σ.T) (get σ.fr s) (tmps.getD s undef)) :
  ∃ v,(rdRes tmps r).run P w=.ok v w ∧ R ι w (rho β σ.T) d v:=by
 cases h with
 | tmp h => exact⟨_,rfl,h ▸ hr _⟩
 | @cell a ty _ h =>
  obtain⟨v,hv,hR⟩:=h cx ι β ⟨fun x => match x with | .tmp t => tmps.getD t undef | .const v => v | .func f => .func (.func f) #[] #[] | .global _ => undef⟩ w hi (fun x => by
   cases x with
   | tmp t => exact hr t
   | const v => exact .v v
   | func f => exact .pu (.clo f [] #[] rfl (fun k d x h => by simp at h))
   | global g => exact .junk _)
  refine⟨v,?_,hR⟩
  simp only [execOp,ldO,Instr.loadAt] at hv
  simp only [rdRes]
  generalize tmps.getD a undef=x at hv ⊢
  cases x with
  | pointer p =>
   cases p with
   | none => simp [Instr.sureAddr,stuck] at hv
   | some ad =>
    simp only [Instr.sureAddr,asAddr,Sem.run_bind,Sem.run_pure,Result.andThen_ok] at hv ⊢
    generalize (loadVar ty ad).run P w=q at hv ⊢
    cases q <;> simp_all [Result.andThen]
  | _ => simp [Instr.sureAddr,stuck] at hv
inductive F2 {α β:Type} (p:α→β→Prop):List α→List β→Prop
 | nil:F2 p [] []
 | cons {a:α} {b:β} {as:List α} {bs:List β} (h:p a b) (hr:F2 p as bs):F2 p (a :: as) (b :: bs)
theorem F2.len {α β:Type} {p:α→β→Prop} {as:List α} {bs:List β} (h:F2 p as bs):as.length=bs.length:=by
 induction h with
 | nil => rfl
 | cons _ _ ih => simp [ih]
theorem F2.get {α β:Type} {p:α→β→Prop} {as:List α} {bs:List β} (h:F2 p as bs):∀ (k:Nat) a b,as[k]? =some a→bs[k]? =some b→p a b:=by
 induction h with
 | nil => intro k a b h; simp at h
 | cons e _ ih =>
  intro k a b hd hx
  cases k with
  | zero => simp at hd hx; subst hd; subst hx; exact e
  | succ k => exact ih k a b (by simpa using hd) (by simpa using hx)
theorem Fn.of_okR {P:Program} {f:Nat} {fn:Func} {c:Code} {ds:List D} {T T':List (Nat × Ob)} {r:D} (hf:P.funcs[f]? =some fn) (hb:fn.body=some c)
  (hn:ds.length ≤ fn.ntmps)
  (h:Ok P fn.ntmps c ⟨params ds 0,T⟩ fun e σ => (e=.ret ∨ e=.normal) ∧ (∃ rs,ResL P σ fn.results.toList rs ∧ tupOf rs=r) ∧ leT T' σ.T):Fn P f ds T r T':=by
 intro w ι β vs hi hl hr
 refine calls_of_wp hf hb (h ⟨w,Wof β T,ι,[]⟩ _ w _ ⟨⟨ι,β,hi,fun s => ?_⟩,?_,rfl⟩ fun e σ' a' w' he hs => ?_)
 ·show R ι w (rho β T) (get (params ds 0) s) _
  rw [get_params,if_pos (Nat.zero_le _)]
  simp only [Nat.sub_zero]
  by_cases hlt:s < ds.length
  ·have hv:s < vs.size:=by omega
   have e:(vs ++ Array.replicate (fn.ntmps - vs.size) undef).getD s undef=vs[s]:=by simp [Array.getD,Array.getElem_append_left,hv]; intro h; omega
   rw [e,List.getElem?_eq_getElem hlt]
   exact hr s _ _ (List.getElem?_eq_getElem hlt) (Array.getElem?_eq_getElem hv)
  ·rw [List.getElem?_eq_none (by omega)]; exact .junk _
 ·simp; omega
 ·obtain⟨he,⟨rs,hres,hrt⟩,hT⟩:=he
  obtain⟨⟨ι',β',hi',hr'⟩,hsz,hd⟩:=hs
  have hT':=leT_get hT
  have down:∀ d x,R ι' w' (rho β' σ'.T) d x→R ι' w' (rho β' T') d x:=fun d x h => h.mono (fun _ _ h => h) (fun _ _ _ => rfl) (rho_le hT')
  have all:∀ rl rs,ResL P σ' rl rs→∃ vs:List Value,F2 (fun r v => (rdRes a'.tmps r).run P w'=.ok v w') rl vs ∧ F2 (fun d v => R ι' w' (rho β' T') d v) rs vs:=by
   intro rl rs h
   induction h with
   | nil => exact⟨[],.nil,.nil⟩
   | cons h _ ih =>
    obtain⟨v,h1,h2⟩:=h.run hi' hr'
    obtain⟨vs,h3,h4⟩:=ih
    exact⟨v :: vs,.cons h1 h3,.cons (down _ _ h2) h4⟩
  obtain⟨vl,hv1,hv2⟩:=all _ _ hres
  have runl:∀ rl vl,F2 (fun r v => (rdRes a'.tmps r).run P w'=.ok v w') rl vl→(rl.mapM (rdRes a'.tmps)).run P w'=.ok vl w':=by
   intro rl vl h
   induction h with
   | nil => rfl
   | cons h _ ih => rw [List.mapM_cons]; simp [h,ih]
  have key:(results fn a'.tmps).run P w'=.ok (if h:vl.length=1 then vl[0] else .tuple vl.toArray) w':=by
   have e:(fn.results.mapM (rdRes a'.tmps)).run P w'=.ok vl.toArray w':=by
    have:=runl _ _ hv1
    rw [← Array.toArray_toList (xs:=fn.results)]
    simp only [List.mapM_toArray]
    rw [← bind_pure_comp]
    simp [this]
   show ((fn.results.mapM (rdRes a'.tmps)) >>= fun vs => pure (if h:vs.size=1 then vs[0] else .tuple vs)).run P w'=_
   simp [e]
  have hR:R ι' w' (rho β' T') r (if h:vl.length=1 then vl[0] else .tuple vl.toArray):=by
   subst hrt
   match rs,vl,hv2 with
   | [],[],_ => exact .tup [] #[] rfl (fun k d x h => by simp at h)
   | [d],[v],.cons h _ => exact h
   | d :: e :: ds,v :: u :: vs,hv2 =>
    simp only [List.length_cons]
    rw [dif_neg (by omega)]
    have hlen:=hv2.len
    refine .tup _ _ (by simpa using hlen.symm) (fun k d x hk hx => ?_)
    have hx:(v :: u :: vs)[k]? =some x:=by simpa using hx
    exact hv2.get k d x hk hx
  rcases he with rfl | rfl
  ·exact⟨hd,_,key,_,ι',β',rfl,hi'.le hT',hR⟩
  ·exact⟨hd,_,key,_,ι',β',rfl,hi'.le hT',hR⟩
def leL:List D→List D→Prop
 | [],[] => True
 | a :: as,b :: bs => DLe a b ∧ leL as bs
 | _,_ => False
theorem leL_len:∀ {as bs:List D},leL as bs→as.length=bs.length
 | [],[],_ => rfl
 | _ :: _,_ :: _,h => by simp [leL_len h.2]
theorem leL_get:∀ {as bs:List D},leL as bs→∀ (k:Nat) a b,as[k]? =some a→bs[k]? =some b→DLe a b
 | [],[],_,k,a,b,h,_ => by simp at h
 | _ :: _,_ :: _,h,0,a,b,ha,hb => by simp at ha hb; subst ha; subst hb; exact h.1
 | _ :: _,_ :: _,h,k + 1,a,b,ha,hb => leL_get h.2 k a b (by simpa using ha) (by simpa using hb)
theorem ObLe.cells {e:Ex} {c' c:List D} (h:leL c' c):ObLe (.box e c') (.box e c):=.box e c' c (leL_len h) (leL_get h)
end Go.Proofs.Vx
namespace Go.Proofs.Vx
open Go Go.RowKit
variable [Glo]
def BOk (P:Program) (o:Oper) (σ:St) (X:Bool→Prop):Prop:=
 ∀ (cx:Cx) (ι:Nat→Nat→Prop) (β:Nat→Value) (a:Ea) (w:World),Inv cx ι β σ.T w→(∀ x:Operand,R ι w (rho β σ.T) (σ.ev x) (a.eval x))→∃ b,X b ∧ (execOp a.eval o).run P w=.ok (.value (.bool b)) w
def OpsB (P:Program) (n:Nat) (ops:Array Oper) (l:List Oper) (σ:St) (X:Bool→Prop) (σ':Bool→St):Prop:=
 ∀ cx a w Q,Sim cx n σ a w→(∀ b a' w',X b→Sim cx n (σ' b) a' w'→Q Exit.normal a' w')→wpList P ops Q l a w
section
variable {P:Program} {n:Nat} {σ σ₁:St} {Φ:Exit→St→Prop} {ops:Array Oper} {l:List Oper} {o:Oper} {X:Bool→Prop} {σ':Bool→St}
theorem OpsB.cons (hg:o.guard=none) (h:OpOk P n o σ σ₁) (hl:OpsB P n ops l σ₁ X σ'):OpsB P n ops (o :: l) σ X σ':=fun cx a w Q hs hq => by
 unfold wpList
 rw [if_pos (by simp [Region.wanted,hg])]
 exact .inl (h cx a w _ _ hs fun a' w' hs' => hl cx a' w' Q hs' hq)
theorem OpsB.last (hg:o.guard=none) (h:BOk P o σ X) (hn:dstB n o.dst=true) (hl:∀ b,Le (σ' b) (σ.put o.dst (.v (.bool b)))):OpsB P n ops [o] σ X σ':=fun cx a w Q hs hq => by
 unfold wpList
 rw [if_pos (by simp [Region.wanted,hg])]
 obtain⟨⟨ι,β,hi,hr⟩,hsz,hdf⟩:=hs
 obtain⟨b,hX,hrun⟩:=h cx ι β ⟨a.eval⟩ w hi (sim_ev hr)
 left
 unfold Oper.wp
 rw [hrun]
 exact hq b _ _ hX ((Sim.put1 hi hr hsz hdf (dstB_lt hn) (.v _)).le (hl b))
theorem Ok.regionB {id:Nat} (h:OpsB P n ops ops.toList σ X σ') (hk:∀ b,X b→Φ .normal (σ' b)):Ok P n (.region id ops false) σ Φ:=fun cx a w Q hs hq =>
 wp_region_list (h cx a w Q hs fun b _ _ hX hs' => hq _ _ _ _ (hk b hX) hs')
theorem BOk.eqNil {α:Type} {ty t2 e:TypeId} {x:Operand} {sz:Nat} {E:α→List D} {xs:List α} (ho:o.op=.binOp .eql ty x (.const (.slice none 0 0)) t2) (hu:P.underlying ty=some (.slice e)) (hx:σ.ev x=L sz E xs):BOk P o σ (fun b => b=true→xs=[]):=
 fun cx ι β a w hi hr => by
  have hxx:=hr x
  rw [hx] at hxx
  obtain⟨A,cap,hv,hcap,hA,_⟩:=hxx.list_inv
  have hc:a.eval (.const (.slice none 0 0))=.slice none 0 0:=ev_v hr rfl
  cases A with
  | none =>
   have h0:=hA rfl
   refine⟨true,fun _ => ?_,?_⟩
   ·rw [List.length_map] at hcap; exact List.eq_nil_of_length_eq_zero (by omega)
   ·have e0:xs.length=0:=by rw [List.length_map] at hcap; omega
    have he:(Op.equal ty (.slice none 0 0) (.slice none 0 0)).run P w=.ok true w:=by
     unfold Op.equal Op.maxDepth Op.equalIn
     simp [run_underlying hu]
    simp [execOp,ho,hv,hc,h0,e0,eqGuard,binOp,he]
  | some ad =>
   refine⟨false,fun h => (by cases h),?_⟩
   have he:(Op.equal ty (.slice (some ad) (xs.map E).length cap) (.slice none 0 0)).run P w=.ok false w:=by
    unfold Op.equal Op.maxDepth Op.equalIn
    simp [run_underlying hu]
   rw [List.length_map] at he hv
   simp [execOp,ho,hv,hc,eqGuard,binOp,he]
end
end Go.Proofs.Vx
