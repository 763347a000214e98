import Derived.Test.YtapbckofgcmgmaaGreatDoorVxI
import Derived.Laws.StructEq
namespace Go.Proofs.Vx
open Go Go.RowKit
set_option linter.unusedSectionVars false
variable [Glo]
theorem assertE {α:Type} {c:Prop} [Decidable c] {x:Option α} {r:α} (h:(if c then x else none)=some r):c ∧ x=some r:=by
 by_cases hc:c
 ·rw [if_pos hc] at h; exact⟨hc,h⟩
 ·rw [if_neg hc] at h; cases h
theorem ifT {α:Type} {b:Bool} {x y:α} {r:α} (h:(if b=true then x else y)=r) (hb:b=true):x=r:=by rw [if_pos hb] at h; exact h
theorem ifF {α:Type} {b:Bool} {x y:α} {r:α} (h:(if b=true then x else y)=r) (hb:b=false):y=r:=by rw [if_neg (by rw [hb]; simp)] at h; exact h
theorem bindE {α β:Type} {x:Option α} {f:α→Option β} {r:β} (h:x.bind f=some r):∃ t,x=some t ∧ f t=some r:=Option.bind_eq_some_iff.1 h
theorem cT {α:Type} {b:Bool} {x y:α} (h:b=true):(bif b then x else y)=x:=by rw [h]; rfl
theorem t_beq {a:Bool} (h:a=true):(a == true)=true:=by rw [h]; rfl
theorem f_beq {a:Bool} (h:a=false):(a == false)=true:=by rw [h]; rfl
theorem and_i {a b:Bool} (h:a=true) (g:b=true):(a && b)=true:=by rw [h,g]; rfl
section
variable {P:Program} {n:Nat} {ops:Array Oper} {l:List Oper} {σ σ':St} {o:Oper}
theorem OpsOk.consI {j t:Nat} {want g:Bool} {d:D} (hg:o.guard=some (j,want)) (hj:((ops[j]?).bind (·.dst))=some t) (ht:Nat.ble (t + 1) n=true) (hG:Gd σ.fr t want g) (hd:dstB n o.dst=true) (h:g=true→GOk P o σ d)
  (hl:OpsOk P n ops l (σ.put o.dst (bif g then d else .v undef)) σ'):OpsOk P n ops (o :: l) σ σ':=fun cx a w Q hs hq => by
 have hw:=sim_wanted hs hg hj (Nat.le_of_ble_eq_true ht) hG
 unfold wpList
 cases g with
 | true => rw [if_pos hw]; exact .inl (OpOk.g (h rfl) hd cx a w _ _ hs fun a' w' hs' => hl cx a' w' Q hs' hq)
 | false =>
  rw [if_neg (by rw [hw]; simp)]
  exact hl cx _ w Q (hs.put (dstB_lt hd) fun _ _ _ _ => .v _) hq
theorem VOk.pickI {c x y:Operand} {b p q:Bool} (ho:o.op=.pick c x y) (hc:σ.ev c=.v (.bool b)) (hx:b=true→σ.ev x=.v (.bool p)) (hy:b=false→σ.ev y=.v (.bool q)):VOk P o σ (.v (.bool (bif b then p else q))):=
 .plain fun _ _ _ a _ _ hr => by cases b <;> simp [execOp,ho,ev_v hr hc,asBool] <;> first | exact ev_v hr (hx rfl) | exact ev_v hr (hy rfl)
def It.I (g:Bool) (fr:List (Nat × D)) (d:D):It:=⟨g,fr,bif g then d else .v undef⟩
theorem It.ok {g:Bool} {fr:List (Nat × D)} {T:List (Nat × Ob)} {d:D} (h:g=true→GOk P o ⟨fr,T⟩ d):((It.I g fr d).go=true→GOk P o ⟨(It.I g fr d).fr,T⟩ (It.I g fr d).d) ∧ ((It.I g fr d).go=false→(It.I g fr d).d=.v undef):=by
 cases g with
 | true => exact⟨fun _ => h rfl,fun h => (by cases h)⟩
 | false => exact⟨fun h => (by cases h),fun _ => rfl⟩
theorem Txt.cons {T:List (Nat × Ob)} {all:Array Oper} {os:List Oper} {its:List It} {f f' fr:List (Nat × D)} {d:D} (hd:dstB n o.dst=true) (hl:leFr fr f) (hg:o.guard=none) (h:GOk P o ⟨fr,T⟩ d) (hr:Txt P n T all os its (putF f o.dst d) f') :
  Txt P n T all (o :: os) (⟨true,fr,d⟩ :: its) f f':=⟨hd,hl,by simp only [gdOk,hg],fun _ => h,fun h => (by cases h),hr⟩
theorem Txt.consI {T:List (Nat × Ob)} {all:Array Oper} {os:List Oper} {its:List It} {f f' fr:List (Nat × D)} {d:D} {j t:Nat} {want g:Bool} (hd:dstB n o.dst=true) (hl:leFr fr f) (hg:o.guard=some (j,want)) (hj:((all[j]?).bind (·.dst))=some t) (hG:Gd fr t want g)
  (h:g=true→GOk P o ⟨fr,T⟩ d) (hr:Txt P n T all os its (putF f o.dst (bif g then d else .v undef)) f'):Txt P n T all (o :: os) (It.I g fr d :: its) f f':=
 ⟨hd,hl,by simp only [gdOk,hg]; exact⟨t,hj,hG⟩,(It.ok h).1,(It.ok h).2,hr⟩
end
inductive EqT (P:Program):Nat→TypeId→List Nat→Prop
 | int (d:Nat) (t:TypeId) (k:IntKind) (h:P.underlying t=some (.int k)):EqT P (d + 1) t [0]
 | str (d:Nat) (t:TypeId) (h:P.underlying t=some .string):EqT P (d + 1) t [1]
 | bool (d:Nat) (t:TypeId) (h:P.underlying t=some .bool):EqT P (d + 1) t [2]
 | struct (d:Nat) (t:TypeId) (fs:Array Field) (kss:List (List Nat)) (h:P.underlying t=some (.struct fs)) (hp:P.stoodInHeld t=false) (hl:fs.size=kss.length)
   (hn:∀ (i:Nat) f ks,fs[i]? =some f→kss[i]? =some ks→f.name ≠ "_" ∧ f.offset=((kss.take i).flatten).length ∧ szOf P f.type=some ks.length)
   (hf:∀ (i:Nat) f ks,fs[i]? =some f→kss[i]? =some ks→EqT P d f.type ks):EqT P (d + 1) t kss.flatten
def vEq:Nat→Value→Value→Option Bool
 | 0,.int k a,.int j b => match decide (k=j) with | true => some (a == b) | false => none
 | 1,.string ⟨⟨a⟩⟩,.string ⟨⟨b⟩⟩ => some (a == b)
 | 2,.bool a,.bool b => some (a == b)
 | _,_,_ => none
def dEq:List Nat→List D→List D→Option Bool
 | [],[],[] => some true
 | k :: ks,.v x :: r,.v y :: s => match vEq k x y,dEq ks r s with
  | some a,some b => some (a && b)
  | _,_ => none
 | _,_,_ => none
def vEqs:List Nat→List Value→List Value→Option Bool
 | [],[],[] => some true
 | k :: ks,x :: r,y :: s => match vEq k x y,vEqs ks r s with
  | some a,some b => some (a && b)
  | _,_ => none
 | _,_,_ => none
theorem dEq_v {ι w ρ}:∀ {ks:List Nat} {cs ds:List D} {b:Bool} {xs ys:List Value},dEq ks cs ds=some b→xs.length=cs.length→ys.length=ds.length→(∀ (k:Nat) d y,cs[k]? =some d→xs[k]? =some y→R ι w ρ d y)→(∀ (k:Nat) d y,ds[k]? =some d→ys[k]? =some y→R ι w ρ d y)→vEqs ks xs ys=some b
 | [],[],[],b,xs,ys,h,hx,hy,_,_ => by cases h; cases List.eq_nil_of_length_eq_zero hx; cases List.eq_nil_of_length_eq_zero hy; rfl
 | k :: ks,c :: cs,d :: ds,b,x :: xs,y :: ys,h,hx,hy,hX,hY => by
  have hx0:=hX 0 c x rfl rfl
  have hy0:=hY 0 d y rfl rfl
  cases c <;> cases d <;> simp only [dEq,reduceCtorEq] at h
  split at h
  ·rename_i a b' ha hb
   cases h
   rw [hx0.v_inv,hy0.v_inv]
   have ih:=dEq_v hb (by simpa using hx) (by simpa using hy) (fun k d y hd hy => hX (k + 1) d y (by simpa using hd) (by simpa using hy)) (fun k d y hd hy => hY (k + 1) d y (by simpa using hd) (by simpa using hy))
   simp only [vEqs,ha,ih]
  ·cases h
 | [],[],_ :: _,_,_,_,h,_,_,_,_ => by simp [dEq] at h
 | [],_ :: _,_,_,_,_,h,_,_,_,_ => by simp [dEq] at h
 | _ :: _,[],_,_,_,_,h,_,_,_,_ => by simp [dEq] at h
 | _ :: _,c :: cs,[],_,_,_,h,_,_,_,_ => by cases c <;> simp [dEq] at h
 | _ :: _,_ :: _,_ :: _,_,[],_,_,hx,_,_,_ => by cases hx
 | _ :: _,_ :: _,_ :: _,_,_ :: _,[],_,_,hy,_,_ => by cases hy
def valOf (P:Program) (t:TypeId) (xs:List Value):Value:=match P.underlying t with
 | some d => match aggB d with | true => .agg xs.toArray | false => xs.headD undef
 | none => undef
theorem vEqs_len:∀ {ks:List Nat} {xs ys:List Value} {b:Bool},vEqs ks xs ys=some b→xs.length=ks.length ∧ ys.length=ks.length
 | [],[],[],_,_ =>⟨rfl,rfl⟩
 | k :: ks,x :: xs,y :: ys,b,h => by
  simp only [vEqs] at h
  split at h
  ·rename_i hb; have:=vEqs_len hb; simp [this]
  ·cases h
 | [],[],_ :: _,_,h => by simp [vEqs] at h
 | [],_ :: _,_,_,h => by simp [vEqs] at h
 | _ :: _,[],_,_,h => by simp [vEqs] at h
 | _ :: _,_ :: _,[],_,h => by simp [vEqs] at h
theorem vEqs_append:∀ {k1 k2:List Nat} {xs ys:List Value} {b:Bool},vEqs (k1 ++ k2) xs ys=some b→∃ b1 b2,vEqs k1 (xs.take k1.length) (ys.take k1.length)=some b1 ∧ vEqs k2 (xs.drop k1.length) (ys.drop k1.length)=some b2 ∧ b=(b1 && b2)
 | [],k2,xs,ys,b,h =>⟨true,b,by simp [vEqs],by simpa using h,by simp⟩
 | k :: k1,k2,x :: xs,y :: ys,b,h => by
  simp only [List.cons_append,vEqs] at h
  split at h
  ·rename_i a b' ha hb
   cases h
   obtain⟨b1,b2,h2,h3,rfl⟩:=vEqs_append hb
   exact⟨a && b1,b2,by simp [vEqs,ha,h2],by simpa using h3,by rw [Bool.and_assoc]⟩
  ·cases h
 | _ :: _,_,[],_,_,h => by simp [vEqs] at h
 | _ :: _,_,_ :: _,[],_,h => by simp [vEqs] at h
theorem run_part {P:Program} {t:TypeId} {s off:Nat} {d:TypeDesc} (hu:P.underlying t=some d) (hs:szOf P t=some s) (h1:aggB d=false→s=1) (xs:Array Value) (hl:off + s ≤ xs.size) (w:World) :
  (part t xs off).run P w=.ok (valOf P t ((xs.toList.drop off).take s)) w:=by
 simp only [part,Sem.run_bind,run_isAgg' hu,Result.andThen_ok,valOf,hu]
 cases ha:aggB d with
 | true =>
  simp only [if_true,Sem.run_bind,run_sizeOf' hs,Result.andThen_ok,Sem.run_pure]
  congr 2
  rw [← Array.toList_inj]
  simp [Array.toList_extract,List.extract]
 | false =>
  have:=h1 ha; subst this
  have hlt:off < xs.size:=by omega
  have hx:xs[off]? =some xs[off]:=Array.getElem?_eq_getElem hlt
  simp only [Bool.false_eq_true,if_false,hx,Sem.run_pure]
  congr 1
  have:(xs.toList.drop off).take 1=[xs[off]]:=by
   rw [List.take_one]
   simp [hx]
  rw [this]; rfl
theorem EqT.run {P:Program} {d:Nat} {t:TypeId} {ks:List Nat} (h:EqT P d t ks):(∃ dc,P.underlying t=some dc ∧ (aggB dc=false→ks.length=1)) ∧ ∀ (xs ys:List Value) (b:Bool) (w:World),vEqs ks xs ys=some b→(Op.equalIn d t (valOf P t xs) (valOf P t ys)).run P w=.ok b w:=by
 have one:∀ {dc:TypeDesc} {t:TypeId} {d k:Nat} {w:World},P.underlying t=some dc→aggB dc=false→(∀ x y a,vEq k x y=some a→(Op.equalIn (d + 1) t x y).run P w=.ok a w)→∀ (xs ys:List Value) (b:Bool),vEqs [k] xs ys=some b→(Op.equalIn (d + 1) t (valOf P t xs) (valOf P t ys)).run P w=.ok b w:=by
  intro dc t d k w hu ha hv xs ys b h
  have hl:=vEqs_len h
  match xs,ys,h,hl with
  | [x],[y],h,_ =>
   simp only [vEqs] at h
   split at h
   ·rename_i a b' h1 h2
    cases h2; cases h
    simp only [valOf,hu,ha,List.headD_cons,Bool.and_true]
    exact hv x y a h1
   ·cases h
  | [],_,_,hl => exact absurd hl.1 (by simp)
  | _ :: _ :: _,_,_,hl => exact absurd hl.1 (by simp)
  | [_],[],_,hl => exact absurd hl.2 (by simp)
  | [_],_ :: _ :: _,_,hl => exact absurd hl.2 (by simp)
 induction h with
 | int d t k hu =>
  refine⟨⟨_,hu,fun _ => rfl⟩,fun xs ys b w => one hu rfl (fun x y a h => ?_) xs ys b⟩
  unfold vEq at h
  split at h
  ·split at h
   ·rename_i hk; cases h; simp at hk; subst hk; simp [Op.equalIn,run_underlying hu]
   ·cases h
  ·rename_i e; cases e
  ·rename_i e; cases e
  ·cases h
 | str d t hu =>
  refine⟨⟨_,hu,fun _ => rfl⟩,fun xs ys b w => one hu rfl (fun x y a h => ?_) xs ys b⟩
  unfold vEq at h
  split at h
  ·rename_i e; cases e
  ·rename_i a b _
   cases h
   have:=run_equalIn_string (P:=P) w d t (ba a) (ba b) hu
   rw [ba_toList,ba_toList] at this
   exact this
  ·rename_i e; cases e
  ·cases h
 | bool d t hu =>
  refine⟨⟨_,hu,fun _ => rfl⟩,fun xs ys b w => one hu rfl (fun x y a h => ?_) xs ys b⟩
  unfold vEq at h
  split at h
  ·rename_i e; cases e
  ·rename_i e; cases e
  ·cases h; simp [Op.equalIn,run_underlying hu]
  ·cases h
 | struct d t fs kss hu hp hl hn hf ih =>
  refine⟨⟨_,hu,fun h => by cases h⟩,fun xs ys b w h => ?_⟩
  obtain⟨hxl,hyl⟩:=vEqs_len h
  simp only [valOf,hu,aggB]
  have hfo:P.fieldsOf t=fs:=by simp [Program.fieldsOf,hu]
  rw [run_equalIn_struct w d t xs.toArray ys.toArray (by rw [hfo]; exact hu) hp,hfo]
  have go:∀ (m i:Nat) (b:Bool),i + m=kss.length→vEqs (kss.drop i).flatten (xs.drop ((kss.take i).flatten).length) (ys.drop ((kss.take i).flatten).length)=some b→
    (Op.eqFields d xs.toArray ys.toArray (fs.toList.drop i)).run P w=.ok b w:=by
   intro m
   induction m with
   | zero =>
    intro i b hi h
    have e1:kss.drop i=[]:=List.drop_eq_nil_of_le (by omega)
    have e2:fs.toList.drop i=[]:=List.drop_eq_nil_of_le (by simp; omega)
    rw [e1] at h
    rw [e2]
    have:=vEqs_len h
    simp only [List.flatten_nil,List.length_nil] at this
    have hx:=List.eq_nil_of_length_eq_zero this.1
    have hy:=List.eq_nil_of_length_eq_zero this.2
    rw [hx,hy] at h
    cases h
    rfl
   | succ m ihm =>
    intro i b hi h
    have hik:i < kss.length:=by omega
    have hif:i < fs.size:=by omega
    have hk:kss[i]? =some kss[i]:=List.getElem?_eq_getElem hik
    have hf':fs[i]? =some fs[i]:=Array.getElem?_eq_getElem hif
    obtain⟨hne,hoff,hsz⟩:=hn i _ _ hf' hk
    obtain⟨⟨dc,hdu,hd1⟩,hrun⟩:=ih i _ _ hf' hk
    rw [List.drop_eq_getElem_cons hik,List.flatten_cons] at h
    obtain⟨b1,b2,h1,h2,rfl⟩:=vEqs_append h
    have hsum:(kss.take (i + 1)).flatten.length ≤ kss.flatten.length:=by
     have:=congrArg (fun l => l.flatten.length) (List.take_append_drop (i + 1) kss)
     simp only [List.flatten_append,List.length_append] at this
     omega
    have htk:(kss.take (i + 1)).flatten.length=(kss.take i).flatten.length + (kss[i]).length:=by
     rw [List.take_succ_eq_append_getElem hik,List.flatten_append,List.length_append]; simp
    have hlx:fs[i].offset + (kss[i]).length ≤ xs.toArray.size:=by
     rw [hoff,List.size_toArray]; omega
    have hly:fs[i].offset + (kss[i]).length ≤ ys.toArray.size:=by
     rw [hoff,List.size_toArray]; omega
    have hdl:fs.toList.drop i=fs[i] :: fs.toList.drop (i + 1):=by
     rw [List.drop_eq_getElem_cons (by simpa using hif)]; simp
    rw [hdl]
    have p1:=run_part hdu hsz hd1 xs.toArray hlx w
    have p2:=run_part hdu hsz hd1 ys.toArray hly w
    have ih2:=ihm (i + 1) b2 (by omega) (by rw [List.drop_drop,List.drop_drop] at h2; rw [htk]; exact h2)
    have hr:=hrun ((xs.toArray.toList.drop fs[i].offset).take (kss[i]).length) ((ys.toArray.toList.drop fs[i].offset).take (kss[i]).length) b1 w (by rw [hoff]; exact h1)
    simp only [Op.eqFields,if_pos hne,Sem.run_bind,p1,p2,Result.andThen_ok,hr]
    cases b1 with
    | true => simpa using ih2
    | false => rfl
  have:=go kss.length 0 b (by simp) (by simpa using h)
  simpa using this
section
variable {P:Program} {o:Oper} {σ:St}
def eqOr (op:BinOp) (b:Bool):Bool:=match op with | .eql => b | _ => !b
theorem run_binOp_agg {op:BinOp} {P:Program} {t:TypeId} {ks:List Nat} {xs ys:Array Value} {b:Bool} {x y:Operand} (hE:EqT P 10000 t ks) (hu:(P.underlying t).map aggB=some true) (hg:P.eqGuardType P.depth t=false) (hop:op=.eql ∨ op=.neq) (h:vEqs ks xs.toList ys.toList=some b) (w:World) :
  (do eqGuard op t x y (.agg xs) (.agg ys); binOp op t (.agg xs) (.agg ys):Sem Value).run P w=.ok (.bool (eqOr op b)) w:=by
 have hv:=hE.run.2 xs.toList ys.toList b w h
 have hvx:valOf P t xs.toList=.agg xs:=by
  cases hu':P.underlying t with
  | none => simp [hu'] at hu
  | some dc => rw [hu'] at hu; simp at hu; simp [valOf,hu',hu]
 have hvy:valOf P t ys.toList=.agg ys:=by
  cases hu':P.underlying t with
  | none => simp [hu'] at hu
  | some dc => rw [hu'] at hu; simp at hu; simp [valOf,hu',hu]
 rw [hvx,hvy] at hv
 rcases hop with rfl | rfl
 ·simp only [Sem.run_bind,run_eqGuard_agg w _ t x y xs ys hg,Result.andThen_ok,run_eql_struct,hv,eqOr]
 ·simp only [Sem.run_bind,run_eqGuard_agg w _ t x y xs ys hg,Result.andThen_ok,run_neq_struct,hv,eqOr]
theorem VOk.eqS {op:BinOp} {t t2:TypeId} {ks:List Nat} {x y:Operand} {cs ds:List D} {b:Bool} (ho:o.op=.binOp op t x y t2) (hop:op=.eql ∨ op=.neq) (hE:EqT P 10000 t ks) (hu:(P.underlying t).map aggB=some true) (hg:P.eqGuardType P.depth t=false)
  (hx:σ.ev x=.agg cs) (hy:σ.ev y=.agg ds) (h:dEq ks cs ds=some b):VOk P o σ (.v (.bool (eqOr op b))):=
 .plain fun _ _ _ a w _ hr => by
  have h1:=hr x
  rw [hx] at h1
  obtain⟨xs,hvx,hlx,_,hgx⟩:=h1.agg_inv
  have h2:=hr y
  rw [hy] at h2
  obtain⟨ys,hvy,hly,_,hgy⟩:=h2.agg_inv
  have hv:=dEq_v h (xs:=xs.toList) (ys:=ys.toList) (by simpa using hlx) (by simpa using hly) (fun k d y hd hy => hgx k d y hd (by simpa using hy)) (fun k d y hd hy => hgy k d y hd (by simpa using hy))
  have:=run_binOp_agg (x:=x) (y:=y) hE hu hg hop hv w
  simp only [execOp,ho,hvx,hvy]
  rw [Sem.run_bind,this]
  rfl
end
end Go.Proofs.Vx
