import Derived.Test.YtapbckofgcmgmaaGreatDoorVxR
namespace Go.Proofs.Vx
open Go Go.RowKit
set_option linter.unusedSectionVars false
variable [Glo]
section
variable {α:Type} (W:Nat→Nat→Option α) (V0:Nat→α)
def Gw (L:Nat→Bool):Nat→Nat→α
 | 0,s => V0 s
 | k + 1,s => bif L k then (match W k s with | some v => v | none => Gw L k s) else Gw L k s
def writes (k s:Nat):Prop:=∃ v,W k s=some v
variable {W V0}
theorem Gw_not {L:Nat→Bool} {k s:Nat} (h:L k=true→¬ writes W k s):Gw W V0 L (k + 1) s=Gw W V0 L k s:=by
 simp only [Gw]
 cases hL:L k with
 | false => rfl
 | true =>
  have:=h hL
  simp only [cond_true]
  cases hw:W k s with
  | none => rfl
  | some p => exact absurd ⟨p,hw⟩ this
theorem Gw_agree {L:Nat→Bool} {N i s:Nat} (hi:i < N) (hun:L i=false) (low:∀ k,k < i→writes W k s→L k=true) (high:∀ k,i < k→k < N→writes W k s→L k=false):Gw W V0 L N s=Gw W V0 (fun _ => true) i s:=by
 have lo:∀ k,k ≤ i→Gw W V0 L k s=Gw W V0 (fun _ => true) k s:=by
  intro k
  induction k with
  | zero => intro _; rfl
  | succ k ih =>
   intro hk
   have ih:=ih (by omega)
   by_cases hw:writes W k s
   ·have hL:=low k (by omega) hw
    simp only [Gw,hL,cond_true,ih]
   ·rw [Gw_not (fun _ => hw),Gw_not (fun _ => hw),ih]
 have hi':∀ k,i + k ≤ N→Gw W V0 L (i + k) s=Gw W V0 L i s:=by
  intro k
  induction k with
  | zero => intro _; rfl
  | succ k ih =>
   intro hk
   show Gw W V0 L (i + k + 1) s=_
   rw [Gw_not (fun hL hw => ?_),ih (by omega)]
   rcases Nat.eq_zero_or_pos k with h0 | hpos
   ·subst h0; rw [Nat.add_zero] at hL; rw [hun] at hL; cases hL
   ·rw [high (i + k) (by omega) (by omega) hw] at hL; cases hL
 have:=hi' (N - i) (by omega)
 rw [show i + (N - i)=N by omega] at this
 rw [this,lo i (Nat.le_refl _)]
def wAt (w:Nat→Option α) (s:Nat) (x:α):α:=match w s with | some v => v | none => x
theorem Gw_next {L L':Nat→Bool} {N i s:Nat} (hi:i < N) (hun:L i=false) (hL':L' i=true) (hne:∀ k,k ≠ i→L' k=L k) (high:∀ k,i < k→k < N→L k=true→writes W k s→¬ writes W i s) :
  Gw W V0 L' N s=wAt (W i) s (Gw W V0 L N s):=by
 have lo:∀ k,k ≤ i→Gw W V0 L' k s=Gw W V0 L k s:=by
  intro k
  induction k with
  | zero => intro _; rfl
  | succ k ih => intro hk; simp only [Gw,hne k (by omega),ih (by omega)]
 have up:∀ k,i + 1 + k ≤ N→Gw W V0 L' (i + 1 + k) s=wAt (W i) s (Gw W V0 L (i + 1 + k) s):=by
  intro k
  induction k with
  | zero =>
   intro _
   rw [Nat.add_zero]
   simp only [Gw,hL',hun,cond_true,cond_false,lo i (Nat.le_refl _)]; rfl
  | succ k ih =>
   intro hk
   have ih:=ih (by omega)
   show Gw W V0 L' (i + 1 + k + 1) s=wAt (W i) s (Gw W V0 L (i + 1 + k + 1) s)
   by_cases hw:L (i + 1 + k)=true ∧ writes W (i + 1 + k) s
   ·have hn:=high (i + 1 + k) (by omega) (by omega) hw.1 hw.2
    have e:∀ x:α,wAt (W i) s x=x:=by
     intro x
     unfold wAt
     cases hwi:W i s with
     | none => rfl
     | some v => exact absurd ⟨v,hwi⟩ hn
    rw [e] at ih ⊢
    simp only [Gw,hne (i + 1 + k) (by omega),hw.1,cond_true,ih]
   ·rw [Gw_not (L:=L') (fun h1 h2 => hw ⟨by rw [← hne (i + 1 + k) (by omega)]; exact h1,h2⟩),Gw_not (L:=L) (fun h1 h2 => hw ⟨h1,h2⟩),ih]
 have:=up (N - (i + 1)) (by omega)
 rw [show i + 1 + (N - (i + 1))=N by omega] at this
 exact this
end
structure It2 where
 go:Bool
 fr:List (Nat × D)
 rd:List (Nat × Ob)
 d:D
 wr:List (Nat × Ob)
 al:Bool
 lo:List (Nat × List Ob)
def It2.dd (it:It2):D:=bif it.go then it.d else .v undef
def putT (T wr:List (Nat × Ob)):List (Nat × Ob):=wr ++ T
def lkT:List (Nat × Ob)→Nat→Option Ob
 | [],_ => none
 | (t,o) :: r,u => if t=u then some o else lkT r u
theorem getT_app (wr T:List (Nat × Ob)) (u:Nat):getT (wr ++ T) u=(match lkT wr u with | some o => o | none => getT T u):=by
 induction wr with
 | nil => rfl
 | cons p r ih =>
  obtain⟨t,o⟩:=p
  simp only [List.cons_append,lkT]
  by_cases h:t=u
  ·subst h; rw [getT_cons_same,if_pos rfl]
  ·rw [getT_cons_other (Ne.symm h),if_neg h,ih]
theorem lkT_mem {wr:List (Nat × Ob)} {u:Nat} {o:Ob} (h:lkT wr u=some o):(u,o) ∈ wr:=by
 induction wr with
 | nil => cases h
 | cons p r ih =>
  obtain⟨t,o'⟩:=p
  simp only [lkT] at h
  split at h
  ·rename_i e; subst e; cases h; exact .head _
  ·exact .tail _ (ih h)
def rdOk:List (Nat × Ob)→List (Nat × Ob)→Prop
 | [],_ => True
 | p :: r,T => getT T p.1=p.2 ∧ rdOk r T
def eff (it:It2) (o:Oper) (σ:St):St:=St.put (match it.wr with | [] => σ | (t,ob) :: r => bif it.al then⟨kill t σ.fr,(t,ob) :: (r ++ killT t σ.T)⟩ else⟨σ.fr,(t,ob) :: (r ++ σ.T)⟩) o.dst it.d
def loOk:List (Nat × List Ob)→List (Nat × Ob)→Prop
 | [],_ => True
 | p :: r,T => getT T p.1 ∈ p.2 ∧ loOk r T
def gd2 (all:Array Oper) (o:Oper) (it:It2):Prop:=
 match o.guard with
 | none => it.go=true
 | some (j,want) => ∃ t,(all[j]?).bind (·.dst)=some t ∧ Gd it.fr t want it.go
def ItOk (P:Program) (n:Nat) (all:Array Oper) (o:Oper) (it:It2):Prop:=
 dstB n o.dst=true ∧ gd2 all o it ∧ (it.go=true→∀ σ,leFr it.fr σ.fr→rdOk it.rd σ.T→loOk it.lo σ.T→OpOk P n o σ (eff it o σ)) ∧ (it.go=false→it.wr=[])
def Txt2 (P:Program) (n:Nat) (all:Array Oper):List Oper→List It2→List (Nat × D)→List (Nat × Ob)→List (Nat × D)→List (Nat × Ob)→Prop
 | [],[],f,T,f',T' => f=f' ∧ T=T'
 | o :: os,it :: its,f,T,f',T' => leFr it.fr f ∧ rdOk it.rd T ∧ ItOk P n all o it ∧ Txt2 P n all os its (putF f o.dst it.dd) (putT T it.wr) f' T'
 | _,_,_,_,_,_ => False
section
variable (ops:Array Oper) (its:List It2)
def fw1 (k:Nat):Option (Nat × D):=match dstOf ops k,its[k]? with | some s,some it => some (s,it.dd) | some s,none => some (s,.junk) | none,_ => none
def fw (k s:Nat):Option D:=match fw1 ops its k with | some (u,d) => if u=s then some d else none | none => none
def wrs (k:Nat):List (Nat × Ob):=match its[k]? with | some it => it.wr | none => []
def tw (k t:Nat):Option Ob:=lkT (wrs its k) t
def frl (f0:List (Nat × D)) (L:Nat→Bool):Nat→List (Nat × D)
 | 0 => f0
 | k + 1 => bif L k then (match fw1 ops its k with | some (s,d) => (s,d) :: frl f0 L k | none => frl f0 L k) else frl f0 L k
def tll (T0:List (Nat × Ob)) (L:Nat→Bool):Nat→List (Nat × Ob)
 | 0 => T0
 | k + 1 => bif L k then putT (tll T0 L k) (wrs its k) else tll T0 L k
variable {ops its}
theorem get_cons (s:Nat) (d:D) (f:List (Nat × D)) (u:Nat):get ((s,d) :: f) u=if s=u then d else get f u:=get_put f [] s d u
theorem frl_get {f0:List (Nat × D)} {L:Nat→Bool} (k s:Nat):get (frl ops its f0 L k) s=Gw (fw ops its) (get f0) L k s:=by
 induction k with
 | zero => rfl
 | succ k ih =>
  simp only [frl,Gw]
  cases L k with
  | false => exact ih
  | true =>
   simp only [cond_true,fw]
   cases fw1 ops its k with
   | none => exact ih
   | some p =>
    obtain⟨u,d⟩:=p
    simp only
    rw [get_cons]
    by_cases h:u=s
    ·rw [if_pos h,if_pos h]
    ·rw [if_neg h,if_neg h]; exact ih
theorem getT_cons (t:Nat) (ob:Ob) (T:List (Nat × Ob)) (u:Nat):getT ((t,ob) :: T) u=if t=u then ob else getT T u:=by
 by_cases h:t=u
 ·subst h; rw [getT_cons_same,if_pos rfl]
 ·rw [getT_cons_other (fun e => h e.symm),if_neg h]
theorem tll_get {T0:List (Nat × Ob)} {L:Nat→Bool} (k t:Nat):getT (tll its T0 L k) t=Gw (tw its) (getT T0) L k t:=by
 induction k with
 | zero => rfl
 | succ k ih =>
  simp only [tll,Gw]
  cases L k with
  | false => exact ih
  | true =>
   simp only [cond_true,tw,putT]
   rw [getT_app]
   cases lkT (wrs its k) t with
   | none => exact ih
   | some p => rfl
end
def touch (it:It2) (t:Nat):Bool:=it.rd.any (fun p => Nat.beq p.1 t) || it.wr.any (fun p => Nat.beq p.1 t)
def hangT (a b:It2):Bool:=a.wr.any (fun p => touch b p.1) || b.wr.any (fun p => touch a p.1)
def obClean (t:Nat):Ob→Bool
 | .box _ cells => cells.all fun d => !d.names1 t
 | _ => true
def inC (cert:List (List Nat)) (j i:Nat):Bool:=(cert.getD j []).any (Nat.beq i)
def hang2 (its:List It2) (cert:List (List Nat)):Bool:=its.zipIdx.all fun (b,j) => its.zipIdx.all fun (a,i) => !(Nat.blt i j) || !(hangT a b) || inC cert j i
def fresh2 (f0:List (Nat × D)) (T0:List (Nat × Ob)) (its:List It2) (cert:List (List Nat)):Bool:=its.zipIdx.all fun (a,i) => !a.al || (match a.wr with
 | (t,_) :: _ => f0.all (fun p => !p.2.names t) && T0.all (fun p => obClean t p.2) && its.zipIdx.all fun (b,k) => Nat.beq k i || inC cert k i || (!b.d.names t && b.wr.all (fun q => obClean t q.2))
 | [] => true)
theorem Txt2.at {P:Program} {n:Nat} {all:Array Oper} {full:List It2} {f0:List (Nat × D)} {T0:List (Nat × Ob)}:∀ {os:List Oper} {its:List It2} {f f':List (Nat × D)} {T T':List (Nat × Ob)} (k:Nat),Txt2 P n all os its f T f' T'→(∀ i,os[i]? =all[k + i]?)→(∀ i,its[i]? =full[k + i]?)→
  f=frl all full f0 (fun _ => true) k→T=tll full T0 (fun _ => true) k→
  (∀ i o,os[i]? =some o→∃ it,full[k + i]? =some it ∧ leFr it.fr (frl all full f0 (fun _ => true) (k + i)) ∧ rdOk it.rd (tll full T0 (fun _ => true) (k + i)) ∧ ItOk P n all o it) ∧
   f'=frl all full f0 (fun _ => true) (k + os.length) ∧ T'=tll full T0 (fun _ => true) (k + os.length)
 | [],[],f,f',T,T',k,h,_,_,hf,hT => by obtain⟨rfl,rfl⟩:=h; exact⟨fun i o h => by simp at h,hf,hT⟩
 | o :: os,it :: its,f,f',T,T',k,h,ho,hi,hf,hT => by
  obtain⟨h2,h3,h4,h5⟩:=h
  have e0:all[k]? =some o:=by have:=ho 0; simpa using this.symm
  have i0:full[k]? =some it:=by have:=hi 0; simpa using this.symm
  have hf1:putF f o.dst it.dd=frl all full f0 (fun _ => true) (k + 1):=by
   simp only [frl,cond_true,fw1,dstOf,e0,i0,Option.bind_some,hf]
   cases o.dst <;> rfl
  have hT1:putT T it.wr=tll full T0 (fun _ => true) (k + 1):=by
   simp only [tll,cond_true,wrs,i0,hT]
  obtain⟨g1,g2,g3⟩:=Txt2.at (k + 1) h5 (fun i => by have:=ho (i + 1); simp only [List.getElem?_cons_succ] at this; rw [this]; congr 1; omega) (fun i => by have:=hi (i + 1); simp only [List.getElem?_cons_succ] at this; rw [this]; congr 1; omega) hf1 hT1
  refine⟨fun i o' ho' => ?_,?_,?_⟩
  ·cases i with
   | zero => cases ho'; exact⟨it,i0,hf ▸ h2,hT ▸ h3,h4⟩
   | succ i =>
    have:=g1 i o' (by simpa using ho')
    rw [show k + (i + 1)=k + 1 + i by omega]; exact this
  ·rw [g2]; congr 1; simp; omega
  ·rw [g3]; congr 1; simp; omega
 | [],_ :: _,_,_,_,_,_,h,_,_,_,_ => h.elim
 | _ :: _,[],_,_,_,_,_,h,_,_,_,_ => h.elim
theorem rdOk_of {rd T:List (Nat × Ob)} (h:∀ p ∈ rd,getT T p.1=p.2):rdOk rd T:=by
 induction rd with
 | nil => trivial
 | cons p r ih => exact⟨h p (by simp),ih fun q hq => h q (by simp [hq])⟩
theorem rdOk_mem {rd T:List (Nat × Ob)} (h:rdOk rd T):∀ p ∈ rd,getT T p.1=p.2:=by
 induction rd with
 | nil => intro p hp; cases hp
 | cons q r ih =>
  intro p hp
  rcases List.mem_cons.1 hp with rfl | hp
  ·exact h.1
  ·exact ih h.2 p hp
theorem loOk_of {lo:List (Nat × List Ob)} {T:List (Nat × Ob)} (h:∀ p ∈ lo,getT T p.1 ∈ p.2):loOk lo T:=by
 induction lo with
 | nil => trivial
 | cons p r ih => exact⟨h p (by simp),ih fun q hq => h q (by simp [hq])⟩
def loose (T0:List (Nat × Ob)) (its:List It2) (cert:List (List Nat)):Prop:=∀ (i:Nat) it,its[i]? =some it→∀ p ∈ it.lo,getT T0 p.1 ∈ p.2 ∧ ∀ (k:Nat) b,its[k]? =some b→∀ ob,(p.1,ob) ∈ b.wr→ob ∈ p.2 ∨ inC cert k i=true ∨ k=i
theorem loose_nil {T0:List (Nat × Ob)} {its:List It2} {cert:List (List Nat)} (h:(its.all fun it => it.lo.isEmpty)=true):loose T0 its cert:=fun i it hi p hp => by
 have:=List.all_eq_true.1 h it (List.mem_of_getElem? hi)
 rw [List.isEmpty_iff] at this
 rw [this] at hp; cases hp
theorem leFr_of {fr f:List (Nat × D)}:∀ {g:List (Nat × D)},leFr fr g→(∀ s ∈ fr.map (·.1),get f s=get g s)→leFr fr f:=by
 intro g h he
 induction fr with
 | nil => trivial
 | cons p r ih => exact⟨by rw [he p.1 (by simp)]; exact h.1,ih h.2 fun s hs => he s (by simp at hs ⊢; exact .inr hs)⟩
theorem inC_mem {cert:List (List Nat)} {j i:Nat} (h:inC cert j i=true):i ∈ cert.getD j []:=by
 unfold inC at h
 simp only [List.any_eq_true] at h
 obtain⟨x,hx,hx2⟩:=h
 exact Nat.eq_of_beq_eq_true hx2 ▸ hx
theorem names_dd {it:It2} {t:Nat} (h:it.d.names t=false):it.dd.names t=false:=by
 unfold It2.dd; cases it.go
 ·rfl
 ·exact h
end Go.Proofs.Vx
namespace Go.Proofs.Vx
open Go Go.RowKit
variable [Glo]
section
variable {P:Program} {n:Nat} {ops:Array Oper}
theorem wp_any2 {its:List It2} {f0:List (Nat × D)} {T0:List (Nat × Ob)} {cert:List (List Nat)} (hc:certOk ops.toList cert=true) (hh:hangOk ops.toList (its.map fun it => it.fr.map (·.1)) cert=true) (hh2:hang2 its cert=true) (hfr:fresh2 f0 T0 its cert=true) (hlo:loose T0 its cert)
  (hops:∀ (i:Nat) o,ops[i]? =some o→∃ it,its[i]? =some it ∧ leFr it.fr (frl ops its f0 (fun _ => true) i) ∧ rdOk it.rd (tll its T0 (fun _ => true) i) ∧ ItOk P n ops o it) (hsize:its.length=ops.size)
  {cx:Cx} {Q:Exit→Act→World→Prop}
  (hQ:∀ a w,Sim cx n ⟨frl ops its f0 (fun _ => true) ops.size,tll its T0 (fun _ => true) ops.size⟩ a w→Q .normal a w) :
  ∀ (fuel:Nat) (listed:Array Bool) (a:Act) (w:World),listed.size=ops.size→listed.toList.countP (fun b => !b) ≤ fuel→(∀ j,listed.getD j false=true→∀ i ∈ cert.getD j [],listed.getD i false=true)→
   Sim cx n ⟨frl ops its f0 (fun k => listed.getD k false) ops.size,tll its T0 (fun k => listed.getD k false) ops.size⟩ a w→wpAny P .any ops Q fuel listed a w:=by
 simp only [certOk,Bool.and_eq_true] at hc
 obtain⟨hback,hcert⟩:=hc
 have getD_eq:∀ (l:Array Bool) (i:Nat),i < l.size→l.getD i true=l.getD i false:=fun l i h => by simp [Array.getD,h]
 have inOps:∀ (i:Nat),i < ops.size→∃ o,ops[i]? =some o:=fun i h =>⟨_,Array.getElem?_eq_getElem h⟩
 have toL:∀ (i:Nat) o,ops[i]? =some o→ops.toList[i]? =some o:=fun i o h => by simpa using h
 have full:∀ listed:Array Bool,listed.size=ops.size→Region.ready .any ops listed=[]→∀ i,i < ops.size→listed.getD i false=true:=by
  intro listed hs hr i
  induction i using Nat.strongRecOn with
  | _ i ih =>
   intro hi
   cases hb:listed.getD i false with
   | true => rfl
   | false =>
    exfalso
    obtain⟨o,ho⟩:=inOps i hi
    have:i ∈ Region.ready .any ops listed:=by
     simp only [Region.ready,List.mem_filter,List.mem_range]
     refine⟨hi,?_⟩
     rw [getD_eq _ _ (by omega),hb,ho]
     simp only [Bool.not_false,Bool.true_and,Option.map_some,Option.getD_some]
     rw [Array.all_eq_true']
     intro e he
     have h2:=zipIdx_all hback i o (toL i o ho)
     simp only [List.all_eq_true] at h2
     have h3:=h2 e (by simpa using he)
     simp only [Bool.or_eq_true] at h3 ⊢
     rcases h3 with h3 | h3
     ·exact .inl h3
     ·have hlt:e.on < i:=by simpa [Nat.blt_eq] using h3
      exact .inr (ih e.on hlt (by omega))
    rw [hr] at this
    cases this
 have done:∀ (listed:Array Bool) (a:Act) (w:World),listed.size=ops.size→Region.ready .any ops listed=[]→
   Sim cx n ⟨frl ops its f0 (fun k => listed.getD k false) ops.size,tll its T0 (fun k => listed.getD k false) ops.size⟩ a w→Q .normal a w:=by
  intro listed a w hs hr hsim
  have hall:=full listed hs hr
  have e1:∀ k,k ≤ ops.size→frl ops its f0 (fun k => listed.getD k false) k=frl ops its f0 (fun _ => true) k ∧ tll its T0 (fun k => listed.getD k false) k=tll its T0 (fun _ => true) k:=by
   intro k
   induction k with
   | zero => intro _; exact⟨rfl,rfl⟩
   | succ k ih => intro hk; simp only [frl,tll,hall k (by omega),ih (by omega)]; exact⟨trivial,trivial⟩
  obtain⟨h1,h2⟩:=e1 ops.size (Nat.le_refl _)
  rw [h1,h2] at hsim
  exact hQ a w hsim
 intro fuel
 induction fuel with
 | zero =>
  intro listed a w hs hcnt hcl hsim
  have hr:Region.ready .any ops listed=[]:=by
   rw [List.eq_nil_iff_forall_not_mem]
   intro i hi
   simp only [Region.ready,List.mem_filter,List.mem_range] at hi
   obtain⟨hi,hb⟩:=hi
   simp only [Bool.and_eq_true] at hb
   have h1:=hb.1
   have hlt:i < listed.toList.length:=by simp; omega
   have h0:listed.toList.countP (fun b => !b)=0:=by omega
   rw [List.countP_eq_zero] at h0
   have:=h0 (listed.toList[i]) (List.getElem_mem hlt)
   simp [Array.getD,show i < listed.size by omega] at h1 this
   rw [this] at h1; cases h1
  exact⟨hr,done listed a w hs hr hsim⟩
 | succ fuel ih =>
  intro listed a w hs hcnt hcl hsim
  refine⟨fun hr => done listed a w hs hr hsim,fun i hi => ?_⟩
  simp only [Region.ready,List.mem_filter,List.mem_range] at hi
  obtain⟨hi,hb⟩:=hi
  simp only [Bool.and_eq_true] at hb
  obtain⟨hun,hpre⟩:=hb
  rw [getD_eq _ _ (by omega)] at hun
  have hun:listed.getD i false=false:=by simpa using hun
  obtain⟨o,ho⟩:=inOps i hi
  obtain⟨it,hit,hle,hrd,hdst,hgd,hgo,hng⟩:=hops i o ho
  rw [ho] at hpre
  simp only [Option.map_some,Option.getD_some,Array.all_eq_true'] at hpre
  have hbefore:∀ k ∈ cert.getD i [],listed.getD k false=true:=by
   intro k hk
   have h1:=zipIdx_all hcert i o (toL i o ho)
   simp only [List.all_eq_true] at h1
   have h2:=h1 k hk
   simp only [List.any_eq_true,Bool.and_eq_true,Bool.or_eq_true] at h2
   obtain⟨e,he,hbe,h3⟩:=h2
   have h4:=hpre e (by simpa using he)
   simp only [Bool.or_eq_true] at h4
   have h5:listed.getD e.on false=true:=by
    rcases h4 with h4 | h4
    ·simp only [binds] at hbe; rw [hbe] at h4; cases h4
    ·exact h4
   rcases h3 with h3 | h3
   ·exact Nat.eq_of_beq_eq_true h3 ▸ h5
   ·obtain⟨x,hx,hx2⟩:=h3; exact hcl e.on h5 k (Nat.eq_of_beq_eq_true hx2 ▸ hx)
  have hrds:∀ (k:Nat) it,its[k]? =some it→(its.map fun it => it.fr.map (·.1))[k]? =some (it.fr.map (·.1)):=fun k it h => by simp [h]
  have order:∀ (k j:Nat) (p q:Oper) (a b:It2),ops[k]? =some p→ops[j]? =some q→its[k]? =some a→its[j]? =some b→k < j→hang p q (a.fr.map (·.1)) (b.fr.map (·.1))=true→k ∈ cert.getD j []:=by
   intro k j p q a b hp hq ha hb' hkj hhang
   have h1:=zipIdx_all hh j q (toL j q hq)
   have h2:=zipIdx_all h1 k p (toL k p hp)
   have ra:=hrds k a ha
   have rb:=hrds j b hb'
   simp only [List.getD,ra,rb,Option.getD_some,hhang,Bool.not_true,Bool.or_false,Bool.or_eq_true,Bool.not_eq_true'] at h2
   rcases h2 with h2 | h2
   ·have:Nat.blt k j=true:=by simpa [Nat.blt_eq] using hkj
    rw [this] at h2; cases h2
   ·exact inC_mem (by simpa [inC,List.getD] using h2)
  have orderT:∀ (k j:Nat) (a b:It2),its[k]? =some a→its[j]? =some b→k < j→hangT a b=true→k ∈ cert.getD j []:=by
   intro k j a b ha hb' hkj hhang
   have h1:=zipIdx_all hh2 j b hb'
   have h2:=zipIdx_all h1 k a ha
   simp only [hhang,Bool.not_true,Bool.or_false,Bool.or_eq_true,Bool.not_eq_true'] at h2
   rcases h2 with h2 | h2
   ·have:Nat.blt k j=true:=by simpa [Nat.blt_eq] using hkj
    rw [this] at h2; cases h2
   ·exact inC_mem h2
  have itsAt:∀ k,k < ops.size→∃ p b,ops[k]? =some p ∧ its[k]? =some b:=fun k hk => by
   obtain⟨p,hp⟩:=inOps k hk
   obtain⟨b,hb,_⟩:=hops k p hp
   exact⟨p,b,hp,hb⟩
  have fwAt:∀ k s,writes (fw ops its) k s→∀ p,ops[k]? =some p→p.dst=some s:=by
   rintro k s ⟨v,hv⟩ p hp
   unfold fw fw1 dstOf at hv
   rw [hp] at hv
   simp only [Option.bind_some] at hv
   cases hd:p.dst with
   | none => rw [hd] at hv; cases hv
   | some u =>
    rw [hd] at hv
    cases h2:its[k]? <;> rw [h2] at hv <;> simp only at hv <;> split at hv <;> first | (rename_i e; rw [e]) | cases hv
  have twAt:∀ k t,writes (tw its) k t→∀ b,its[k]? =some b→∃ ob,(t,ob) ∈ b.wr:=by
   rintro k t ⟨v,hv⟩ b hb'
   unfold tw wrs at hv
   rw [hb'] at hv
   exact⟨v,lkT_mem hv⟩
  have hangW:∀ {a b:It2} {t:Nat} {ob:Ob},(t,ob) ∈ a.wr→touch b t=true→hangT a b=true ∧ hangT b a=true:=by
   intro a b t ob hm ht
   have:a.wr.any (fun p => touch b p.1)=true:=List.any_eq_true.2 ⟨_,hm,ht⟩
   exact⟨by unfold hangT; rw [this]; rfl,by unfold hangT; rw [this,Bool.or_true]⟩
  have small:∀ k s,writes (fw ops its) k s→k < ops.size:=by
   rintro k s ⟨v,hv⟩
   unfold fw fw1 dstOf at hv
   rcases Nat.lt_or_ge k ops.size with h | h
   ·exact h
   ·rw [Array.getElem?_eq_none h] at hv; cases hv
  have smallT:∀ k t,writes (tw its) k t→k < ops.size:=by
   rintro k s ⟨v,hv⟩
   unfold tw wrs at hv
   rcases Nat.lt_or_ge k ops.size with h | h
   ·exact h
   ·rw [List.getElem?_eq_none (by omega)] at hv; cases hv
  have agree:∀ s ∈ it.fr.map (·.1),get (frl ops its f0 (fun k => listed.getD k false) ops.size) s=get (frl ops its f0 (fun _ => true) i) s:=by
   intro s hs'
   rw [frl_get,frl_get]
   refine Gw_agree hi hun (fun k hk hw => ?_) (fun k hk hkN hw => ?_)
   ·obtain⟨p,b,hp,hb'⟩:=itsAt k (by omega)
    exact hbefore k (order k i p o b it hp ho hb' hit hk (by
     simp only [hang,fwAt k s hw p hp,Bool.or_eq_true,List.any_eq_true]
     exact .inl (.inl ⟨s,hs',Nat.beq_refl s⟩)))
   ·obtain⟨p,b,hp,hb'⟩:=itsAt k hkN
    have:=order i k o p it b ho hp hit hb' hk (by
     simp only [hang,fwAt k s hw p hp,Bool.or_eq_true,List.any_eq_true]
     exact .inr ⟨s,hs',Nat.beq_refl s⟩)
    cases hL:listed.getD k false with
    | false => rfl
    | true => have:=hcl k hL i this; rw [hun] at this; cases this
  have agreeT:∀ p ∈ it.rd,getT (tll its T0 (fun k => listed.getD k false) ops.size) p.1=getT (tll its T0 (fun _ => true) i) p.1:=by
   intro p hp'
   have hto:touch it p.1=true:=by
    unfold touch; rw [Bool.or_eq_true]; left; exact List.any_eq_true.2 ⟨p,hp',Nat.beq_refl _⟩
   rw [tll_get,tll_get]
   refine Gw_agree hi hun (fun k hk hw => ?_) (fun k hk hkN hw => ?_)
   ·obtain⟨q,b,hq,hb'⟩:=itsAt k (by omega)
    obtain⟨ob,hob⟩:=twAt k _ hw b hb'
    exact hbefore k (orderT k i b it hb' hit hk (hangW hob hto).1)
   ·obtain⟨q,b,hq,hb'⟩:=itsAt k hkN
    obtain⟨ob,hob⟩:=twAt k _ hw b hb'
    have:=orderT i k it b hit hb' hk (hangW hob hto).2
    cases hL:listed.getD k false with
    | false => rfl
    | true => have:=hcl k hL i this; rw [hun] at this; cases this
  have nextL:(listed.setIfInBounds i true).getD i false=true:=by simp [Array.getD,hs,hi]
  have nextN:∀ k,k ≠ i→(listed.setIfInBounds i true).getD k false=listed.getD k false:=fun k hk => by simp [Ne.symm hk]
  have next:∀ s,get (frl ops its f0 (fun k => (listed.setIfInBounds i true).getD k false) ops.size) s=wAt (fw ops its i) s (get (frl ops its f0 (fun k => listed.getD k false) ops.size) s):=by
   intro s
   rw [frl_get,frl_get]
   refine Gw_next (W:=fw ops its) (V0:=get f0) (s:=s) hi hun nextL nextN (fun k hk hkN hL hw hwi => ?_)
   obtain⟨p,b,hp,hb'⟩:=itsAt k hkN
   have:=order i k o p it b ho hp hit hb' hk (by
    simp only [hang,fwAt k s hw p hp,fwAt i s hwi o ho,Bool.or_eq_true]
    exact .inl (.inr (Nat.beq_refl s)))
   have:=hcl _ hL i this
   rw [hun] at this; cases this
  have nextT:∀ t,getT (tll its T0 (fun k => (listed.setIfInBounds i true).getD k false) ops.size) t=wAt (tw its i) t (getT (tll its T0 (fun k => listed.getD k false) ops.size) t):=by
   intro t
   rw [tll_get,tll_get]
   refine Gw_next (W:=tw its) (V0:=getT T0) (s:=t) hi hun nextL nextN (fun k hk hkN hL hw hwi => ?_)
   obtain⟨p,b,hp,hb'⟩:=itsAt k hkN
   obtain⟨ob,hob⟩:=twAt k _ hw b hb'
   obtain⟨ob2,hob2⟩:=twAt i _ hwi it hit
   have:=orderT i k it b hit hb' hk (hangW hob (by unfold touch; rw [Bool.or_eq_true]; right; exact List.any_eq_true.2 ⟨_,hob2,Nat.beq_refl _⟩)).2
   have:=hcl _ hL i this
   rw [hun] at this; cases this
  have hcnt':(listed.setIfInBounds i true).toList.countP (fun b => !b) ≤ fuel:=by
   have hlt:i < listed.toList.length:=by simp; omega
   have hv:listed.toList[i]=false:=by simpa [Array.getD,show i < listed.size by omega] using hun
   rw [Array.toList_setIfInBounds,List.countP_set hlt,hv]
   have:0 < listed.toList.countP (fun b => !b):=List.countP_pos_iff.2 ⟨false,hv ▸ List.getElem_mem hlt,rfl⟩
   simp only [Bool.not_false,Bool.not_true,if_true,Bool.false_eq_true,if_false]; omega
  have hcl':∀ j,(listed.setIfInBounds i true).getD j false=true→∀ k ∈ cert.getD j [],(listed.setIfInBounds i true).getD k false=true:=by
   have keep:∀ k,listed.getD k false=true→(listed.setIfInBounds i true).getD k false=true:=fun k hk => by
    by_cases h:k=i
    ·subst h; exact nextL
    ·rw [nextN k h]; exact hk
   intro j hj k hk
   by_cases h:j=i
   ·subst h; exact keep k (hbefore k hk)
   ·exact keep k (hcl j (by rw [nextN j h] at hj; exact hj) k hk)
  have hleL:leFr it.fr (frl ops its f0 (fun k => listed.getD k false) ops.size):=leFr_of hle agree
  have hrdL:rdOk it.rd (tll its T0 (fun k => listed.getD k false) ops.size):=rdOk_of fun p hp => (agreeT p hp).trans (rdOk_mem hrd p hp)
  have hloL:loOk it.lo (tll its T0 (fun k => listed.getD k false) ops.size):=loOk_of fun p hp => by
   obtain⟨h0,hw⟩:=hlo i it hit p hp
   rw [tll_get]
   have:∀ k,k ≤ ops.size→Gw (tw its) (getT T0) (fun k => listed.getD k false) k p.1 ∈ p.2:=by
    intro k
    induction k with
    | zero => intro _; exact h0
    | succ k ihk =>
     intro hk
     simp only [Gw]
     cases hL:listed.getD k false with
     | false => exact ihk (by omega)
     | true =>
      simp only [cond_true]
      cases hq:tw its k p.1 with
      | none => exact ihk (by omega)
      | some ob =>
       obtain⟨q,b,hq',hb'⟩:=itsAt k (by omega)
       obtain⟨ob',hob⟩:=twAt k _ ⟨ob,hq⟩ b hb'
       have hmem:(p.1,ob) ∈ b.wr:=by
        unfold tw wrs at hq; rw [hb'] at hq; exact lkT_mem hq
       rcases hw k b hb' ob hmem with h | h | h
       ·exact h
       ·have:=hcl k hL i (inC_mem h); rw [hun] at this; cases this
       ·subst h; rw [hun] at hL; cases hL
   exact this ops.size (Nat.le_refl _)
  have hfwi:fw1 ops its i=o.dst.map fun s => (s,it.dd):=by
   unfold fw1 dstOf; rw [ho,hit]; cases hd:o.dst <;> simp [hd]
  have htwi:wrs its i=it.wr:=by unfold wrs; rw [hit]
  have putF_get:∀ (σ:St) (d:D) s,get (St.put σ o.dst d).fr s=match o.dst with | some u => if u=s then d else get σ.fr s | none => get σ.fr s:=fun σ d s => by
   unfold St.put; cases o.dst with
   | none => rfl
   | some u => exact get_put σ.fr σ.T u d s
  have putF_T:∀ (σ:St) (d:D),(St.put σ o.dst d).T=σ.T:=fun σ d => by unfold St.put; cases o.dst <;> rfl
  have clean:it.al=true→∀ t ob r,it.wr=(t,ob) :: r→(∀ s,(get (frl ops its f0 (fun k => listed.getD k false) ops.size) s).names t=false) ∧ ∀ u,obClean t (getT (tll its T0 (fun k => listed.getD k false) ops.size) u)=true:=by
   intro hal t ob r hwr
   have h1:=zipIdx_all hfr i it hit
   simp only [hal,Bool.not_true,Bool.false_or,hwr,Bool.and_eq_true] at h1
   obtain⟨⟨hf,hT⟩,hk⟩:=h1
   have each:∀ k b,its[k]? =some b→listed.getD k false=true→b.d.names t=false ∧ ∀ q ∈ b.wr,obClean t q.2=true:=by
    intro k b hb' hL
    have h2:=zipIdx_all hk k b hb'
    simp only [Bool.or_eq_true] at h2
    rcases h2 with (h2 | h2) | h2
    ·have:=Nat.eq_of_beq_eq_true h2; subst this; rw [hun] at hL; cases hL
    ·have:=hcl k hL i (inC_mem h2); rw [hun] at this; cases this
    ·simp only [Bool.and_eq_true,Bool.not_eq_true'] at h2
     exact⟨h2.1,fun q hq => List.all_eq_true.1 h2.2 q hq⟩
   constructor
   ·have:∀ k,k ≤ ops.size→∀ s,(get (frl ops its f0 (fun k => listed.getD k false) k) s).names t=false:=by
     intro k
     induction k with
     | zero =>
      intro _ s
      show (get f0 s).names t=false
      clear ih hsim hops hQ done full agree next agreeT nextT hleL hrdL each hle hfr hloL
      induction f0 with
      | nil => rfl
      | cons p r ihr =>
       simp only [List.all_cons,Bool.and_eq_true,Bool.not_eq_true'] at hf
       rw [show get (p :: r) s=if p.1=s then p.2 else get r s from get_cons p.1 p.2 r s]
       split
       ·exact hf.1
       ·exact ihr hf.2
     | succ k ihk =>
      intro hk s
      have ihk:=ihk (by omega)
      simp only [frl]
      cases hL:listed.getD k false with
      | false => exact ihk s
      | true =>
       simp only [cond_true]
       obtain⟨p,b,hp,hb'⟩:=itsAt k (by omega)
       have e:fw1 ops its k=p.dst.map fun s => (s,b.dd):=by unfold fw1 dstOf; rw [hp,hb']; cases hd:p.dst <;> simp [hd]
       rw [e]
       cases p.dst with
       | none => exact ihk s
       | some u =>
        simp only [Option.map_some]
        rw [get_cons]
        split
        ·exact names_dd (each k b hb' hL).1
        ·exact ihk s
    exact this ops.size (Nat.le_refl _)
   ·have:∀ k,k ≤ ops.size→∀ u,obClean t (getT (tll its T0 (fun k => listed.getD k false) k) u)=true:=by
     intro k
     induction k with
     | zero =>
      intro _ u
      show obClean t (getT T0 u)=true
      clear ih hsim hops hQ done full agree next agreeT nextT hleL hrdL each hrd hfr hlo hloL
      induction T0 with
      | nil => rfl
      | cons p r ihr =>
       simp only [List.all_cons,Bool.and_eq_true] at hT
       rw [show getT (p :: r) u=if p.1=u then p.2 else getT r u from getT_cons p.1 p.2 r u]
       split
       ·exact hT.1
       ·exact ihr hT.2
     | succ k ihk =>
      intro hk u
      have ihk:=ihk (by omega)
      simp only [tll]
      cases hL:listed.getD k false with
      | false => exact ihk u
      | true =>
       simp only [cond_true]
       obtain⟨p,b,hp,hb'⟩:=itsAt k (by omega)
       have e:wrs its k=b.wr:=by unfold wrs; rw [hb']
       rw [e]
       simp only [putT]
       rw [getT_app]
       cases hw:lkT b.wr u with
       | none => exact ihk u
       | some q => exact (each k b hb' hL).2 _ (lkT_mem hw)
    exact this ops.size (Nat.le_refl _)
  unfold wpOp
  rw [ho]
  simp only
  have hwant:Region.wanted o (yielded ops a.tmps)=it.go:=by
   unfold gd2 at hgd
   cases hg:o.guard with
   | none => rw [hg] at hgd; simp only at hgd; rw [hgd]; simp [Region.wanted,hg]
   | some jw =>
    obtain⟨j,want⟩:=jw
    rw [hg] at hgd
    obtain⟨t,h1,h2⟩:=hgd
    have ht:t < n:=by
     cases hj:ops[j]? with
     | none => rw [hj] at h1; cases h1
     | some q =>
      obtain⟨_,_,_,_,hq,_⟩:=hops j q hj
      rw [hj] at h1
      exact dstB_lt hq t h1
    have hsim':Sim cx n ⟨it.fr,tll its T0 (fun k => listed.getD k false) ops.size⟩ a w:=hsim.le (Le.fr hleL)
    exact sim_wanted hsim' hg h1 ht h2
  rw [hwant]
  cases hgo':it.go with
  | true =>
   simp only [if_true]
   refine .inl (hgo hgo' ⟨frl ops its f0 (fun k => listed.getD k false) ops.size,tll its T0 (fun k => listed.getD k false) ops.size⟩ hleL hrdL hloL cx a w _ Q hsim fun a' w' hs' => ?_)
   refine ih _ _ _ (by simpa using hs) hcnt' hcl' (hs'.le ⟨fun s => DLe.of_eq ?_,fun t => ?_⟩)
   ·rw [next s]
    have hdd:it.dd=it.d:=by unfold It2.dd; rw [hgo']; rfl
    unfold eff fw wAt
    rw [putF_get,hfwi,hdd]
    have hbase:get (match it.wr with | [] => (⟨frl ops its f0 (fun k => listed.getD k false) ops.size,tll its T0 (fun k => listed.getD k false) ops.size⟩:St) | (t,ob) :: r => bif it.al then⟨kill t (frl ops its f0 (fun k => listed.getD k false) ops.size),(t,ob) :: (r ++ killT t (tll its T0 (fun k => listed.getD k false) ops.size))⟩ else⟨frl ops its f0 (fun k => listed.getD k false) ops.size,(t,ob) :: (r ++ tll its T0 (fun k => listed.getD k false) ops.size)⟩).fr s=get (frl ops its f0 (fun k => listed.getD k false) ops.size) s:=by
     cases hw:it.wr with
     | nil => rfl
     | cons p r =>
      obtain⟨t,ob⟩:=p
      simp only
      cases hal:it.al with
      | false => rfl
      | true =>
       simp only [cond_true]
       rw [get_kill,(clean hal t ob r hw).1 s]
    rw [hbase]
    cases o.dst with
    | none => rfl
    | some u =>
     simp only [Option.map_some]
     by_cases h:u=s
     ·simp only [if_pos h]
     ·simp only [if_neg h]
   ·rw [nextT t]
    unfold eff wAt tw
    rw [putF_T,htwi]
    cases hw:it.wr with
    | nil => exact .same _
    | cons p r =>
     obtain⟨u,ob⟩:=p
     simp only
     cases hal:it.al with
     | false =>
      simp only [cond_false]
      have:=getT_app ((u,ob) :: r) (tll its T0 (fun k => listed.getD k false) ops.size) t
      rw [List.cons_append] at this
      rw [this]
      cases lkT ((u,ob) :: r) t with
      | some q => exact .same _
      | none => exact .same _
     | true =>
      simp only [cond_true]
      have:=getT_app ((u,ob) :: r) (killT u (tll its T0 (fun k => listed.getD k false) ops.size)) t
      rw [List.cons_append] at this
      rw [this]
      cases lkT ((u,ob) :: r) t with
      | some q => exact .same _
      | none =>
       have hcln:=(clean hal u ob r hw).2 t
       simp only
       rw [getT_kill]
       generalize getT (tll its T0 (fun k => listed.getD k false) ops.size) t=q at hcln ⊢
       cases q with
       | box e cells =>
        have:(cells.map fun d => match d.names1 u with | true => D.junk | false => d)=cells:=by
         conv => rhs; rw [← List.map_id cells]
         refine List.map_congr_left fun d hd => ?_
         simp only [obClean,List.all_eq_true,Bool.not_eq_true'] at hcln
         rw [hcln d hd]; rfl
        exact (congrArg (fun c => ObLe (Ob.box e cells) (Ob.box e c)) this).mpr (.same _)
       | _ => exact .same _
  | false =>
   simp only [Bool.false_eq_true,if_false]
   have hs':Sim cx n (St.put ⟨frl ops its f0 (fun k => listed.getD k false) ops.size,tll its T0 (fun k => listed.getD k false) ops.size⟩ o.dst (.v undef)) (a.put o.dst undef) w:=hsim.put (dstB_lt hdst) fun _ _ _ _ => .v _
   refine ih _ _ _ (by simpa using hs) hcnt' hcl' (hs'.le ⟨fun s => DLe.of_eq ?_,fun t => ?_⟩)
   ·have hdd:it.dd=.v undef:=by unfold It2.dd; rw [hgo']; rfl
    rw [next s,putF_get]
    unfold fw wAt
    rw [hfwi,hdd]
    cases o.dst with
    | none => rfl
    | some u =>
     simp only [Option.map_some]
     by_cases h:u=s
     ·simp only [if_pos h]
     ·simp only [if_neg h]
   ·rw [nextT t,putF_T]; unfold wAt tw; rw [htwi,hng hgo']; exact .same _
theorem Ok.draw2 {id:Nat} {ops:Array Oper} {fr f':List (Nat × D)} {T T':List (Nat × Ob)} {Φ:Exit→St→Prop} (its:List It2) (cert:List (List Nat)) (hm:P.follows .mixedOrders=true)
  (hc:((certOk ops.toList cert && hangOk ops.toList (its.map fun it => it.fr.map (·.1)) cert) && (hang2 its cert && fresh2 fr T its cert) && Nat.beq its.length ops.size)=true)
  (ht:Txt2 P n ops ops.toList its fr T f' T') (hlo:loose T its cert) (hk:Φ .normal ⟨f',T'⟩):Ok P n (.region id ops true) ⟨fr,T⟩ Φ:=by
 intro cx a w Q hs hq
 simp only [Bool.and_eq_true] at hc
 obtain⟨⟨⟨hc1,hc2⟩,hc3,hc4⟩,hlen⟩:=hc
 obtain⟨h1,h2,h3⟩:=Txt2.at (full:=its) (f0:=fr) (T0:=T) 0 ht (fun i => by simp) (fun i => by simp) rfl rfl
 obtain⟨⟨ι,β,hi,hr⟩,hsz,hdf⟩:=hs
 have hi':Inv cx ι β T { w with drawn:=w.drawn + 1 }:=hi.grow rfl rfl rfl (Nat.le_refl _) (fun _ _ => rfl) (fun _ _ h => h) (fun _ _ h => .inl h)
 have hs':Sim cx n ⟨fr,T⟩ a { w with drawn:=w.drawn + 1 }:=⟨⟨ι,β,hi',fun s => (hr s).mono (fun _ _ h => h) (fun _ _ _ => rfl) (fun _ _ h => h)⟩,hsz,hdf⟩
 have start:∀ k,frl ops its fr (fun k => (Array.replicate ops.size false).getD k false) k=fr ∧ tll its T (fun k => (Array.replicate ops.size false).getD k false) k=T:=by
  intro k
  induction k with
  | zero => exact⟨rfl,rfl⟩
  | succ k ih => simp only [frl,tll,rep_false,cond_false] at ih ⊢; exact ih
 have hN:ops.toList.length=ops.size:=by simp
 refine wp_region_any hm (wp_any2 (its:=its) (f0:=fr) (T0:=T) hc1 hc2 hc3 hc4 hlo (fun i o ho => by have:=h1 i o (by simpa using ho); simpa using this) (Nat.eq_of_beq_eq_true hlen) (fun a w hs => ?_) ops.size (Array.replicate ops.size false) a _ (by simp) (by simp [List.countP_replicate])
  (fun j hj => absurd hj (by rw [rep_false]; simp)) (by rw [(start ops.size).1,(start ops.size).2]; exact hs'))
 refine hq .normal ⟨f',T'⟩ a w hk ?_
 rw [h2,h3,Nat.zero_add,hN]
 exact hs
end
end Go.Proofs.Vx
namespace Go.Proofs.Vx
open Go Go.RowKit
variable [Glo]
section
variable {P:Program} {n:Nat} {o:Oper} {σ:St}
theorem OpOk.storeBL {ty:TypeId} {x yo:Operand} {t off sz:Nat} {e:Ex} {cells ds:List D} (ho:o.op=.store ty x yo) (hz:szOf P ty=some sz) (hx:DLe (.bref t off) (σ.ev x)) (hb:getT σ.T t=.box e cells) (hE2:(e.own && e.okSt off)=true)
  {dy:D} (hyl:DLe dy (σ.ev yo)) (hy:cellsOf dy=some ds) (hl:(Nat.beq ds.length sz && Nat.ble (off + sz) cells.length)=true) (hn:dstB n o.dst=true) :
  OpOk P n o σ (St.put ⟨σ.fr,(t,.box e (splice cells off ds)) :: σ.T⟩ o.dst .junk):=
 .stepU hn fun cx ι β a w hi hr => by
  simp only [Bool.and_eq_true] at hl hE2
  obtain⟨hE,hokst⟩:=hE2
  have hdl:=Nat.eq_of_beq_eq_true hl.1
  have hfit:=Nat.le_of_ble_eq_true hl.2
  have hxx:=hx.r (hr x)
  have hrho:=hxx.ref_inv rfl
  simp only [rho,hb] at hrho
  obtain⟨b,hβ,hv⟩:=hrho
  obtain⟨b',c,ty',hβ',hh,hlen,h1,hg,hex,_,hat⟩:=box_at hi hb
  obtain rfl:b=b':=by rw [hβ] at hβ'; simpa using hβ'
  obtain⟨hyl,hy1,hyR⟩:=(hyl.r (hr yo)).cells hy
  have hst:=run_storeCells_at P b off ty' (a.eval yo).cells.toList 0 c w hh (by simp; omega) (fun v hv => by
   obtain⟨k,hk⟩:=List.mem_iff_getElem?.1 hv
   exact hy1 k v (by simpa using hk))
  simp only [Nat.add_zero] at hst
  generalize hc':(c.toList.take off ++ (a.eval yo).cells.toList ++ c.toList.drop (off + (a.eval yo).cells.toList.length))=c' at hst
  have hcs:c'=splice c.toList off (a.eval yo).cells.toList:=hc'.symm
  have hc'l:c'.length=c.size:=by rw [hcs,splice_len (by simp; omega)]; simp
  have hgo:Goes ι w ι (w.setRow b c'.toArray) (some b):=
   ⟨rfl,rfl,rfl,by simp,fun k _ hk => setRow_other w b k _ (fun e => hk (by rw [e])),fun _ _ h => h,fun _ _ h => .inl h,fun b1 o1 hb1 => World.cell?_of_block (w:=w) (setRow_other w b b1 _ (fun e => hex hE o1 (e ▸ hb1)))⟩
  have hR:∀ d y,R ι w (rho β σ.T) d y→R ι (w.setRow b c'.toArray) (rho β ((t,.box e (splice cells off ds)) :: σ.T)) d y:=fun d y hd => hd.mono hgo.sub hgo.cell (fun d x h => rho_setB hb h)
  refine⟨w.setRow b c'.toArray,ι,β,?_,hi.step t (some b) hgo.os hgo.tape hgo.output hgo.size hgo.kept (fun k hk => by cases hk; exact⟨by rw [hβ]; rfl,by rw [hb]; exact fun h => by cases h⟩) hgo.sub hgo.new hgo.cell (fun _ _ => rfl) (fun u hu => .inr (getT_cons_other hu)) (fun u _ cs _ _ _ d _ y hd => hR d y hd) ?_ ?_,fun s x hsx => hR _ _ hsx⟩
  ·have hne:¬ ((a.eval yo).cells.size ≠ sz):=by omega
   simp [execOp,ho,hv,Instr.storeAt,Instr.sureAddr,storeVar,run_sizeOf' hz,hne,hst]
  ·rw [getT_cons_same]
   refine⟨b,c'.toArray,ty',hβ,setRow_heap w b c _ ty' _ hh,by simp [hc'l,splice_len (show off + ds.length ≤ cells.length by omega),hlen],fun k y hy => ?_,fun k d y hd hy => hR d y ?_,fun _ o => hex hE o,fun h => (by rw [hE] at h; cases h),Ex.pin_set hat hokst fun h0 => ?_⟩
   ·simp only [List.getElem?_toArray] at hy
    rw [hcs,splice_at (by simp; omega)] at hy
    split at hy
    ·exact hy1 _ _ (by simpa using hy)
    ·exact h1 _ _ (by simpa using hy)
   ·simp only [List.getElem?_toArray] at hy
    rw [hcs,splice_at (by simp; omega)] at hy
    rw [splice_at (by omega)] at hd
    have e:(a.eval yo).cells.toList.length=ds.length:=by simp [hyl]
    rw [e] at hy
    split at hy
    ·rename_i h; rw [if_pos h] at hd; exact hyR _ _ _ hd (by simpa using hy)
    ·rename_i h; rw [if_neg h] at hd; exact hg _ _ _ hd (by simpa using hy)
   ·simp only [List.getElem?_toArray]
    rw [hcs,splice_at (by simp; omega),if_neg (by omega)]
    simp
  ·intro b1 hb1; exact .inr (.inr ⟨hb1,by rw [hb]; exact fun h => by cases h⟩)
theorem OpOk.boxL {elem:TypeId} {x:Operand} {cells:List D} (t:Nat) (ho:o.op=.box elem x) {dx:D} (hxl:DLe dx (σ.ev x)) (hx:cellsOf dx=some cells) (hnm:cells.any (D.names1 t)=false) (hn:dstB n o.dst=true) :
  OpOk P n o σ ((obSt σ t (.box .ex cells)).put o.dst (.bref t 0)):=
 .ob hn fun cx ι β a w hi hr => by
  obtain⟨hl,h1,hg⟩:=(hxl.r (hr x)).cells hx
  have hgo:Goes ι w ι (w.alloc (.cells (a.eval x).cells elem)) none:=
   ⟨rfl,rfl,rfl,by simp,fun k hk _ => Below.heap_alloc w _ k hk,fun _ _ h => h,fun _ _ h => .inl h,fun b o hb => World.cell?_alloc_lt w _ _ (hi.lt b o hb)⟩
  refine⟨.pointer (some ⟨w.heap.size,0,none⟩),_,ι,.pointer (some ⟨w.heap.size,0,none⟩),none,by simp [execOp,ho,Instr.box,newVar,newRow],hgo,fun _ h => (by cases h),?_,fun b hb => ?_,?_⟩
  ·refine⟨_,(a.eval x).cells,elem,rfl,heap_alloc_new w _,hl,h1,fun k d y hd hy => ?_,fun _ o ho => by have:=hi.lt _ _ ho; omega,fun h => (by cases h),trivial⟩
   refine r_ob t hgo _ _ (hg k d y hd hy) ?_
   have:d.names1 t=false:=by simp at hnm; exact hnm d (List.mem_of_getElem? hd)
   cases d <;> first | exact this | simp [D.names1] at this
  ·cases hb; exact .inl (Nat.le_refl _)
  ·exact .ref rfl rfl (by simp only [rho,getT_cons_same,upd_same]; exact⟨_,rfl,rfl⟩)
end
section
variable {P:Program} {n:Nat} {all:Array Oper} {o:Oper} {fr:List (Nat × D)} {rd:List (Nat × Ob)} {d:D}
theorem It2.val (hd:dstB n o.dst=true) (hg:o.guard=none) (h:∀ T,rdOk rd T→GOk P o ⟨fr,T⟩ d):ItOk P n all o ⟨true,fr,rd,d,[],false,[]⟩:=
 ⟨hd,by simp only [gd2,hg],fun _ σ h1 h2 _ => OpOk.g (σ:=σ) (GOk.fr h1 (h σ.T h2)) hd,fun h => by cases h⟩
theorem It2.alloc {elem:TypeId} {z:Value} {cells:List D} (t:Nat) (sp:List (Option Nat)) (hg:o.guard=none) (ho:o.op=.alloc elem) (hz:zeroOf P elem=some z) (hc:zeroD sp z.cells.toList=some cells) (hn:dstB n o.dst=true) :
  ItOk P n all o ⟨true,fr,rd,.bref t 0,[(t,.box .ex cells)],true,[]⟩:=
 ⟨hn,by simp only [gd2,hg],fun _ _ _ _ _ => OpOk.alloc t sp ho hz hc hn,fun h => by cases h⟩
theorem It2.box {elem:TypeId} {x:Operand} {cells:List D} (t:Nat) (hg:o.guard=none) (ho:o.op=.box elem x) (hx:cellsOf (St.ev ⟨fr,[]⟩ x)=some cells) (hnm:cells.any (D.names1 t)=false) (hn:dstB n o.dst=true) :
  ItOk P n all o ⟨true,fr,rd,.bref t 0,[(t,.box .ex cells)],true,[]⟩:=
 ⟨hn,by simp only [gd2,hg],fun _ σ h1 _ _ => OpOk.boxL (σ:=σ) t ho (ev_le (T:=[]) h1 x) hx hnm hn,fun h => by cases h⟩
theorem rd_get {t:Nat} {T:List (Nat × Ob)}:∀ {rd:List (Nat × Ob)},rdOk rd T→rd.any (fun p => Nat.beq p.1 t)=true→getT T t=getT rd t
 | [],_,h => by cases h
 | p :: r,h2,hrd => by
  rw [show getT (p :: r) t=if p.1=t then p.2 else getT r t from getT_cons p.1 p.2 r t]
  split
  ·rename_i h; rw [← h]; exact h2.1
  ·rename_i h
   have:Nat.beq p.1 t=false:=by cases hb:Nat.beq p.1 t with | false => rfl | true => exact absurd (Nat.eq_of_beq_eq_true hb) h
   simp only [List.any_cons,this,Bool.false_or] at hrd
   exact rd_get h2.2 hrd
theorem It2.store {ty:TypeId} {x yo:Operand} {t off sz:Nat} {e:Ex} {cells ds cells':List D} (hg:o.guard=none) (ho:o.op=.store ty x yo) (hz:szOf P ty=some sz) (hx:St.ev ⟨fr,[]⟩ x=.bref t off) (hb:getT rd t=.box e cells) (hE:(e.own && e.okSt off)=true) (hrd:rd.any (fun p => Nat.beq p.1 t)=true)
  (hy:cellsOf (St.ev ⟨fr,[]⟩ yo)=some ds) (hl:(Nat.beq ds.length sz && Nat.ble (off + sz) cells.length)=true) (hc:splice cells off ds=cells') (hn:dstB n o.dst=true) :
  ItOk P n all o ⟨true,fr,rd,.junk,[(t,.box e cells')],false,[]⟩:=
 ⟨hn,by simp only [gd2,hg],fun _ σ h1 h2 _ => by
  subst hc
  have hb':getT σ.T t=.box e cells:=by
   rw [← hb]; exact rd_get h2 hrd
  exact OpOk.storeBL (σ:=σ) ho hz (hx ▸ ev_le (T:=[]) h1 x) hb' hE (ev_le (T:=[]) h1 yo) hy hl hn,fun h => by cases h⟩
def SLe (σ' σ:St):Prop:=∀ (cx:Cx) (n:Nat) (a:Act) (w:World),Sim cx n σ a w→Sim cx n σ' a w
theorem Le.s {σ' σ:St} (h:Le σ' σ):SLe σ' σ:=fun _ _ _ _ hs => hs.le h
theorem OpsOk.doneS {ops:Array Oper} {σ σ':St} (h:SLe σ' σ):OpsOk P n ops [] σ σ':=fun _ _ _ _ hs hq => hq _ _ (h _ _ _ _ hs)
def TxtE2 (P:Program) (n:Nat) (all:Array Oper) (os:List Oper) (its:List It2) (f:List (Nat × D)) (T:List (Nat × Ob)) (σ':St):Prop:=∃ f' T',Txt2 P n all os its f T f' T' ∧ SLe σ' ⟨f',T'⟩
theorem TxtE2.done {f:List (Nat × D)} {T:List (Nat × Ob)} {σ':St} (h:Le σ' ⟨f,T⟩):TxtE2 P n all [] [] f T σ':=⟨f,T,⟨rfl,rfl⟩,h.s⟩
theorem TxtE2.doneS {f:List (Nat × D)} {T:List (Nat × Ob)} {σ':St} (h:SLe σ' ⟨f,T⟩):TxtE2 P n all [] [] f T σ':=⟨f,T,⟨rfl,rfl⟩,h⟩
theorem TxtE2.cons {os:List Oper} {it:It2} {its:List It2} {f:List (Nat × D)} {T:List (Nat × Ob)} {σ':St} (hl:leFr it.fr f) (hr:rdOk it.rd T) (h:ItOk P n all o it) (k:TxtE2 P n all os its (putF f o.dst it.dd) (putT T it.wr) σ'):TxtE2 P n all (o :: os) (it :: its) f T σ':=
 let ⟨f',T',t,l⟩:=k; ⟨f',T',⟨hl,hr,h,t⟩,l⟩
theorem Ok.drawE2 {id:Nat} {ops:Array Oper} {fr:List (Nat × D)} {T:List (Nat × Ob)} {Φ:Exit→St→Prop} {σ':St} (its:List It2) (cert:List (List Nat)) (hm:P.follows .mixedOrders=true)
  (hc:((certOk ops.toList cert && hangOk ops.toList (its.map fun it => it.fr.map (·.1)) cert) && (hang2 its cert && fresh2 fr T its cert) && Nat.beq its.length ops.size && its.all fun it => it.lo.isEmpty)=true)
  (ht:TxtE2 P n ops ops.toList its fr T σ') (hk:Φ .normal σ'):Ok P n (.region id ops true) ⟨fr,T⟩ Φ:=by
 obtain⟨f',T',t,l⟩:=ht
 intro cx a w Q hs hq
 rw [Bool.and_eq_true] at hc
 exact Ok.draw2 (Φ:=fun e σ => e=.normal ∧ σ=⟨f',T'⟩) its cert hm hc.1 t (loose_nil hc.2) ⟨rfl,rfl⟩ cx a w Q hs fun e σ a' w' ⟨he,hσ⟩ hs' => by subst he; subst hσ; exact hq _ _ _ _ hk (l _ _ _ _ hs')
theorem Ok.drawL {id:Nat} {ops:Array Oper} {fr:List (Nat × D)} {T:List (Nat × Ob)} {Φ:Exit→St→Prop} {σ':St} (its:List It2) (cert:List (List Nat)) (hm:P.follows .mixedOrders=true)
  (hc:((certOk ops.toList cert && hangOk ops.toList (its.map fun it => it.fr.map (·.1)) cert) && (hang2 its cert && fresh2 fr T its cert) && Nat.beq its.length ops.size)=true)
  (hlo:loose T its cert) (ht:TxtE2 P n ops ops.toList its fr T σ') (hk:Φ .normal σ'):Ok P n (.region id ops true) ⟨fr,T⟩ Φ:=by
 obtain⟨f',T',t,l⟩:=ht
 intro cx a w Q hs hq
 exact Ok.draw2 (Φ:=fun e σ => e=.normal ∧ σ=⟨f',T'⟩) its cert hm hc t hlo ⟨rfl,rfl⟩ cx a w Q hs fun e σ a' w' ⟨he,hσ⟩ hs' => by subst he; subst hσ; exact hq _ _ _ _ hk (l _ _ _ _ hs')
end
end Go.Proofs.Vx
