import Derived.Test.YtapbckofgcmgmaaGreatDoorVxU
namespace Go.Proofs.Vx
open Go Go.RowKit
set_option linter.unusedSectionVars false
variable [Glo]
theorem Inv.lt' {cx ι β T w} (h:Inv cx ι β T w):∀ t b,getT T t ≠ .none→blockOf (β t)=some b→b < w.heap.size:=by
 intro t b hne hb
 have ho:=h.obj t
 cases hg:getT T t with
 | none => exact absurd hg hne
 | box e c => rw [hg] at ho; obtain⟨b',c,ty,hx,hc,_⟩:=ho; rw [hx] at hb; cases hb; exact (Array.getElem?_eq_some_iff.1 hc).1
 | rows e ety sz rs =>
  rw [hg] at ho; obtain⟨xs,ho,_⟩:=ho
  rcases ho.2 with ⟨hx,_⟩ |⟨g,cap,cur,hx,_,hc,_⟩
  ·rw [hx] at hb; cases hb
  ·rw [hx] at hb; cases hb; exact (Array.getElem?_eq_some_iff.1 hc).1
 | map es => rw [hg] at ho; obtain⟨r,es,cl,hx,hc,_⟩:=ho; rw [hx] at hb; cases hb; exact (Array.getElem?_eq_some_iff.1 hc).1
 | pin s ety sz rs =>
  rw [hg] at ho; obtain⟨_,xs,ho,_⟩:=ho
  rcases ho.2 with ⟨hx,_⟩ |⟨g,cap,cur,hx,_,hc,_⟩
  ·rw [hx] at hb; cases hb
  ·rw [hx] at hb; cases hb; exact (Array.getElem?_eq_some_iff.1 hc).1
 | bytes ys => rw [hg] at ho; obtain⟨r,cap,cur,fz,ety,hx,hc,_⟩:=ho; rw [hx] at hb; cases hb; exact (Array.getElem?_eq_some_iff.1 hc).1
theorem Inv.multi {cx ι β T w} (h:Inv cx ι β T w) {w':World} {ι':Nat→Nat→Prop} {β':Nat→Value} {T':List (Nat × Ob)} (M:Nat→Prop) (W:Nat→Prop)
  (hW:∀ b,W b→∃ u,M u ∧ getT T u ≠ .none ∧ blockOf (β u)=some b)
  (hos:w'.os=w.os) (htape:w'.tape=w.tape) (hout:w'.output=w.output) (hsize:w.heap.size ≤ w'.heap.size)
  (hkept:∀ k,k < w.heap.size→¬ W k→w'.heap[k]? =w.heap[k]?)
  (hsub:∀ b o,ι b o→ι' b o) (hnew:∀ b o,ι' b o→ι b o ∨ (w.heap.size ≤ b ∧ b < w'.heap.size) ∨ W b)
  (hcell:∀ b o,ι b o→w'.cell? ⟨b,o,none⟩=w.cell? ⟨b,o,none⟩)
  (hβ:∀ u,¬ M u→β' u=β u) (hT:∀ u,¬ M u→getT T' u=.none ∨ getT T' u=getT T u)
  (hR:∀ u e cells,¬ M u→getT T u=.box e cells→getT T' u=getT T u→∀ d ∈ cells,∀ y,R ι w (rho β T) d y→R ι' w' (rho β' T') d y)
  (hob:∀ u,M u→ObOk ι' w' (rho β' T') (β' u) (getT T' u))
  (hmine:∀ u b,M u→blockOf (β' u)=some b→getT T' u=.none ∨ w.heap.size ≤ b ∨ W b)
  (hap:∀ u v b,M u→M v→u ≠ v→blockOf (β' u)=some b→blockOf (β' v)=some b→getT T' u=.none ∨ getT T' v=.none):Inv cx ι' β' T' w':=by
 have lt:=h.lt'
 refine⟨h.gl,hos.trans h.os,htape.trans h.tape,hout.trans h.output,Nat.le_trans h.size hsize,fun k hk hWk => ?_,fun b o hb => hsub _ _ (h.old b o hb),fun b o hb => ?_,fun b o hb => ?_,fun u => ?_,fun u b hb => ?_,fun u v b huv hb hb' => ?_⟩
 ·refine (hkept k (Nat.lt_of_lt_of_le hk h.size) (fun e => ?_)).trans (h.kept k hk hWk)
  obtain⟨t,_,h2,h1⟩:=hW k e
  rcases h.mine t k h1 with h' | h' | h'
  ·exact h2 h'
  ·omega
  ·exact hWk h'
 ·rcases hnew b o hb with h' | h' | h'
  ·exact h.new b o h'
  ·exact .inr (.inl (Nat.le_trans h.size h'.1))
  ·obtain⟨t,_,h2,h1⟩:=hW b h'
   exact .inr ((h.mine t b h1).resolve_left h2)
 ·rcases hnew b o hb with h' | h' | h'
  ·exact Nat.lt_of_lt_of_le (h.lt b o h') hsize
  ·exact h'.2
  ·obtain⟨t,_,h2,h1⟩:=hW b h'
   exact Nat.lt_of_lt_of_le (lt t b h2 h1) hsize
 ·by_cases hu:M u
  ·exact hob u hu
  ·rcases hT u hu with e | e
   ·rw [e]; trivial
   ·rw [e,hβ u hu]
    by_cases hn:getT T u=.none
    ·rw [hn]; trivial
    ·have hne:∀ b,blockOf (β u)=some b→¬ W b:=by
      intro b hb e
      obtain⟨t,hM,h2,h1⟩:=hW b e
      rcases h.apart u t b (fun e => hu (e ▸ hM)) hb h1 with h' | h'
      ·exact hn h'
      ·exact h2 h'
     refine (h.obj u).keep (fun b hb => hkept b (lt u b hn hb) (hne b hb)) hsub (fun b hb o ho => ?_) hcell (fun e' cells hc => hR u e' cells hu hc e)
     rcases hnew b o ho with h' | h' | h'
     ·exact h'
     ·have:=lt u b hn hb; omega
     ·exact absurd h' (hne b hb)
 ·by_cases hu:M u
  ·rcases hmine u b hu hb with h' | h' | h'
   ·exact .inl h'
   ·exact .inr (.inl (Nat.le_trans h.size h'))
   ·obtain⟨t,_,h2,h1⟩:=hW b h'
    exact .inr ((h.mine t b h1).resolve_left h2)
  ·rw [hβ u hu] at hb
   rcases hT u hu with e | e
   ·exact .inl e
   ·rw [e]; exact h.mine u b hb
 ·have one:∀ u v b,¬ M u→M v→blockOf (β' u)=some b→blockOf (β' v)=some b→getT T' u=.none ∨ getT T' v=.none:=by
   intro u v b hu hv hb hb'
   rw [hβ u hu] at hb
   rcases hT u hu with e | e
   ·exact .inl e
   ·by_cases hn:getT T u=.none
    ·exact .inl (e.trans hn)
    ·rcases hmine v b hv hb' with h' | h' | h'
     ·exact .inr h'
     ·have:=lt u b hn hb; omega
     ·obtain⟨t,hM,h2,h1⟩:=hW b h'
      rcases h.apart u t b (fun e => hu (e ▸ hM)) hb h1 with h3 | h3
      ·exact absurd h3 hn
      ·exact absurd h3 h2
  by_cases hu:M u
  ·by_cases hv:M v
   ·exact hap u v b hu hv huv hb hb'
   ·exact (one v u b hv hu hb' hb).symm
  ·by_cases hv:M v
   ·exact one u v b hu hv hb hb'
   ·rw [hβ u hu] at hb
    rw [hβ v hv] at hb'
    rcases hT u hu with e | e
    ·exact .inl e
    ·rcases hT v hv with e' | e'
     ·exact .inr e'
     ·rw [e,e']; exact h.apart u v b huv hb hb'
theorem R.keepN {ι ι':Nat→Nat→Prop} {w w':World} {ρ ρ':D→Value→Prop} {t u:Nat} {d:D} {x:Value} (h:R ι w ρ d x) (hd:d.names t=false) (hu:d.names u=false)
  (hι:∀ b o,ι b o→ι' b o) (hw:∀ b o,ι b o→w'.cell? ⟨b,o,none⟩=w.cell? ⟨b,o,none⟩) (hρ:∀ d x,d.names1 t=false→d.names1 u=false→ρ d x→ρ' d x):R ι' w' ρ' d x:=
 (h.keep (ι':=ι) (w':=w) (ρ':=fun d x => d.names1 t=false ∧ ρ d x) hd (fun _ _ h => h) (fun _ _ _ => rfl) (fun _ _ h1 h2 =>⟨h1,h2⟩)).keep hu hι hw (fun _ _ h2 h1 => hρ _ _ h1.1 h2 h1.2)
theorem R.keepN1 {ι ι':Nat→Nat→Prop} {w w':World} {ρ ρ':D→Value→Prop} {t u:Nat} {d:D} {x:Value} (h:R ι w ρ d x) (hd:d.names1 t=false) (hu:d.names1 u=false)
  (hι:∀ b o,ι b o→ι' b o) (hw:∀ b o,ι b o→w'.cell? ⟨b,o,none⟩=w.cell? ⟨b,o,none⟩) (hρ:∀ d x,d.names1 t=false→d.names1 u=false→ρ d x→ρ' d x):R ι' w' ρ' d x:=
 (h.keep1 (ι':=ι) (w':=w) (ρ':=fun d x => d.names1 t=false ∧ ρ d x) hd (fun _ _ h => h) (fun _ _ _ => rfl) (fun _ _ h1 h2 =>⟨h1,h2⟩)).keep1 hu hι hw (fun _ _ h2 h1 => hρ _ _ h1.1 h2 h1.2)
def rn (p q t t1:Nat):D→D
 | .bref u off => match Nat.beq u p with | true => .bref t off | false => .junk
 | .sref u => match Nat.beq u q with | true => .sref t1 | false => .junk
 | d => match d.flat1 with | true => d | false => .junk
def okC (p q:Nat):D→Bool
 | .bref u _ => Nat.beq u p
 | .sref u => Nat.beq u q
 | d => d.flat1
def rnA (p t:Nat):D→D
 | .bref u off => match Nat.beq u p with | true => .bref t off | false => .junk
 | d => d
def okA (p:Nat):D→Bool
 | .bref u _ => Nat.beq u p
 | d => d.flat
def ownR:Ob→Bool
 | .none => true
 | .rows true _ _ _ => true
 | _ => false
def ownN:Ob→Bool
 | .none => true
 | .box .ex cells => cells.all D.flat1
 | _ => false
def rnR (k t2:Nat):D→D
 | .bref u off => match Nat.beq u k with | true => .bref t2 off | false => .junk
 | d => d
def okR (k:Nat) (n2:Ob):D→Bool
 | .bref u _ => Nat.beq u k && (match n2 with | .box _ _ => true | _ => false)
 | d => d.flat
def apart3 (t t1 t2:Nat):Bool:=!Nat.beq t t1 && !Nat.beq t t2 && !Nat.beq t1 t2
theorem apart3_ne {t t1 t2:Nat} (h:apart3 t t1 t2=true):t ≠ t1 ∧ t ≠ t2 ∧ t1 ≠ t2:=by
 simp only [apart3,Bool.and_eq_true,Bool.not_eq_true'] at h
 exact⟨Nat.ne_of_beq_eq_false h.1.1,Nat.ne_of_beq_eq_false h.1.2,Nat.ne_of_beq_eq_false h.2⟩
section
variable {P:Program} {n:Nat} {o:Oper} {σ:St}
theorem OpOk.callT {x:Operand} {args:Array Operand} {ts:Array TypeId} {f p q k:Nat} {e:Ex} {caps ds cells cells':List D} {o1 o1' n2:Ob} {r:D} (t t1 t2:Nat) (ho:o.op=.call { callee:=.value x,args:=args,argTypes:=ts }) (hx:σ.ev x=.clo f caps)
  (hc:callable P f=true) (hf:∀ b,Fn P f ds [(p,.box (e.pinAt b) cells),(q,o1)] r [(p,.box (e.pinAt b) cells'),(q,o1'),(k,n2)])
  (hds:(args.toList.map σ.ev) ++ caps=ds.map (rnA p t)) (hdk:ds.all (okA p)=true) (hb:getT σ.T t=.box e (cells.map (rn p q t t1))) (he:e.own=true) (hck:(cells.all (okC p q) && cells'.all (okC p q))=true)
  (h1:getT σ.T t1=o1) (hok:(ownR o1 && ownR o1' && ownN n2 && okR k n2 r && apart3 p q k && apart3 t t1 t2)=true) (hn:dstB n o.dst=true) :
  OpOk P n o σ (St.put ⟨kill t2 (kill t1 σ.fr),(t,.box e (cells'.map (rn p q t t1))) :: (t1,o1') :: (t2,n2) :: killT t2 (killT t1 σ.T)⟩ o.dst (rnR k t2 r)):=by
 simp only [Bool.and_eq_true] at hok hck
 obtain⟨⟨⟨⟨⟨hr1,hr1'⟩,hn2⟩,hrr⟩,hpq⟩,htt⟩:=hok
 obtain⟨hpq,hpk,hqk⟩:=apart3_ne hpq
 obtain⟨ht1,ht2,ht12⟩:=apart3_ne htt
 intro cx a w K Q hs hk
 obtain⟨⟨ι,β,hi,hr⟩,hsz,hdf⟩:=hs
 have hev:=sim_ev hr
 have hxx:=hev x
 rw [hx] at hxx
 obtain⟨vs,hv,hl,hg⟩:=hxx.clo_inv
 have hrun:(execOp a.eval o).run P w=.ok (.enter f (args.map a.eval ++ vs)) w:=by
  simp [execOp,ho,resolve,hv,Deferred.ofValue,invoke,run_callFunc hc]
 unfold Oper.wp
 rw [hrun,Oper.upon_enter]
 obtain⟨b,c,ty,hβ,hh,hlen,hone,hcl,hex,_,hat⟩:=box_at hi hb
 let β0:Nat→Value:=fun u => match Nat.beq u p with | true => β t | false => β t1
 have β0p:β0 p=β t:=by simp [β0]
 have β0n:∀ u,u ≠ p→β0 u=β t1:=fun u hu => by
  have:Nat.beq u p=false:=by cases hb:Nat.beq u p with | false => rfl | true => exact absurd (Nat.eq_of_beq_eq_true hb) hu
  simp [β0,this]
 have beqF:∀ {u v:Nat},u ≠ v→Nat.beq u v=false:=fun {u v} hu => by cases hb:Nat.beq u v with | false => rfl | true => exact absurd (Nat.eq_of_beq_eq_true hb) hu
 let T1:List (Nat × Ob):=[(p,.box (e.pinAt b) cells),(q,o1)]
 have gp:getT T1 p=.box (e.pinAt b) cells:=getT_cons_same _ _ _
 have gq:getT T1 q=o1:=by rw [getT_cons_other (Ne.symm hpq),getT_cons_same]
 have go:∀ u,u ≠ p→u ≠ q→getT T1 u=.none:=fun u h1 h2 => by rw [getT_cons_other h1,getT_cons_other h2]; rfl
 have in1:∀ d y,okC p q d=true→R ι w (rho β σ.T) (rn p q t t1 d) y→R ι w (rho β0 T1) d y:=by
  intro d y hd h
  cases d with
  | bref u off =>
   cases Nat.eq_of_beq_eq_true hd
   simp only [rn,Nat.beq_refl] at h
   have hrho:=h.ref_inv rfl
   refine .ref rfl (h.ref_one rfl) ?_
   simp only [rho,hb] at hrho
   simp only [rho,gp,β0p]
   exact hrho
  | sref u =>
   cases Nat.eq_of_beq_eq_true hd
   simp only [rn,Nat.beq_refl] at h
   have hrho:=h.ref_inv rfl
   refine .ref rfl (h.ref_one rfl) ?_
   simp only [rho,h1] at hrho
   simp only [rho,gq,β0n _ (Ne.symm hpq)]
   exact hrho
  | _ =>
   simp only [okC] at hd
   simp only [rn,hd] at h
   exact .pu (h.flat1 hd)
 have hWp:Wof β0 T1 b:=⟨p,by rw [gp]; exact fun h => (by cases h),by show blockOf (β0 p)=some b; rw [β0p,hβ]; rfl⟩
 have hWof:∀ k,Wof β0 T1 k→(k=b) ∨ (o1 ≠ .none ∧ blockOf (β t1)=some k):=by
  rintro k ⟨u,hu1,hu2⟩
  by_cases hup:u=p
  ·subst hup; rw [β0p,hβ] at hu2; cases hu2; exact .inl rfl
  ·by_cases huq:u=q
   ·subst huq; rw [gq] at hu1; rw [β0n _ hup] at hu2; exact .inr ⟨hu1,hu2⟩
   ·exact absurd (go u hup huq) hu1
 have hWlt:∀ k,Wof β0 T1 k→k < w.heap.size:=by
  intro k hk
  rcases hWof k hk with rfl |⟨h2,h3⟩
  ·exact (Array.getElem?_eq_some_iff.1 hh).1
  ·exact hi.lt' t1 k (by rw [h1]; exact h2) h3
 have hWι:∀ k o,Wof β0 T1 k→¬ ι k o:=by
  intro k o hk hio
  rcases hWof k hk with rfl |⟨h2,h3⟩
  ·exact hex he o hio
  ·have hob:=hi.obj t1
   rw [h1] at hob
   cases o1 with
   | none => exact h2 rfl
   | rows ex ety sz rs =>
    cases ex with
    | true =>
     obtain⟨xs,_,_,_,_,hbb⟩:=hob
     exact (hbb k h3).2.1 rfl o hio
    | false => simp [ownR] at hr1
   | _ => simp [ownR] at hr1
 have hinv:Inv ⟨w,Wof β0 T1,ι,[]⟩ ι β0 T1 w:=by
  have hgl:GlOk ⟨w,Wof β0 T1,ι,[]⟩:=hi.glC fun k hk => by
   rcases hWof k hk with rfl |⟨h2,h3⟩
   ·exact (hi.mine t _ (by rw [hβ]; rfl)).resolve_left (by rw [hb]; exact fun h => by cases h)
   ·exact (hi.mine t1 k h3).resolve_left (by rw [h1]; exact h2)
  refine⟨hgl,rfl,rfl,rfl,Nat.le_refl _,fun _ _ _ => rfl,fun _ _ h => h,fun _ _ h => .inl h,hi.lt,fun u => ?_,fun u b' hb' => ?_,fun u v b' huv hb1 hb2 => ?_⟩
  ·by_cases hup:u=p
   ·subst hup
    rw [gp,β0p]
    refine⟨b,c,ty,hβ,hh,by simpa using hlen,hone,fun k d y hd hy => ?_,fun _ => hex he,fun h => (by rw [Ex.pinAt_own] at h; cases h),Ex.pinAt_in hat⟩
    refine in1 d y ?_ (hcl k _ y (by rw [List.getElem?_map,hd]; rfl) hy)
    have:=hck.1; rw [List.all_eq_true] at this; exact this d (List.mem_of_getElem? hd)
   ·by_cases huq:u=q
    ·subst huq
     rw [gq,β0n _ hup]
     have hob:=hi.obj t1
     rw [h1] at hob
     cases o1 with
     | none => trivial
     | rows ex ety sz rs => exact ObOk.mono (ρ:=fun _ _ => False) (o:=.rows ex ety sz rs) hob (fun _ _ => rfl) (fun _ _ h => h) (fun _ _ _ h => h) (fun _ _ _ => rfl) (fun _ _ h => h.elim)
     | _ => simp [ownR] at hr1
    ·rw [go u hup huq]; trivial
  ·by_cases hn:getT T1 u=.none
   ·exact .inl hn
   ·exact .inr (.inr ⟨u,hn,hb'⟩)
  ·have key:∀ u v,u ≠ v→blockOf (β0 u)=some b'→blockOf (β0 v)=some b'→u=p→getT T1 u=.none ∨ getT T1 v=.none:=by
    intro u v huv hb1 hb2 hup
    subst hup
    by_cases hvq:v=q
    ·subst hvq
     rw [β0p] at hb1
     rw [β0n _ (Ne.symm huv)] at hb2
     rcases hi.apart t t1 b' ht1 hb1 hb2 with h | h
     ·rw [hb] at h; cases h
     ·rw [h1] at h; rw [gq]; exact .inr h
    ·exact .inr (go v (Ne.symm huv) hvq)
   by_cases hup:u=p
   ·exact key u v huv hb1 hb2 hup
   ·by_cases hvp:v=p
    ·exact (key v u (Ne.symm huv) hb2 hb1 hvp).symm
    ·by_cases huq:u=q
     ·by_cases hvq:v=q
      ·exact absurd (huq.trans hvq.symm) huv
      ·exact .inr (go v hvp hvq)
     ·exact .inl (go u hup huq)
 refine (hf b w ι β0 _ hinv ?_ (fun k d y hd hy => ?_)).mono ?_
 ·have:=congrArg List.length hds; simp at this; simp [hl,← this]
 ·have hd':((args.toList.map σ.ev) ++ caps)[k]? =some (rnA p t d):=by rw [hds,List.getElem?_map,hd]; rfl
  have hRR:R ι w (rho β σ.T) (rnA p t d) y:=by
   by_cases hk:k < args.size
   ·rw [List.getElem?_append_left (by simpa using hk),List.getElem?_map] at hd'
    rw [Array.getElem?_append_left (by simpa using hk)] at hy
    simp [hk] at hd' hy
    rw [← hd']; subst hy
    exact hev _
   ·rw [List.getElem?_append_right (by simpa using Nat.le_of_not_lt hk)] at hd'
    rw [Array.getElem?_append_right (by simpa using Nat.le_of_not_lt hk)] at hy
    simp at hd' hy
    exact hg _ _ _ hd' hy
  have hdo:okA p d=true:=by rw [List.all_eq_true] at hdk; exact hdk d (List.mem_of_getElem? hd)
  cases d with
  | bref u off =>
   cases Nat.eq_of_beq_eq_true hdo
   simp only [rnA,Nat.beq_refl] at hRR
   have hrho:=hRR.ref_inv rfl
   refine .ref rfl (hRR.ref_one rfl) ?_
   simp only [rho,hb] at hrho
   show rho β0 T1 _ _
   simp only [rho,gp,β0p]
   exact hrho
  | _ => exact .pu (hRR.flat hdo)
 ·rintro e' w' ⟨v,ι',β',rfl,hi',hres⟩
  let T1':List (Nat × Ob):=[(p,.box (e.pinAt b) cells'),(q,o1'),(k,n2)]
  have gp':getT T1' p=.box (e.pinAt b) cells':=getT_cons_same _ _ _
  have gq':getT T1' q=o1':=by rw [getT_cons_other (Ne.symm hpq),getT_cons_same]
  have gk':getT T1' k=n2:=by rw [getT_cons_other (Ne.symm hpk),getT_cons_other (Ne.symm hqk),getT_cons_same]
  let β2:Nat→Value:=fun u => match Nat.beq u t with | true => β' p | false => match Nat.beq u t1 with | true => β' q | false => match Nat.beq u t2 with | true => β' k | false => β u
  have β2t:β2 t=β' p:=by simp [β2]
  have β21:β2 t1=β' q:=by simp [β2,beqF (Ne.symm ht1)]
  have β22:β2 t2=β' k:=by simp [β2,beqF (Ne.symm ht2),beqF (Ne.symm ht12)]
  have β2o:∀ u,u ≠ t→u ≠ t1→u ≠ t2→β2 u=β u:=fun u a b c => by simp [β2,beqF a,beqF b,beqF c]
  let T0:List (Nat × Ob):=killT t2 (killT t1 σ.T)
  let T2:List (Nat × Ob):=(t,.box e (cells'.map (rn p q t t1))) :: (t1,o1') :: (t2,n2) :: T0
  have G0:getT T2 t=.box e (cells'.map (rn p q t t1)):=getT_cons_same _ _ _
  have G1:getT T2 t1=o1':=by rw [getT_cons_other (Ne.symm ht1),getT_cons_same]
  have G2:getT T2 t2=n2:=by rw [getT_cons_other (Ne.symm ht2),getT_cons_other (Ne.symm ht12),getT_cons_same]
  have Go:∀ u,u ≠ t→u ≠ t1→u ≠ t2→getT T2 u=getT T0 u:=fun u a b c => by rw [getT_cons_other a,getT_cons_other b,getT_cons_other c]
  have hbp:β' p=.pointer (some ⟨b,0,none⟩):=by
   have:=hi'.obj p
   rw [show getT [(p,Ob.box (e.pinAt b) cells'),(q,o1'),(k,n2)] p=_ from gp'] at this
   obtain⟨b2,_,_,hx2,_,_,_,_,_,_,ha2⟩:=this
   rw [hx2,(Ex.pinAt_out ha2 hat).1]
  have leT1:=Le.kill t1 ⟨σ.fr,σ.T⟩
  have leT2:=Le.kill t2 ⟨kill t1 σ.fr,killT t1 σ.T⟩
  have hi0:Inv cx ι β T0 w:=(hi.le leT1.2).le leT2.2
  have alive:∀ u,getT σ.T u ≠ .none→getT T0 u ≠ .none:=fun u hu he => by
   have h2:getT (killT t1 σ.T) u ≠ .none:=fun he => by
    rw [getT_kill] at he; split at he
    ·cases he
    ·exact hu he
   simp only [T0] at he
   rw [getT_kill] at he; split at he
   ·cases he
   ·exact h2 he
  have hcellι:∀ b' o',ι b' o'→w'.cell? ⟨b',o',none⟩=w.cell? ⟨b',o',none⟩:=fun b' o' h => World.cell?_of_block (w:=w) (hi'.kept b' (hi.lt b' o' h) (fun hW => hWι b' o' hW h))
  have hρ:∀ d y,d.names1 t1=false→d.names1 t2=false→rho β T0 d y→rho β2 T2 d y:=by
   intro d y hd1 hd2 h
   have same:∀ u,u ≠ t→Nat.beq u t1=false→Nat.beq u t2=false→getT T2 u=getT T0 u ∧ β2 u=β u:=fun u h0 h1 h2 =>⟨Go u h0 (Nat.ne_of_beq_eq_false h1) (Nat.ne_of_beq_eq_false h2),β2o u h0 (Nat.ne_of_beq_eq_false h1) (Nat.ne_of_beq_eq_false h2)⟩
   have hT0t:∃ cs,getT T0 t=.box e cs:=by
    have h3:∃ cs,getT (killT t1 σ.T) t=.box e cs:=by rw [getT_kill,hb]; exact⟨_,rfl⟩
    obtain⟨cs,h3⟩:=h3
    simp only [T0]; rw [getT_kill,h3]; exact⟨_,rfl⟩
   obtain⟨cs,hT0t⟩:=hT0t
   cases d with
   | bref u off =>
    by_cases hu:u=t
    ·subst hu
     simp only [rho,hT0t] at h
     simp only [rho,G0,β2t,hbp]
     obtain⟨b3,h4,h5⟩:=h
     rw [hβ] at h4; cases h4
     exact⟨b,rfl,h5⟩
    ·obtain⟨e1,e2⟩:=same u hu hd1 hd2
     simp only [rho,e1,e2]; exact h
   | sref u =>
    by_cases hu:u=t
    ·subst hu; simp only [rho,hT0t] at h
    ·obtain⟨e1,e2⟩:=same u hu hd1 hd2
     simp only [rho,e1,e2]; exact h
   | eref u i off =>
    by_cases hu:u=t
    ·subst hu
     simp only [rho,hT0t] at h
     simp only [rho,G0,β2t,hbp]
     exact h.imp id (fun e => e.trans hβ)
    ·obtain⟨e1,e2⟩:=same u hu hd1 hd2
     simp only [rho,e1,e2]; exact h
   | mref u =>
    by_cases hu:u=t
    ·subst hu; simp only [rho,hT0t] at h
    ·obtain⟨e1,e2⟩:=same u hu hd1 hd2
     simp only [rho,e1,e2]; exact h
   | _ => exact h
  have out1:∀ d y,okC p q d=true→R ι' w' (rho β' T1') d y→R ι' w' (rho β2 T2) (rn p q t t1 d) y:=by
   intro d y hd h
   cases d with
   | bref u off =>
    cases Nat.eq_of_beq_eq_true hd
    simp only [rn,Nat.beq_refl]
    have hrho:=h.ref_inv rfl
    refine .ref rfl (h.ref_one rfl) ?_
    simp only [rho,gp'] at hrho
    simp only [rho,G0,β2t]
    exact hrho
   | sref u =>
    cases Nat.eq_of_beq_eq_true hd
    simp only [rn,Nat.beq_refl]
    have hrho:=h.ref_inv rfl
    refine .ref rfl (h.ref_one rfl) ?_
    simp only [rho,gq'] at hrho
    simp only [rho,G1,β21]
    exact hrho
   | _ =>
    simp only [okC] at hd
    simp only [rn,hd]
    exact .pu (h.flat1 hd)
  have rowsAny:∀ {ρ ρ':D→Value→Prop} {x:Value} {ob:Ob},ownR ob=true→ObOk ι' w' ρ x ob→ObOk ι' w' ρ' x ob:=by
   intro ρ ρ' x ob ho h
   cases ob with
   | none => trivial
   | rows ex ety sz rs => exact ObOk.mono (ρ:=fun _ _ => False) (o:=.rows ex ety sz rs) h (fun _ _ => rfl) (fun _ _ h => h) (fun _ _ _ h => h) (fun _ _ _ => rfl) (fun _ _ h => h.elim)
   | _ => simp [ownR] at ho
  have newAny:∀ {ρ ρ':D→Value→Prop} {x:Value} {ob:Ob},ownN ob=true→ObOk ι' w' ρ x ob→ObOk ι' w' ρ' x ob:=by
   intro ρ ρ' x ob ho h
   cases ob with
   | none => trivial
   | box ex1 cs =>
    cases ex1 with
    | ex =>
     obtain⟨b,c,ty,e1,e2,e3,e4,e5,e6,e7,e8⟩:=h
     simp only [ownN,List.all_eq_true] at ho
     exact⟨b,c,ty,e1,e2,e3,e4,fun k d y hd hy => .pu ((e5 k d y hd hy).flat1 (ho d (List.mem_of_getElem? hd))),e6,e7,e8⟩
    | _ => simp [ownN] at ho
   | _ => simp [ownN] at ho
  have hM:∀ u,(u=t ∨ u=t1 ∨ u=t2)→∃ u',(u=t ∧ u'=p ∨ u=t1 ∧ u'=q ∨ u=t2 ∧ u'=k) ∧ β2 u=β' u' ∧ (getT T2 u=.none ↔ getT T1' u'=.none):=by
   rintro u (rfl | rfl | rfl)
   ·exact⟨p,.inl ⟨rfl,rfl⟩,β2t,by rw [G0,gp']; constructor <;> (intro h; cases h)⟩
   ·exact⟨q,.inr (.inl ⟨rfl,rfl⟩),β21,by rw [G1,gq']⟩
   ·exact⟨k,.inr (.inr ⟨rfl,rfl⟩),β22,by rw [G2,gk']⟩
  have hi2:Inv cx ι' β2 T2 w':=by
   refine hi0.multi (fun u => u=t ∨ u=t1 ∨ u=t2) (Wof β0 T1) (fun b' hb' => ?_) hi'.os hi'.tape hi'.output hi'.size (fun k' hk' hW' => hi'.kept k' hk' hW') hi'.old (fun b' o' h => ?_) hcellι
    (fun u hu => ?_) (fun u hu => ?_) (fun u e2 cs hu hg2 _ d hd y hy => ?_) (fun u hu => ?_) (fun u b' hu hb' => ?_) (fun u v b' hu hv huv hb1 hb2 => ?_)
   ·rcases hWof b' hb' with rfl |⟨h2,h3⟩
    ·exact⟨t,.inl rfl,alive t (by rw [hb]; exact fun h => by cases h),by rw [hβ]; rfl⟩
    ·exact⟨t1,.inr (.inl rfl),alive t1 (by rw [h1]; exact h2),h3⟩
   ·rcases hi'.new b' o' h with h | h | h
    ·exact .inl h
    ·exact .inr (.inl ⟨h,hi'.lt b' o' ‹_›⟩)
    ·exact .inr (.inr h)
   ·exact β2o u (fun h => hu (.inl h)) (fun h => hu (.inr (.inl h))) (fun h => hu (.inr (.inr h)))
   ·exact .inr (Go u (fun h => hu (.inl h)) (fun h => hu (.inr (.inl h))) (fun h => hu (.inr (.inr h))))
   ·have c2:d.names1 t2=false:=killT_clean t2 hg2 d hd
    have c1:d.names1 t1=false:=by
     have hg3:=hg2
     simp only [T0] at hg3
     rw [getT_kill] at hg3
     split at hg3
     ·rename_i e3 cs3 hb3
      cases hg3
      obtain⟨d0,hd0,rfl⟩:=List.mem_map.1 hd
      have:=killT_clean t1 hb3 d0 hd0
      cases d0.names1 t2 with
      | true => rfl
      | false => exact this
     ·rename_i hne; exact absurd hg3 (hne _ _)
    exact hy.keepN1 c1 c2 hi'.old hcellι (fun d y h1 h2 h => hρ d y h1 h2 h)
   ·rcases hu with rfl | rfl | rfl
    ·rw [G0,β2t]
     have:=hi'.obj p
     rw [show getT [(p,Ob.box (e.pinAt b) cells'),(q,o1'),(k,n2)] p=_ from gp'] at this
     obtain⟨b2,c2,ty2,e1,e2,e3,e4,e5,e6,_,e8⟩:=this
     refine⟨b2,c2,ty2,e1,e2,by simpa using e3,e4,fun k' d y hd hy => ?_,fun _ => e6 (Ex.pinAt_own _ _),fun h => (by rw [he] at h; cases h),(Ex.pinAt_out e8 hat).2⟩
     ·rw [List.getElem?_map,Option.map_eq_some_iff] at hd
      obtain⟨d0,h0,rfl⟩:=hd
      exact out1 d0 y (by have:=hck.2; rw [List.all_eq_true] at this; exact this d0 (List.mem_of_getElem? h0)) (e5 k' d0 y h0 hy)
    ·rw [G1,β21]
     have:=hi'.obj q
     rw [show getT [(p,Ob.box (e.pinAt b) cells'),(q,o1'),(k,n2)] q=_ from gq'] at this
     exact rowsAny hr1' this
    ·rw [G2,β22]
     have:=hi'.obj k
     rw [show getT [(p,Ob.box (e.pinAt b) cells'),(q,o1'),(k,n2)] k=_ from gk'] at this
     exact newAny hn2 this
   ·obtain⟨u',_,hβu,hg2⟩:=hM u hu
    rw [hβu] at hb'
    rcases hi'.mine u' b' hb' with h | h | h
    ·exact .inl (hg2.2 h)
    ·exact .inr (.inl h)
    ·exact .inr (.inr h)
   ·obtain⟨u',hu',hβu,hgu⟩:=hM u hu
    obtain⟨v',hv',hβv,hgv⟩:=hM v hv
    rw [hβu] at hb1
    rw [hβv] at hb2
    have huv':u' ≠ v':=by
     rcases hu' with ⟨rfl,rfl⟩ |⟨rfl,rfl⟩ |⟨rfl,rfl⟩ <;> rcases hv' with ⟨rfl,rfl⟩ |⟨rfl,rfl⟩ |⟨rfl,rfl⟩ <;> first | exact absurd rfl huv | assumption | (apply Ne.symm; assumption)
    rcases hi'.apart u' v' b' huv' hb1 hb2 with h | h
    ·exact .inl (hgu.2 h)
    ·exact .inr (hgv.2 h)
  refine hk _ _ (Sim.put1 (T:=T2) hi2 (fun s => ?_) hsz hdf (dstB_lt hn) ?_)
  ·have h3:R ι w (rho β T0) (get (kill t2 (kill t1 σ.fr)) s) (a.tmps.getD s undef):=by
    have h4:R ι w (rho β (killT t1 σ.T)) (get (kill t1 σ.fr) s) (a.tmps.getD s undef):=(leT1.1 s).r ((hr s).mono (fun _ _ h => h) (fun _ _ _ => rfl) (rho_le leT1.2))
    exact (leT2.1 s).r (h4.mono (fun _ _ h => h) (fun _ _ _ => rfl) (rho_le leT2.2))
   have c2:(get (kill t2 (kill t1 σ.fr)) s).names t2=false:=kill_clean t2 _ s
   have c1:(get (kill t2 (kill t1 σ.fr)) s).names t1=false:=by
    rw [get_kill]
    cases (get (kill t1 σ.fr) s).names t2 with
    | true => rfl
    | false => exact kill_clean t1 _ s
   exact h3.keepN c1 c2 hi'.old hcellι (fun d y h1 h2 h => hρ d y h1 h2 h)
  ·cases r with
   | bref u off =>
    simp only [okR,Bool.and_eq_true] at hrr
    cases Nat.eq_of_beq_eq_true hrr.1
    simp only [rnR,Nat.beq_refl]
    have hrho:=hres.ref_inv rfl
    refine .ref rfl (hres.ref_one rfl) ?_
    cases n2 with
    | box ex1 cs =>
     simp only [rho,show getT [(p,Ob.box (e.pinAt b) cells'),(q,o1'),(k,Ob.box ex1 cs)] k=_ from gk'] at hrho
     simp only [rho,G2,β22]
     exact hrho
    | _ => simp at hrr
   | _ => exact .pu (hres.flat hrr)
end
section
variable {P:Program} {n:Nat} {all:Array Oper} {o:Oper} {fr:List (Nat × D)} {rd:List (Nat × Ob)}
end
def D.look1 (T:List (Nat × Ob)):D→D
 | .sref t => match getT T t with | .rows _ _ sz rs => .list sz rs | _ => .junk
 | .v x => .v x
 | .list sz rs => .list sz rs
 | .fp c o => .fp c o
 | _ => .junk
def D.look1a (T:List (Nat × Ob)):D→D
 | .sref t => match getT T t with | .rows _ _ sz rs => .list sz rs | _ => .junk
 | d => d
def D.look2 (T:List (Nat × Ob)):D→D
 | .sref t => match getT T t with | .rows _ _ sz rs => .list sz rs | _ => .junk
 | .bref t off => match getT T t with | .box _ cells => .fp (cells.map (D.look1 T)) off | _ => .junk
 | .agg cells => .agg (cells.map (D.look1a T))
 | d => d
section
variable {P:Program} {n:Nat} {o:Oper} {σ:St}
theorem look2_RG {cx:Cx} {ι ι1:Nat→Nat→Prop} {β:Nat→Value} {T:List (Nat × Ob)} {w:World} {ρ':D→Value→Prop} (hi:Inv cx ι β T w) (hsub:∀ b o,ι b o→ι1 b o) (hin:∀ t b,getT T t ≠ .none→blockOf (β t)=some b→b < w.heap.size→∀ o,ι1 b o)
  (hρ:∀ d x,rho β T d x→ρ' d x) {d:D} {y:Value} (h:R ι w (rho β T) d y):R ι1 w ρ' (d.look2 T) y:=by
 have hs:∀ t y,R ι w (rho β T) (.sref t) y→Pu ι1 w (match getT T t with | .rows _ _ sz rs => .list sz rs | _ => .junk) y:=by
  intro t y h
  have hrho:=h.ref_inv rfl
  simp only [rho] at hrho
  split at hrho
  ·rename_i e ety sz rs hb
   subst hrho
   simp only [hb]
   obtain⟨xs,hown,hrs,hx1,hxR,_⟩:=rows_at (σ:=⟨[],T⟩) hi hb
   rcases hown.2 with ⟨h,h0⟩ |⟨gb,cap,cur,h,_,hgb,hnc,_⟩
   ·rw [h]
    have:rs=[]:=List.eq_nil_of_length_eq_zero h0
    subst this
    exact .listNil _ none 0 (fun _ => rfl)
   ·rw [h]
    refine .list sz rs gb 0 cap (fun k => (xs[k]?).getD undef) hnc hrs (fun k hk => ?_) (fun k d hd => ?_)
    ·have hk':xs[k]? =some (xs[k]'(by rw [hown.1]; exact hk)):=List.getElem?_eq_getElem _
     have hc:=hown.cells (g:=gb) (by rw [h]; rfl) _ _ hk'
     rw [Addr.add_lit] at hc
     exact⟨by rw [hc,hk']; rfl,by rw [hk']; exact hx1 _ (List.mem_of_getElem? hk'),hin t gb (by rw [hb]; exact fun h => by cases h) (by rw [h]; rfl) (Array.getElem?_eq_some_iff.1 hgb).1 _⟩
    ·have hk:k < xs.length:=by rw [hown.1,← flatten_len hrs]; exact (List.getElem?_eq_some_iff.1 hd).1
     have hk':xs[k]? =some (xs[k]'hk):=List.getElem?_eq_getElem _
     rw [hk']
     exact (hxR _ _ _ hd hk').mono hsub (fun _ _ _ => rfl)
  ·rename_i hb; simp only [hb]; exact .junk _
  ·rename_i hb; simp only [hb]; exact .junk _
  ·rename_i hb; simp only [hb]; exact .junk _
  ·exact hrho.elim
 cases d with
 | sref t => exact .pu (hs t y h)
 | bref t off =>
  simp only [D.look2]
  have hrho:=h.ref_inv rfl
  simp only [rho] at hrho
  split at hrho
  ·rename_i e cells hb
   obtain⟨b0,hβ0,rfl⟩:=hrho
   simp only [hb]
   obtain⟨b,c,ty,hβ,hh,hl,h1,hr,_⟩:=box_at (σ:=⟨[],T⟩) hi hb
   obtain rfl:b0=b:=by rw [hβ0] at hβ; simpa using hβ
   have hf:=Pu.fp (ι:=ι1) (w:=w) (cells.map (D.look1 T)) off b0 0 (fun k => (c[k]?).getD undef) (fun k hk => by
    have hk':c[k]? =some (c[k]'(by simp at hk; omega)):=Array.getElem?_eq_getElem _
    refine⟨?_,by rw [hk']; exact h1 _ _ hk',hin t b0 (by rw [hb]; exact fun h => by cases h) (by rw [hβ]; rfl) (Array.getElem?_eq_some_iff.1 hh).1 _⟩
    simp [World.cell?,hh,hk']) (fun k d hd => by
    rw [List.getElem?_map,Option.map_eq_some_iff] at hd
    obtain⟨d0,h0,rfl⟩:=hd
    have hk:k < cells.length:=(List.getElem?_eq_some_iff.1 h0).1
    have hk':c[k]? =some (c[k]'(by omega)):=Array.getElem?_eq_getElem _
    rw [hk']
    have hc:=hr k d0 _ h0 hk'
    cases d0 with
    | sref t => exact hs t _ hc
    | v x => exact (hc.flat1 rfl).mono hsub (fun _ _ _ => rfl)
    | list sz rs => exact (hc.flat1 rfl).mono hsub (fun _ _ _ => rfl)
    | fp c o => exact (hc.flat1 rfl).mono hsub (fun _ _ _ => rfl)
    | _ => exact .junk _)
   rw [Nat.zero_add] at hf
   exact .pu hf
  ·rename_i hb; simp only [hb]; exact .junk _
  ·exact hrho.elim
 | agg cells =>
  obtain⟨cs,rfl,hl,h1,hg⟩:=h.agg_inv
  refine .agg _ cs (by simp [hl]) h1 (fun k d y hd hy => ?_)
  rw [List.getElem?_map,Option.map_eq_some_iff] at hd
  obtain⟨d0,h0,rfl⟩:=hd
  have hc:=hg k d0 y h0 hy
  cases d0 with
  | sref t => exact .pu (hs t _ hc)
  | _ => exact hc.mono hsub (fun _ _ _ => rfl) hρ
 | _ => exact h.mono hsub (fun _ _ _ => rfl) hρ
theorem look2_R {cx:Cx} {ι:Nat→Nat→Prop} {β:Nat→Value} {T:List (Nat × Ob)} {w:World} (hi:Inv cx ι β T w) {d:D} {y:Value} (h:R ι w (rho β T) d y):R (fun b o => ι b o ∨ b < w.heap.size) w (rho β []) (d.look2 T) y:=
 look2_RG hi (fun _ _ h => .inl h) (fun _ _ _ _ hb _ => .inr hb) (rho_mono fun _ => .inl rfl) h
theorem GOk.callV2 {x:Operand} {args:Array Operand} {ts:Array TypeId} {f:Nat} {caps ds:List D} {r:D} (ho:o.op=.call { callee:=.value x,args:=args,argTypes:=ts }) (hx:σ.ev x=.clo f caps)
  (hc:callable P f=true) (hds:((args.toList.map σ.ev) ++ caps).map (D.look2 σ.T)=ds) (hf:Fn P f ds [] r []) (hr:r.plainB=true):GOk P o σ r:=by
 intro cx ι β a w next Q hi hev hk
 have hxx:=hev x
 rw [hx] at hxx
 obtain⟨vs,hv,hl,hg⟩:=hxx.clo_inv
 have hrun:(execOp a.eval o).run P w=.ok (.enter f (args.map a.eval ++ vs)) w:=by
  simp [execOp,ho,resolve,hv,Deferred.ofValue,invoke,run_callFunc hc]
 unfold Oper.wp
 rw [hrun,Oper.upon_enter]
 subst hds
 let ι1:Nat→Nat→Prop:=fun b o => ι b o ∨ b < w.heap.size
 have hW:∀ b,¬ Wof β ([]:List (Nat × Ob)) b:=fun b ⟨t,h,_⟩ => h rfl
 have hinv:Inv ⟨w,Wof β [],ι1,[]⟩ ι1 β [] w:=⟨hi.gl0 (fun _ => rfl),rfl,rfl,rfl,Nat.le_refl _,fun _ _ _ => rfl,fun _ _ h => h,fun _ _ h => .inl h,fun b o h => h.elim (hi.lt b o) id,fun _ => trivial,fun _ _ _ => .inl rfl,fun _ _ _ _ _ _ => .inl rfl⟩
 refine (hf w ι1 β _ hinv (by simp [hl]) (fun k d y hd hy => ?_)).mono ?_
 ·rw [List.getElem?_map,Option.map_eq_some_iff] at hd
  obtain⟨d0,hd,rfl⟩:=hd
  by_cases hk:k < args.size
  ·rw [List.getElem?_append_left (by simpa using hk),List.getElem?_map] at hd
   rw [Array.getElem?_append_left (by simpa using hk)] at hy
   simp [hk] at hd hy
   subst hd; subst hy
   exact look2_R hi (hev _)
  ·rw [List.getElem?_append_right (by simpa using Nat.le_of_not_lt hk)] at hd
   rw [Array.getElem?_append_right (by simpa using Nat.le_of_not_lt hk)] at hy
   simp at hd hy
   exact look2_R hi (hg _ _ _ hd hy)
 ·rintro e w' ⟨v,ι',β',rfl,hi',hres⟩
  have hi2:Inv cx ι β σ.T w':=hi.grow hi'.os hi'.tape hi'.output hi'.size (fun k hk => hi'.kept k hk (hW k)) (fun _ _ h => h) (fun _ _ h => .inl h)
  exact hk v w' ι hi2 (fun _ _ h => h) (fun b o hb => World.cell?_of_block (w:=w) (hi'.kept b (hi.lt b o hb) (hW b))) (plainB_R hres hr)
end
end Go.Proofs.Vx
