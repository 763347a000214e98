import Derived.Test.YtapbckofgcmgmaaGreatDoorVxPi
namespace Go.Proofs.Vx
open Go Go.RowKit
set_option linter.unusedSectionVars false
set_option linter.unusedVariables false
variable [Glo]
section
variable {P:Program} {n:Nat} {ops:Array Oper}
theorem draw_facts {its:List It2} {f0:List (Nat × D)} {T0:List (Nat × Ob)} {cert:List (List Nat)} (hh:hangOk ops.toList (its.map fun it => it.fr.map (·.1)) cert=true) (hh2:hang2 its cert=true) (hfr:fresh2 f0 T0 its cert=true) (hlo:loose T0 its cert)
  (hex:∀ (i:Nat) o,ops[i]? =some o→∃ it,its[i]? =some it) (hsize:its.length=ops.size) {listed:Array Bool} (hs:listed.size=ops.size) (hcl:∀ j,listed.getD j false=true→∀ i ∈ cert.getD j [],listed.getD i false=true)
  {i:Nat} (hi:i < ops.size) (hun:listed.getD i false=false) (hbefore:∀ k ∈ cert.getD i [],listed.getD k false=true) {o:Oper} {it:It2} (ho:ops[i]? =some o) (hit:its[i]? =some it)
  (hle:leFr it.fr (frl ops its f0 (fun _ => true) i)) (hrd:rdOk it.rd (tll its T0 (fun _ => true) i)) :
  leFr it.fr (frl ops its f0 (fun k => listed.getD k false) ops.size) ∧ rdOk it.rd (tll its T0 (fun k => listed.getD k false) ops.size) ∧ loOk it.lo (tll its T0 (fun k => listed.getD k false) ops.size) ∧
  (∀ j,(listed.setIfInBounds i true).getD j false=true→∀ k ∈ cert.getD j [],(listed.setIfInBounds i true).getD k false=true) ∧
  (it.go=true→Le ⟨frl ops its f0 (fun k => (listed.setIfInBounds i true).getD k false) ops.size,tll its T0 (fun k => (listed.setIfInBounds i true).getD k false) ops.size⟩ (eff it o ⟨frl ops its f0 (fun k => listed.getD k false) ops.size,tll its T0 (fun k => listed.getD k false) ops.size⟩)) ∧
  (it.go=false→it.wr=[]→Le ⟨frl ops its f0 (fun k => (listed.setIfInBounds i true).getD k false) ops.size,tll its T0 (fun k => (listed.setIfInBounds i true).getD k false) ops.size⟩ (St.put ⟨frl ops its f0 (fun k => listed.getD k false) ops.size,tll its T0 (fun k => listed.getD k false) ops.size⟩ o.dst (.v undef))):=by
  have inOps:∀ (i:Nat),i < ops.size→∃ o,ops[i]? =some o:=fun i h =>⟨_,Array.getElem?_eq_getElem h⟩
  have toL:∀ (i:Nat) o,ops[i]? =some o→ops.toList[i]? =some o:=fun i o h => by simpa using h
  have hrds:∀ (k:Nat) it,its[k]? =some it→(its.map fun it => it.fr.map (·.1))[k]? =some (it.fr.map (·.1)):=fun k it h => by simp [h]
  have order:∀ (k j:Nat) (p q:Oper) (a b:It2),ops[k]? =some p→ops[j]? =some q→its[k]? =some a→its[j]? =some b→k < j→hang p q (a.fr.map (·.1)) (b.fr.map (·.1))=true→k ∈ cert.getD j []:=by
   intro k j p q a b hp hq ha hb' hkj hhang
   have h1:=zipIdx_all hh j q (toL j q hq)
   have h2:=zipIdx_all h1 k p (toL k p hp)
   have ra:=hrds k a ha
   have rb:=hrds j b hb'
   simp only [List.getD,ra,rb,Option.getD_some,hhang,Bool.not_true,Bool.or_false,Bool.or_eq_true,Bool.not_eq_true'] at h2
   rcases h2 with h2 | h2
   ·have:Nat.blt k j=true:=by simpa [Nat.blt_eq] using hkj
    rw [this] at h2; cases h2
   ·exact inC_mem (by simpa [inC,List.getD] using h2)
  have orderT:∀ (k j:Nat) (a b:It2),its[k]? =some a→its[j]? =some b→k < j→hangT a b=true→k ∈ cert.getD j []:=by
   intro k j a b ha hb' hkj hhang
   have h1:=zipIdx_all hh2 j b hb'
   have h2:=zipIdx_all h1 k a ha
   simp only [hhang,Bool.not_true,Bool.or_false,Bool.or_eq_true,Bool.not_eq_true'] at h2
   rcases h2 with h2 | h2
   ·have:Nat.blt k j=true:=by simpa [Nat.blt_eq] using hkj
    rw [this] at h2; cases h2
   ·exact inC_mem h2
  have itsAt:∀ k,k < ops.size→∃ p b,ops[k]? =some p ∧ its[k]? =some b:=fun k hk => by
   obtain⟨p,hp⟩:=inOps k hk
   obtain⟨b,hb⟩:=hex k p hp
   exact⟨p,b,hp,hb⟩
  have fwAt:∀ k s,writes (fw ops its) k s→∀ p,ops[k]? =some p→p.dst=some s:=by
   rintro k s ⟨v,hv⟩ p hp
   unfold fw fw1 dstOf at hv
   rw [hp] at hv
   simp only [Option.bind_some] at hv
   cases hd:p.dst with
   | none => rw [hd] at hv; cases hv
   | some u =>
    rw [hd] at hv
    cases h2:its[k]? <;> rw [h2] at hv <;> simp only at hv <;> split at hv <;> first | (rename_i e; rw [e]) | cases hv
  have twAt:∀ k t,writes (tw its) k t→∀ b,its[k]? =some b→∃ ob,(t,ob) ∈ b.wr:=by
   rintro k t ⟨v,hv⟩ b hb'
   unfold tw wrs at hv
   rw [hb'] at hv
   exact⟨v,lkT_mem hv⟩
  have hangW:∀ {a b:It2} {t:Nat} {ob:Ob},(t,ob) ∈ a.wr→touch b t=true→hangT a b=true ∧ hangT b a=true:=by
   intro a b t ob hm ht
   have:a.wr.any (fun p => touch b p.1)=true:=List.any_eq_true.2 ⟨_,hm,ht⟩
   exact⟨by unfold hangT; rw [this]; rfl,by unfold hangT; rw [this,Bool.or_true]⟩
  have small:∀ k s,writes (fw ops its) k s→k < ops.size:=by
   rintro k s ⟨v,hv⟩
   unfold fw fw1 dstOf at hv
   rcases Nat.lt_or_ge k ops.size with h | h
   ·exact h
   ·rw [Array.getElem?_eq_none h] at hv; cases hv
  have smallT:∀ k t,writes (tw its) k t→k < ops.size:=by
   rintro k s ⟨v,hv⟩
   unfold tw wrs at hv
   rcases Nat.lt_or_ge k ops.size with h | h
   ·exact h
   ·rw [List.getElem?_eq_none (by omega)] at hv; cases hv
  have agree:∀ s ∈ it.fr.map (·.1),get (frl ops its f0 (fun k => listed.getD k false) ops.size) s=get (frl ops its f0 (fun _ => true) i) s:=by
   intro s hs'
   rw [frl_get,frl_get]
   refine Gw_agree hi hun (fun k hk hw => ?_) (fun k hk hkN hw => ?_)
   ·obtain⟨p,b,hp,hb'⟩:=itsAt k (by omega)
    exact hbefore k (order k i p o b it hp ho hb' hit hk (by
     simp only [hang,fwAt k s hw p hp,Bool.or_eq_true,List.any_eq_true]
     exact .inl (.inl ⟨s,hs',Nat.beq_refl s⟩)))
   ·obtain⟨p,b,hp,hb'⟩:=itsAt k hkN
    have:=order i k o p it b ho hp hit hb' hk (by
     simp only [hang,fwAt k s hw p hp,Bool.or_eq_true,List.any_eq_true]
     exact .inr ⟨s,hs',Nat.beq_refl s⟩)
    cases hL:listed.getD k false with
    | false => rfl
    | true => have:=hcl k hL i this; rw [hun] at this; cases this
  have agreeT:∀ p ∈ it.rd,getT (tll its T0 (fun k => listed.getD k false) ops.size) p.1=getT (tll its T0 (fun _ => true) i) p.1:=by
   intro p hp'
   have hto:touch it p.1=true:=by
    unfold touch; rw [Bool.or_eq_true]; left; exact List.any_eq_true.2 ⟨p,hp',Nat.beq_refl _⟩
   rw [tll_get,tll_get]
   refine Gw_agree hi hun (fun k hk hw => ?_) (fun k hk hkN hw => ?_)
   ·obtain⟨q,b,hq,hb'⟩:=itsAt k (by omega)
    obtain⟨ob,hob⟩:=twAt k _ hw b hb'
    exact hbefore k (orderT k i b it hb' hit hk (hangW hob hto).1)
   ·obtain⟨q,b,hq,hb'⟩:=itsAt k hkN
    obtain⟨ob,hob⟩:=twAt k _ hw b hb'
    have:=orderT i k it b hit hb' hk (hangW hob hto).2
    cases hL:listed.getD k false with
    | false => rfl
    | true => have:=hcl k hL i this; rw [hun] at this; cases this
  have nextL:(listed.setIfInBounds i true).getD i false=true:=by simp [Array.getD,hs,hi]
  have nextN:∀ k,k ≠ i→(listed.setIfInBounds i true).getD k false=listed.getD k false:=fun k hk => by simp [Ne.symm hk]
  have next:∀ s,get (frl ops its f0 (fun k => (listed.setIfInBounds i true).getD k false) ops.size) s=wAt (fw ops its i) s (get (frl ops its f0 (fun k => listed.getD k false) ops.size) s):=by
   intro s
   rw [frl_get,frl_get]
   refine Gw_next (W:=fw ops its) (V0:=get f0) (s:=s) hi hun nextL nextN (fun k hk hkN hL hw hwi => ?_)
   obtain⟨p,b,hp,hb'⟩:=itsAt k hkN
   have:=order i k o p it b ho hp hit hb' hk (by
    simp only [hang,fwAt k s hw p hp,fwAt i s hwi o ho,Bool.or_eq_true]
    exact .inl (.inr (Nat.beq_refl s)))
   have:=hcl _ hL i this
   rw [hun] at this; cases this
  have nextT:∀ t,getT (tll its T0 (fun k => (listed.setIfInBounds i true).getD k false) ops.size) t=wAt (tw its i) t (getT (tll its T0 (fun k => listed.getD k false) ops.size) t):=by
   intro t
   rw [tll_get,tll_get]
   refine Gw_next (W:=tw its) (V0:=getT T0) (s:=t) hi hun nextL nextN (fun k hk hkN hL hw hwi => ?_)
   obtain⟨p,b,hp,hb'⟩:=itsAt k hkN
   obtain⟨ob,hob⟩:=twAt k _ hw b hb'
   obtain⟨ob2,hob2⟩:=twAt i _ hwi it hit
   have:=orderT i k it b hit hb' hk (hangW hob (by unfold touch; rw [Bool.or_eq_true]; right; exact List.any_eq_true.2 ⟨_,hob2,Nat.beq_refl _⟩)).2
   have:=hcl _ hL i this
   rw [hun] at this; cases this
  have hcl':∀ j,(listed.setIfInBounds i true).getD j false=true→∀ k ∈ cert.getD j [],(listed.setIfInBounds i true).getD k false=true:=by
   have keep:∀ k,listed.getD k false=true→(listed.setIfInBounds i true).getD k false=true:=fun k hk => by
    by_cases h:k=i
    ·subst h; exact nextL
    ·rw [nextN k h]; exact hk
   intro j hj k hk
   by_cases h:j=i
   ·subst h; exact keep k (hbefore k hk)
   ·exact keep k (hcl j (by rw [nextN j h] at hj; exact hj) k hk)
  have hleL:leFr it.fr (frl ops its f0 (fun k => listed.getD k false) ops.size):=leFr_of hle agree
  have hrdL:rdOk it.rd (tll its T0 (fun k => listed.getD k false) ops.size):=rdOk_of fun p hp => (agreeT p hp).trans (rdOk_mem hrd p hp)
  have hloL:loOk it.lo (tll its T0 (fun k => listed.getD k false) ops.size):=loOk_of fun p hp => by
   obtain⟨h0,hw⟩:=hlo i it hit p hp
   rw [tll_get]
   have:∀ k,k ≤ ops.size→Gw (tw its) (getT T0) (fun k => listed.getD k false) k p.1 ∈ p.2:=by
    intro k
    induction k with
    | zero => intro _; exact h0
    | succ k ihk =>
     intro hk
     simp only [Gw]
     cases hL:listed.getD k false with
     | false => exact ihk (by omega)
     | true =>
      simp only [cond_true]
      cases hq:tw its k p.1 with
      | none => exact ihk (by omega)
      | some ob =>
       obtain⟨q,b,hq',hb'⟩:=itsAt k (by omega)
       obtain⟨ob',hob⟩:=twAt k _ ⟨ob,hq⟩ b hb'
       have hmem:(p.1,ob) ∈ b.wr:=by
        unfold tw wrs at hq; rw [hb'] at hq; exact lkT_mem hq
       rcases hw k b hb' ob hmem with h | h | h
       ·exact h
       ·have:=hcl k hL i (inC_mem h); rw [hun] at this; cases this
       ·subst h; rw [hun] at hL; cases hL
   exact this ops.size (Nat.le_refl _)
  have hfwi:fw1 ops its i=o.dst.map fun s => (s,it.dd):=by
   unfold fw1 dstOf; rw [ho,hit]; cases hd:o.dst <;> simp [hd]
  have htwi:wrs its i=it.wr:=by unfold wrs; rw [hit]
  have putF_get:∀ (σ:St) (d:D) s,get (St.put σ o.dst d).fr s=match o.dst with | some u => if u=s then d else get σ.fr s | none => get σ.fr s:=fun σ d s => by
   unfold St.put; cases o.dst with
   | none => rfl
   | some u => exact get_put σ.fr σ.T u d s
  have putF_T:∀ (σ:St) (d:D),(St.put σ o.dst d).T=σ.T:=fun σ d => by unfold St.put; cases o.dst <;> rfl
  have clean:it.al=true→∀ t ob r,it.wr=(t,ob) :: r→(∀ s,(get (frl ops its f0 (fun k => listed.getD k false) ops.size) s).names t=false) ∧ ∀ u,obClean t (getT (tll its T0 (fun k => listed.getD k false) ops.size) u)=true:=by
   intro hal t ob r hwr
   have h1:=zipIdx_all hfr i it hit
   simp only [hal,Bool.not_true,Bool.false_or,hwr,Bool.and_eq_true] at h1
   obtain⟨⟨hf,hT⟩,hk⟩:=h1
   have each:∀ k b,its[k]? =some b→listed.getD k false=true→b.d.names t=false ∧ ∀ q ∈ b.wr,obClean t q.2=true:=by
    intro k b hb' hL
    have h2:=zipIdx_all hk k b hb'
    simp only [Bool.or_eq_true] at h2
    rcases h2 with (h2 | h2) | h2
    ·have:=Nat.eq_of_beq_eq_true h2; subst this; rw [hun] at hL; cases hL
    ·have:=hcl k hL i (inC_mem h2); rw [hun] at this; cases this
    ·simp only [Bool.and_eq_true,Bool.not_eq_true'] at h2
     exact⟨h2.1,fun q hq => List.all_eq_true.1 h2.2 q hq⟩
   constructor
   ·have:∀ k,k ≤ ops.size→∀ s,(get (frl ops its f0 (fun k => listed.getD k false) k) s).names t=false:=by
     intro k
     induction k with
     | zero =>
      intro _ s
      show (get f0 s).names t=false
      clear hex agree next agreeT nextT hleL hrdL each hle hfr hloL
      induction f0 with
      | nil => rfl
      | cons p r ihr =>
       simp only [List.all_cons,Bool.and_eq_true,Bool.not_eq_true'] at hf
       rw [show get (p :: r) s=if p.1=s then p.2 else get r s from get_cons p.1 p.2 r s]
       split
       ·exact hf.1
       ·exact ihr hf.2
     | succ k ihk =>
      intro hk s
      have ihk:=ihk (by omega)
      simp only [frl]
      cases hL:listed.getD k false with
      | false => exact ihk s
      | true =>
       simp only [cond_true]
       obtain⟨p,b,hp,hb'⟩:=itsAt k (by omega)
       have e:fw1 ops its k=p.dst.map fun s => (s,b.dd):=by unfold fw1 dstOf; rw [hp,hb']; cases hd:p.dst <;> simp [hd]
       rw [e]
       cases p.dst with
       | none => exact ihk s
       | some u =>
        simp only [Option.map_some]
        rw [get_cons]
        split
        ·exact names_dd (each k b hb' hL).1
        ·exact ihk s
    exact this ops.size (Nat.le_refl _)
   ·have:∀ k,k ≤ ops.size→∀ u,obClean t (getT (tll its T0 (fun k => listed.getD k false) k) u)=true:=by
     intro k
     induction k with
     | zero =>
      intro _ u
      show obClean t (getT T0 u)=true
      clear hex agree next agreeT nextT hleL hrdL each hrd hfr hlo hloL
      induction T0 with
      | nil => rfl
      | cons p r ihr =>
       simp only [List.all_cons,Bool.and_eq_true] at hT
       rw [show getT (p :: r) u=if p.1=u then p.2 else getT r u from getT_cons p.1 p.2 r u]
       split
       ·exact hT.1
       ·exact ihr hT.2
     | succ k ihk =>
      intro hk u
      have ihk:=ihk (by omega)
      simp only [tll]
      cases hL:listed.getD k false with
      | false => exact ihk u
      | true =>
       simp only [cond_true]
       obtain⟨p,b,hp,hb'⟩:=itsAt k (by omega)
       have e:wrs its k=b.wr:=by unfold wrs; rw [hb']
       rw [e]
       simp only [putT]
       rw [getT_app]
       cases hw:lkT b.wr u with
       | none => exact ihk u
       | some q => exact (each k b hb' hL).2 _ (lkT_mem hw)
    exact this ops.size (Nat.le_refl _)
  refine⟨hleL,hrdL,hloL,hcl',fun hgo' =>⟨fun s => DLe.of_eq ?_,fun t => ?_⟩,fun hgo' hng =>⟨fun s => DLe.of_eq ?_,fun t => ?_⟩⟩
  ·rw [next s]
   have hdd:it.dd=it.d:=by unfold It2.dd; rw [hgo']; rfl
   have hd:get (eff it o ⟨frl ops its f0 (fun k => listed.getD k false) ops.size,tll its T0 (fun k => listed.getD k false) ops.size⟩).fr s=match o.dst with | some u => if u=s then it.d else get (frl ops its f0 (fun k => listed.getD k false) ops.size) s | none => get (frl ops its f0 (fun k => listed.getD k false) ops.size) s:=by
    unfold eff
    rw [putF_get]
    cases hw:it.wr with
    | nil => rfl
    | cons p r =>
     obtain⟨t,ob⟩:=p
     simp only
     cases hal:it.al with
     | false => rfl
     | true =>
      simp only [cond_true]
      rw [get_kill,(clean hal t ob r hw).1 s]
   rw [hd]
   unfold fw wAt
   rw [hfwi,hdd]
   cases o.dst with
   | none => rfl
   | some u =>
    simp only [Option.map_some]
    by_cases h:u=s
    ·simp only [if_pos h]
    ·simp only [if_neg h]
  ·rw [nextT t]
   unfold eff wAt tw
   rw [putF_T,htwi]
   cases hw:it.wr with
   | nil => exact .same _
   | cons p r =>
    obtain⟨u,ob⟩:=p
    simp only
    cases hal:it.al with
    | false =>
     simp only [cond_false]
     have:=getT_app ((u,ob) :: r) (tll its T0 (fun k => listed.getD k false) ops.size) t
     rw [List.cons_append] at this
     rw [this]
     cases lkT ((u,ob) :: r) t with
     | some q => exact .same _
     | none => exact .same _
    | true =>
     simp only [cond_true]
     have:=getT_app ((u,ob) :: r) (killT u (tll its T0 (fun k => listed.getD k false) ops.size)) t
     rw [List.cons_append] at this
     rw [this]
     cases lkT ((u,ob) :: r) t with
     | some q => exact .same _
     | none =>
      have hcln:=(clean hal u ob r hw).2 t
      simp only
      rw [getT_kill]
      generalize getT (tll its T0 (fun k => listed.getD k false) ops.size) t=q at hcln ⊢
      cases q with
      | box e cells =>
       have:(cells.map fun d => match d.names1 u with | true => D.junk | false => d)=cells:=by
        conv => rhs; rw [← List.map_id cells]
        refine List.map_congr_left fun d hd => ?_
        simp only [obClean,List.all_eq_true,Bool.not_eq_true'] at hcln
        rw [hcln d hd]; rfl
       exact (congrArg (fun c => ObLe (Ob.box e cells) (Ob.box e c)) this).mpr (.same _)
      | _ => exact .same _
  ·have hdd:it.dd=.v undef:=by unfold It2.dd; rw [hgo']; rfl
   rw [next s,putF_get]
   unfold fw wAt
   rw [hfwi,hdd]
   cases o.dst with
   | none => rfl
   | some u =>
    simp only [Option.map_some]
    by_cases h:u=s
    ·simp only [if_pos h]
    ·simp only [if_neg h]
  ·rw [nextT t,putF_T]; unfold wAt tw; rw [htwi,hng]; exact .same _
def ItX {A:Type} (P:Program) (n:Nat) (all:Array Oper) (its:A→List It2) (c:Nat) (s:A) (i:Nat) (o:Oper) (it:It2):Prop:=
 dstB n o.dst=true ∧ gd2 all o it ∧ (it.go=true→∀ σ,leFr it.fr σ.fr→rdOk it.rd σ.T→loOk it.lo σ.T→OpX P n o σ fun σ' => ∃ s' it',(its s')[i]? =some it' ∧ it'.go=true ∧ (i ≠ c→s'=s) ∧ σ'=eff it' o σ) ∧ (it.go=false→it.wr=[])
theorem ItOk.x {A:Type} {all:Array Oper} {its:A→List It2} {c:Nat} {s:A} {i:Nat} {o:Oper} {it:It2} (h:ItOk P n all o it) (hi:(its s)[i]? =some it):ItX P n all its c s i o it:=
 ⟨h.1,h.2.1,fun hgo σ h1 h2 h3 cx a w K Q hs hk => h.2.2.1 hgo σ h1 h2 h3 cx a w K Q hs fun a' w' hs' => hk _ a' w' ⟨s,it,hi,hgo,fun _ => rfl,rfl⟩ hs',h.2.2.2⟩
theorem frl_dep {A:Type} {its:A→List It2} {f0:List (Nat × D)} {T0:List (Nat × Ob)} {L:Nat→Bool} {s s':A} (h:∀ k,L k=true→(its s)[k]? =(its s')[k]?):∀ k,frl ops (its s) f0 L k=frl ops (its s') f0 L k ∧ tll (its s) T0 L k=tll (its s') T0 L k:=by
 intro k
 induction k with
 | zero => exact⟨rfl,rfl⟩
 | succ k ih =>
  simp only [frl,tll]
  cases hL:L k with
  | false => exact ih
  | true =>
   simp only [cond_true,fw1,wrs,h k hL,ih.1,ih.2]
   exact⟨trivial,trivial⟩
theorem wp_anyX {A:Type} {its:A→List It2} {c:Nat} {f0:List (Nat × D)} {T0:List (Nat × Ob)} {cert:List (List Nat)} (hc:certOk ops.toList cert=true) (hh:∀ s,hangOk ops.toList ((its s).map fun it => it.fr.map (·.1)) cert=true) (hh2:∀ s,hang2 (its s) cert=true) (hfr:∀ s,fresh2 f0 T0 (its s) cert=true) (hlo:∀ s,loose T0 (its s) cert)
  (hdep:∀ s s' k,k ≠ c→inC cert k c=false→(its s)[k]? =(its s')[k]?)
  (hops:∀ (s:A) (i:Nat) o,ops[i]? =some o→∃ it,(its s)[i]? =some it ∧ leFr it.fr (frl ops (its s) f0 (fun _ => true) i) ∧ rdOk it.rd (tll (its s) T0 (fun _ => true) i) ∧ ItX P n ops its c s i o it) (hsize:∀ s,(its s).length=ops.size)
  {cx:Cx} {Q:Exit→Act→World→Prop}
  (hQ:∀ s a w,Sim cx n ⟨frl ops (its s) f0 (fun _ => true) ops.size,tll (its s) T0 (fun _ => true) ops.size⟩ a w→Q .normal a w) :
  ∀ (fuel:Nat) (listed:Array Bool) (s:A) (a:Act) (w:World),listed.size=ops.size→listed.toList.countP (fun b => !b) ≤ fuel→(∀ j,listed.getD j false=true→∀ i ∈ cert.getD j [],listed.getD i false=true)→
   Sim cx n ⟨frl ops (its s) f0 (fun k => listed.getD k false) ops.size,tll (its s) T0 (fun k => listed.getD k false) ops.size⟩ a w→wpAny P .any ops Q fuel listed a w:=by
 simp only [certOk,Bool.and_eq_true] at hc
 obtain⟨hback,hcert⟩:=hc
 have getD_eq:∀ (l:Array Bool) (i:Nat),i < l.size→l.getD i true=l.getD i false:=fun l i h => by simp [Array.getD,h]
 have inOps:∀ (i:Nat),i < ops.size→∃ o,ops[i]? =some o:=fun i h =>⟨_,Array.getElem?_eq_getElem h⟩
 have toL:∀ (i:Nat) o,ops[i]? =some o→ops.toList[i]? =some o:=fun i o h => by simpa using h
 have full:∀ listed:Array Bool,listed.size=ops.size→Region.ready .any ops listed=[]→∀ i,i < ops.size→listed.getD i false=true:=by
  intro listed hs hr i
  induction i using Nat.strongRecOn with
  | _ i ih =>
   intro hi
   cases hb:listed.getD i false with
   | true => rfl
   | false =>
    exfalso
    obtain⟨o,ho⟩:=inOps i hi
    have:i ∈ Region.ready .any ops listed:=by
     simp only [Region.ready,List.mem_filter,List.mem_range]
     refine⟨hi,?_⟩
     rw [getD_eq _ _ (by omega),hb,ho]
     simp only [Bool.not_false,Bool.true_and,Option.map_some,Option.getD_some]
     rw [Array.all_eq_true']
     intro e he
     have h2:=zipIdx_all hback i o (toL i o ho)
     simp only [List.all_eq_true] at h2
     have h3:=h2 e (by simpa using he)
     simp only [Bool.or_eq_true] at h3 ⊢
     rcases h3 with h3 | h3
     ·exact .inl h3
     ·have hlt:e.on < i:=by simpa [Nat.blt_eq] using h3
      exact .inr (ih e.on hlt (by omega))
    rw [hr] at this
    cases this
 have done:∀ (listed:Array Bool) (s:A) (a:Act) (w:World),listed.size=ops.size→Region.ready .any ops listed=[]→
   Sim cx n ⟨frl ops (its s) f0 (fun k => listed.getD k false) ops.size,tll (its s) T0 (fun k => listed.getD k false) ops.size⟩ a w→Q .normal a w:=by
  intro listed s a w hs hr hsim
  have hall:=full listed hs hr
  have e1:∀ k,k ≤ ops.size→frl ops (its s) f0 (fun k => listed.getD k false) k=frl ops (its s) f0 (fun _ => true) k ∧ tll (its s) T0 (fun k => listed.getD k false) k=tll (its s) T0 (fun _ => true) k:=by
   intro k
   induction k with
   | zero => intro _; exact⟨rfl,rfl⟩
   | succ k ih => intro hk; simp only [frl,tll,hall k (by omega),ih (by omega)]; exact⟨trivial,trivial⟩
  obtain⟨h1,h2⟩:=e1 ops.size (Nat.le_refl _)
  rw [h1,h2] at hsim
  exact hQ s a w hsim
 intro fuel
 induction fuel with
 | zero =>
  intro listed s a w hs hcnt hcl hsim
  have hr:Region.ready .any ops listed=[]:=by
   rw [List.eq_nil_iff_forall_not_mem]
   intro i hi
   simp only [Region.ready,List.mem_filter,List.mem_range] at hi
   obtain⟨hi,hb⟩:=hi
   simp only [Bool.and_eq_true] at hb
   have h1:=hb.1
   have hlt:i < listed.toList.length:=by simp; omega
   have h0:listed.toList.countP (fun b => !b)=0:=by omega
   rw [List.countP_eq_zero] at h0
   have:=h0 (listed.toList[i]) (List.getElem_mem hlt)
   simp [Array.getD,show i < listed.size by omega] at h1 this
   rw [this] at h1; cases h1
  exact⟨hr,done listed s a w hs hr hsim⟩
 | succ fuel ih =>
  intro listed s a w hs hcnt hcl hsim
  refine⟨fun hr => done listed s a w hs hr hsim,fun i hi => ?_⟩
  simp only [Region.ready,List.mem_filter,List.mem_range] at hi
  obtain⟨hi,hb⟩:=hi
  simp only [Bool.and_eq_true] at hb
  obtain⟨hun,hpre⟩:=hb
  rw [getD_eq _ _ (by omega)] at hun
  have hun:listed.getD i false=false:=by simpa using hun
  obtain⟨o,ho⟩:=inOps i hi
  obtain⟨it,hit,hle,hrd,hdst,hgd,hgo,hng⟩:=hops s i o ho
  rw [ho] at hpre
  simp only [Option.map_some,Option.getD_some,Array.all_eq_true'] at hpre
  have hbefore:∀ k ∈ cert.getD i [],listed.getD k false=true:=by
   intro k hk
   have h1:=zipIdx_all hcert i o (toL i o ho)
   simp only [List.all_eq_true] at h1
   have h2:=h1 k hk
   simp only [List.any_eq_true,Bool.and_eq_true,Bool.or_eq_true] at h2
   obtain⟨e,he,hbe,h3⟩:=h2
   have h4:=hpre e (by simpa using he)
   simp only [Bool.or_eq_true] at h4
   have h5:listed.getD e.on false=true:=by
    rcases h4 with h4 | h4
    ·simp only [binds] at hbe; rw [hbe] at h4; cases h4
    ·exact h4
   rcases h3 with h3 | h3
   ·exact Nat.eq_of_beq_eq_true h3 ▸ h5
   ·obtain⟨x,hx,hx2⟩:=h3; exact hcl e.on h5 k (Nat.eq_of_beq_eq_true hx2 ▸ hx)
  have hexs:∀ s,∀ (i:Nat) o,ops[i]? =some o→∃ it,(its s)[i]? =some it:=fun s i o h => let ⟨it,h1,_⟩:=hops s i o h; ⟨it,h1⟩
  obtain⟨hleL,hrdL,hloL,hcl',_,hF⟩:=draw_facts (hh s) (hh2 s) (hfr s) (hlo s) (hexs s) (hsize s) hs hcl hi hun hbefore ho hit hle hrd
  have hcnt':(listed.setIfInBounds i true).toList.countP (fun b => !b) ≤ fuel:=by
   have hlt:i < listed.toList.length:=by simp; omega
   have hv:listed.toList[i]=false:=by simpa [Array.getD,show i < listed.size by omega] using hun
   rw [Array.toList_setIfInBounds,List.countP_set hlt,hv]
   have:0 < listed.toList.countP (fun b => !b):=List.countP_pos_iff.2 ⟨false,hv ▸ List.getElem_mem hlt,rfl⟩
   simp only [Bool.not_false,Bool.not_true,if_true,Bool.false_eq_true,if_false]; omega
  unfold wpOp
  rw [ho]
  simp only
  have hwant:Region.wanted o (yielded ops a.tmps)=it.go:=by
   unfold gd2 at hgd
   cases hg:o.guard with
   | none => rw [hg] at hgd; simp only at hgd; rw [hgd]; simp [Region.wanted,hg]
   | some jw =>
    obtain⟨j,want⟩:=jw
    rw [hg] at hgd
    obtain⟨t,h1,h2⟩:=hgd
    have ht:t < n:=by
     cases hj:ops[j]? with
     | none => rw [hj] at h1; cases h1
     | some q =>
      obtain⟨_,_,_,_,hq,_⟩:=hops s j q hj
      rw [hj] at h1
      exact dstB_lt hq t h1
    have hsim':Sim cx n ⟨it.fr,tll (its s) T0 (fun k => listed.getD k false) ops.size⟩ a w:=hsim.le (Le.fr hleL)
    exact sim_wanted hsim' hg h1 ht h2
  rw [hwant]
  cases hgo':it.go with
  | true =>
   simp only [if_true]
   refine .inl (hgo hgo' ⟨frl ops (its s) f0 (fun k => listed.getD k false) ops.size,tll (its s) T0 (fun k => listed.getD k false) ops.size⟩ hleL hrdL hloL cx a w _ Q hsim fun σ' a' w' hσ hs' => ?_)
   obtain⟨s',it',hit',hgo2,hsame,rfl⟩:=hσ
   obtain⟨it2,hit2,hle2,hrd2,_⟩:=hops s' i o ho
   rw [hit'] at hit2; cases hit2
   have heq:frl ops (its s) f0 (fun k => listed.getD k false) ops.size=frl ops (its s') f0 (fun k => listed.getD k false) ops.size ∧ tll (its s) T0 (fun k => listed.getD k false) ops.size=tll (its s') T0 (fun k => listed.getD k false) ops.size:=by
    refine frl_dep (fun k hk => ?_) ops.size
    by_cases hic:i=c
    ·subst hic
     refine hdep s s' k (fun h => ?_) ?_
     ·subst h; rw [hun] at hk; cases hk
     ·cases hb:inC cert k i with
      | false => rfl
      | true => have:=hcl k hk i (inC_mem hb); rw [hun] at this; cases this
    ·rw [hsame hic]
   obtain⟨_,_,_,_,hT,_⟩:=draw_facts (hh s') (hh2 s') (hfr s') (hlo s') (hexs s') (hsize s') hs hcl hi hun hbefore ho hit' hle2 hrd2
   rw [heq.1,heq.2] at hs'
   exact ih _ s' _ _ (by simpa using hs) hcnt' hcl' (hs'.le (hT hgo2))
  | false =>
   simp only [Bool.false_eq_true,if_false]
   have hs':Sim cx n (St.put ⟨frl ops (its s) f0 (fun k => listed.getD k false) ops.size,tll (its s) T0 (fun k => listed.getD k false) ops.size⟩ o.dst (.v undef)) (a.put o.dst undef) w:=hsim.put (dstB_lt hdst) fun _ _ _ _ => .v _
   exact ih _ s _ _ (by simpa using hs) hcnt' hcl' (hs'.le (hF hgo' (hng hgo')))
def TxtG (G:Nat→Oper→It2→Prop):Nat→List Oper→List It2→List (Nat × D)→List (Nat × Ob)→List (Nat × D)→List (Nat × Ob)→Prop
 | _,[],[],f,T,f',T' => f=f' ∧ T=T'
 | k,o :: os,it :: its,f,T,f',T' => leFr it.fr f ∧ rdOk it.rd T ∧ G k o it ∧ TxtG G (k + 1) os its (putF f o.dst it.dd) (putT T it.wr) f' T'
 | _,_,_,_,_,_,_ => False
theorem TxtG.at {G:Nat→Oper→It2→Prop} {all:Array Oper} {full:List It2} {f0:List (Nat × D)} {T0:List (Nat × Ob)}:∀ {os:List Oper} {its:List It2} {f f':List (Nat × D)} {T T':List (Nat × Ob)} (k:Nat),TxtG G k os its f T f' T'→(∀ i,os[i]? =all[k + i]?)→(∀ i,its[i]? =full[k + i]?)→
  f=frl all full f0 (fun _ => true) k→T=tll full T0 (fun _ => true) k→
  (∀ i o,os[i]? =some o→∃ it,full[k + i]? =some it ∧ leFr it.fr (frl all full f0 (fun _ => true) (k + i)) ∧ rdOk it.rd (tll full T0 (fun _ => true) (k + i)) ∧ G (k + i) o it) ∧
   f'=frl all full f0 (fun _ => true) (k + os.length) ∧ T'=tll full T0 (fun _ => true) (k + os.length)
 | [],[],f,f',T,T',k,h,_,_,hf,hT => by obtain⟨rfl,rfl⟩:=h; exact⟨fun i o h => by simp at h,hf,hT⟩
 | o :: os,it :: its,f,f',T,T',k,h,ho,hi,hf,hT => by
  obtain⟨h2,h3,h4,h5⟩:=h
  have e0:all[k]? =some o:=by have:=ho 0; simpa using this.symm
  have i0:full[k]? =some it:=by have:=hi 0; simpa using this.symm
  have hf1:putF f o.dst it.dd=frl all full f0 (fun _ => true) (k + 1):=by
   simp only [frl,cond_true,fw1,dstOf,e0,i0,Option.bind_some,hf]
   cases o.dst <;> rfl
  have hT1:putT T it.wr=tll full T0 (fun _ => true) (k + 1):=by
   simp only [tll,cond_true,wrs,i0,hT]
  obtain⟨g1,g2,g3⟩:=TxtG.at (k + 1) h5 (fun i => by have:=ho (i + 1); simp only [List.getElem?_cons_succ] at this; rw [this]; congr 1; omega) (fun i => by have:=hi (i + 1); simp only [List.getElem?_cons_succ] at this; rw [this]; congr 1; omega) hf1 hT1
  refine⟨fun i o' ho' => ?_,?_,?_⟩
  ·cases i with
   | zero => cases ho'; exact⟨it,i0,hf ▸ h2,hT ▸ h3,h4⟩
   | succ i =>
    have:=g1 i o' (by simpa using ho')
    rw [show k + (i + 1)=k + 1 + i by omega]; exact this
  ·rw [g2]; congr 1; simp; omega
  ·rw [g3]; congr 1; simp; omega
 | [],_ :: _,_,_,_,_,_,h,_,_,_,_ => h.elim
 | _ :: _,[],_,_,_,_,_,h,_,_,_,_ => h.elim
def TxtEX (G:Nat→Oper→It2→Prop) (k:Nat) (os:List Oper) (its:List It2) (f:List (Nat × D)) (T:List (Nat × Ob)) (σ':St):Prop:=∃ f' T',TxtG G k os its f T f' T' ∧ SLe σ' ⟨f',T'⟩
theorem TxtEX.done {G:Nat→Oper→It2→Prop} {k:Nat} {f:List (Nat × D)} {T:List (Nat × Ob)} {σ':St} (h:Le σ' ⟨f,T⟩):TxtEX G k [] [] f T σ':=⟨f,T,⟨rfl,rfl⟩,h.s⟩
theorem TxtEX.doneS {G:Nat→Oper→It2→Prop} {k:Nat} {f:List (Nat × D)} {T:List (Nat × Ob)} {σ':St} (h:SLe σ' ⟨f,T⟩):TxtEX G k [] [] f T σ':=⟨f,T,⟨rfl,rfl⟩,h⟩
theorem TxtEX.cons {A:Type} {all:Array Oper} {its0:A→List It2} {c:Nat} {s:A} {k:Nat} {o:Oper} {os:List Oper} {it:It2} {its:List It2} {f:List (Nat × D)} {T:List (Nat × Ob)} {σ':St} (hl:leFr it.fr f) (hr:rdOk it.rd T) (hi:(its0 s)[k]? =some it) (h:ItOk P n all o it) (k1:TxtEX (ItX P n all its0 c s) (k + 1) os its (putF f o.dst it.dd) (putT T it.wr) σ'):TxtEX (ItX P n all its0 c s) k (o :: os) (it :: its) f T σ':=
 let ⟨f',T',t,l⟩:=k1; ⟨f',T',⟨hl,hr,h.x hi,t⟩,l⟩
theorem TxtEX.consX {A:Type} {all:Array Oper} {its0:A→List It2} {s:A} {k:Nat} {o:Oper} {os:List Oper} {it:It2} {its:List It2} {f:List (Nat × D)} {T:List (Nat × Ob)} {σ':St} (hl:leFr it.fr f) (hr:rdOk it.rd T) (h:ItX P n all its0 k s k o it) (k1:TxtEX (ItX P n all its0 k s) (k + 1) os its (putF f o.dst it.dd) (putT T it.wr) σ'):TxtEX (ItX P n all its0 k s) k (o :: os) (it :: its) f T σ':=
 let ⟨f',T',t,l⟩:=k1; ⟨f',T',⟨hl,hr,h,t⟩,l⟩
theorem Ok.drawX {A:Type} {id:Nat} {ops:Array Oper} {fr:List (Nat × D)} {T:List (Nat × Ob)} {Φ:Exit→St→Prop} {σ':A→St} (s0:A) (its:A→List It2) (c:Nat) (cert:List (List Nat)) (hm:P.follows .mixedOrders=true)
  (hc:∀ s,((certOk ops.toList cert && hangOk ops.toList ((its s).map fun it => it.fr.map (·.1)) cert) && (hang2 (its s) cert && fresh2 fr T (its s) cert) && Nat.beq (its s).length ops.size && (its s).all fun it => it.lo.isEmpty)=true)
  (hdep:∀ s s' k,k ≠ c→inC cert k c=false→(its s)[k]? =(its s')[k]?)
  (ht:∀ s,TxtEX (ItX P n ops its c s) 0 ops.toList (its s) fr T (σ' s)) (hk:∀ s,Φ .normal (σ' s)):Ok P n (.region id ops true) ⟨fr,T⟩ Φ:=by
 intro cx a w Q hs hq
 have hc':=fun s => hc s
 simp only [Bool.and_eq_true] at hc'
 let F':=fun s => (ht s).choose
 let T':=fun s => (ht s).choose_spec.choose
 have htx:∀ s,TxtG (ItX P n ops its c s) 0 ops.toList (its s) fr T (F' s) (T' s):=fun s => (ht s).choose_spec.choose_spec.1
 have hle:∀ s,SLe (σ' s) ⟨F' s,T' s⟩:=fun s => (ht s).choose_spec.choose_spec.2
 have hat:=fun s => TxtG.at (full:=its s) (all:=ops) (f0:=fr) (T0:=T) 0 (htx s) (fun i => by simp) (fun i => by simp) rfl rfl
 obtain⟨⟨ι,β,hi,hr⟩,hsz,hdf⟩:=hs
 have hi':Inv cx ι β T { w with drawn:=w.drawn + 1 }:=hi.grow rfl rfl rfl (Nat.le_refl _) (fun _ _ => rfl) (fun _ _ h => h) (fun _ _ h => .inl h)
 have hs':Sim cx n ⟨fr,T⟩ a { w with drawn:=w.drawn + 1 }:=⟨⟨ι,β,hi',fun s => (hr s).mono (fun _ _ h => h) (fun _ _ _ => rfl) (fun _ _ h => h)⟩,hsz,hdf⟩
 have start:∀ k,frl ops (its s0) fr (fun k => (Array.replicate ops.size false).getD k false) k=fr ∧ tll (its s0) T (fun k => (Array.replicate ops.size false).getD k false) k=T:=by
  intro k
  induction k with
  | zero => exact⟨rfl,rfl⟩
  | succ k ih => simp only [frl,tll,rep_false,cond_false] at ih ⊢; exact ih
 have hN:ops.toList.length=ops.size:=by simp
 refine wp_region_any hm (wp_anyX (its:=its) (c:=c) (f0:=fr) (T0:=T) (hc' s0).1.1.1.1 (fun s => (hc' s).1.1.1.2) (fun s => (hc' s).1.1.2.1) (fun s => (hc' s).1.1.2.2) (fun s => loose_nil (hc' s).2) hdep (fun s i o ho => by have:=(hat s).1 i o (by simpa using ho); simpa using this) (fun s => Nat.eq_of_beq_eq_true (hc' s).1.2) (fun s a w hs => ?_) ops.size (Array.replicate ops.size false) s0 a _ (by simp) (by simp [List.countP_replicate])
  (fun j hj => absurd hj (by rw [rep_false]; simp)) (by rw [(start ops.size).1,(start ops.size).2]; exact hs'))
 refine hq .normal (σ' s) a w (hk s) (hle s _ _ _ _ ?_)
 rw [(hat s).2.1,(hat s).2.2,Nat.zero_add,hN]
 exact hs
end
theorem FnX.of_okR {P:Program} {f:Nat} {fn:Func} {c:Code} {ds:List D} {T:List (Nat × Ob)} {Ψ:D→List (Nat × Ob)→Prop} (hf:P.funcs[f]? =some fn) (hb:fn.body=some c)
  (hn:ds.length ≤ fn.ntmps)
  (h:Ok P fn.ntmps c ⟨params ds 0,T⟩ fun e σ => (e=.ret ∨ e=.normal) ∧ ∃ r T',Ψ r T' ∧ (∃ rs,ResL P σ fn.results.toList rs ∧ tupOf rs=r) ∧ leT T' σ.T):FnX P f ds T Ψ:=by
 intro w ι β vs hi hl hr
 refine calls_of_wp hf hb (h ⟨w,Wof β T,ι,[]⟩ _ w _ ⟨⟨ι,β,hi,fun s => ?_⟩,?_,rfl⟩ fun e σ' a' w' he hs => ?_)
 ·show R ι w (rho β T) (get (params ds 0) s) _
  rw [get_params,if_pos (Nat.zero_le _)]
  simp only [Nat.sub_zero]
  by_cases hlt:s < ds.length
  ·have hv:s < vs.size:=by omega
   have e:(vs ++ Array.replicate (fn.ntmps - vs.size) undef).getD s undef=vs[s]:=by simp [Array.getD,Array.getElem_append_left,hv]; intro h; omega
   rw [e,List.getElem?_eq_getElem hlt]
   exact hr s _ _ (List.getElem?_eq_getElem hlt) (Array.getElem?_eq_getElem hv)
  ·rw [List.getElem?_eq_none (by omega)]; exact .junk _
 ·simp; omega
 ·obtain⟨he,r,T',hΨ,⟨rs,hres,hrt⟩,hT⟩:=he
  obtain⟨⟨ι',β',hi',hr'⟩,hsz,hd⟩:=hs
  have hT':=leT_get hT
  have down:∀ d x,R ι' w' (rho β' σ'.T) d x→R ι' w' (rho β' T') d x:=fun d x h => h.mono (fun _ _ h => h) (fun _ _ _ => rfl) (rho_le hT')
  have all:∀ rl rs,ResL P σ' rl rs→∃ vs:List Value,F2 (fun r v => (rdRes a'.tmps r).run P w'=.ok v w') rl vs ∧ F2 (fun d v => R ι' w' (rho β' T') d v) rs vs:=by
   intro rl rs h
   induction h with
   | nil => exact⟨[],.nil,.nil⟩
   | cons h _ ih =>
    obtain⟨v,h1,h2⟩:=h.run hi' hr'
    obtain⟨vs,h3,h4⟩:=ih
    exact⟨v :: vs,.cons h1 h3,.cons (down _ _ h2) h4⟩
  obtain⟨vl,hv1,hv2⟩:=all _ _ hres
  have runl:∀ rl vl,F2 (fun r v => (rdRes a'.tmps r).run P w'=.ok v w') rl vl→(rl.mapM (rdRes a'.tmps)).run P w'=.ok vl w':=by
   intro rl vl h
   induction h with
   | nil => rfl
   | cons h _ ih => rw [List.mapM_cons]; simp [h,ih]
  have key:(results fn a'.tmps).run P w'=.ok (if h:vl.length=1 then vl[0] else .tuple vl.toArray) w':=by
   have e:(fn.results.mapM (rdRes a'.tmps)).run P w'=.ok vl.toArray w':=by
    have:=runl _ _ hv1
    rw [← Array.toArray_toList (xs:=fn.results)]
    simp only [List.mapM_toArray]
    rw [← bind_pure_comp]
    simp [this]
   show ((fn.results.mapM (rdRes a'.tmps)) >>= fun vs => pure (if h:vs.size=1 then vs[0] else .tuple vs)).run P w'=_
   simp [e]
  have hR:R ι' w' (rho β' T') r (if h:vl.length=1 then vl[0] else .tuple vl.toArray):=by
   subst hrt
   match rs,vl,hv2 with
   | [],[],_ => exact .tup [] #[] rfl (fun k d x h => by simp at h)
   | [d],[v],.cons h _ => exact h
   | d :: e :: ds,v :: u :: vs,hv2 =>
    simp only [List.length_cons]
    rw [dif_neg (by omega)]
    have hlen:=hv2.len
    refine .tup _ _ (by simpa using hlen.symm) (fun k d x hk hx => ?_)
    have hx:(v :: u :: vs)[k]? =some x:=by simpa using hx
    exact hv2.get k d x hk hx
  rcases he with rfl | rfl
  ·exact⟨hd,_,key,_,ι',β',r,T',hΨ,rfl,hi'.le hT',hR⟩
  ·exact⟨hd,_,key,_,ι',β',r,T',hΨ,rfl,hi'.le hT',hR⟩
section
variable {P:Program} {n:Nat}
end
end Go.Proofs.Vx
