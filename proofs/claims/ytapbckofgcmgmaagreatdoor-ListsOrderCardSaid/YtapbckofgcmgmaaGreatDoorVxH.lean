import Derived.Test.YtapbckofgcmgmaaGreatDoorVxG
import Derived.Orders
namespace Go.Proofs.Vx
open Go Go.RowKit
set_option linter.unusedSectionVars false
variable [Glo]
structure It where
 go:Bool
 fr:List (Nat × D)
 d:D
def putF (f:List (Nat × D)) (dst:Option Nat) (d:D):List (Nat × D):=match dst with | some s => (s,d) :: f | none => f
def gdOk (all:Array Oper) (o:Oper) (it:It):Prop:=
 match o.guard with
 | none => it.go=true
 | some (j,want) => ∃ t,(all[j]?).bind (·.dst)=some t ∧ Gd it.fr t want it.go
def Txt (P:Program) (n:Nat) (T:List (Nat × Ob)) (all:Array Oper):List Oper→List It→List (Nat × D)→List (Nat × D)→Prop
 | [],[],f,f' => f=f'
 | o :: os,it :: its,f,f' => dstB n o.dst=true ∧ leFr it.fr f ∧ gdOk all o it ∧ (it.go=true→GOk P o ⟨it.fr,T⟩ it.d) ∧ (it.go=false→it.d=.v undef) ∧ Txt P n T all os its (putF f o.dst it.d) f'
 | _,_,_,_ => False
def binds (e:Edge):Bool:=Region.binds .any e
def hang (o p:Oper) (rd rp:List Nat):Bool:=
 (match o.dst with | some s => rp.any (Nat.beq s) || (match p.dst with | some u => Nat.beq s u | none => false) | none => false) ||
 (match p.dst with | some u => rd.any (Nat.beq u) | none => false)
def certOk (ops:List Oper) (cert:List (List Nat)):Bool:=
 (ops.zipIdx.all fun (o,j) => o.after.toList.all fun e => !binds e || Nat.blt e.on j) &&
 (ops.zipIdx.all fun (o,j) => (cert.getD j []).all fun i => o.after.toList.any fun e => binds e && (Nat.beq e.on i || (cert.getD e.on []).any (Nat.beq i)))
def hangOk (ops:List Oper) (rds:List (List Nat)) (cert:List (List Nat)):Bool:=
 ops.zipIdx.all fun (p,j) => ops.zipIdx.all fun (o,i) => !(Nat.blt i j) || !(hang o p (rds.getD i []) (rds.getD j [])) || (cert.getD j []).any (Nat.beq i)
section
variable (ops:Array Oper) (its:List It) (f0:Nat→D)
def dstOf (k:Nat):Option Nat:=(ops[k]?).bind (·.dst)
def dOf (k:Nat):D:=match its[k]? with | some it => it.d | none => .junk
def gS (L:Nat→Bool):Nat→Nat→D
 | 0,s => f0 s
 | k + 1,s => if L k=true ∧ dstOf ops k=some s then dOf its k else gS L k s
end
theorem gS_step {ops:Array Oper} {its:List It} {f0:Nat→D} {L L':Nat→Bool} {k s:Nat} (h:L k=L' k) (hk:gS ops its f0 L k s=gS ops its f0 L' k s):gS ops its f0 L (k + 1) s=gS ops its f0 L' (k + 1) s:=by
 simp only [gS,h,hk]
theorem gS_yes {ops:Array Oper} {its:List It} {f0:Nat→D} {L:Nat→Bool} {k s:Nat} (h:L k=true):gS ops its f0 L (k + 1) s=if dstOf ops k=some s then dOf its k else gS ops its f0 L k s:=by
 simp [gS,h]
theorem gS_no {ops:Array Oper} {its:List It} {f0:Nat→D} {L:Nat→Bool} {k s:Nat} (h:L k=false):gS ops its f0 L (k + 1) s=gS ops its f0 L k s:=by
 simp [gS,h]
theorem zipIdx_all {α:Type} {l:List α} {p:α × Nat→Bool} (h:l.zipIdx.all p=true) (i:Nat) (a:α) (hi:l[i]? =some a):p (a,i)=true:=by
 rw [List.all_eq_true] at h
 refine h (a,i) (List.mem_iff_getElem?.2 ⟨i,?_⟩)
 simp [List.getElem?_zipIdx,hi]
section
variable {P:Program} {n:Nat} {T:List (Nat × Ob)} {ops:Array Oper}
theorem Txt.len {all:Array Oper}:∀ {os:List Oper} {its:List It} {f f':List (Nat × D)},Txt P n T all os its f f'→os.length=its.length
 | [],[],_,_,_ => rfl
 | _ :: os,_ :: its,_,_,h => by simp [Txt.len h.2.2.2.2.2]
 | [],_ :: _,_,_,h => h.elim
 | _ :: _,[],_,_,h => h.elim
theorem Txt.at {all:Array Oper} {full:List It}:∀ {os:List Oper} {its:List It} {f f':List (Nat × D)} (k:Nat) {f0:Nat→D},Txt P n T all os its f f'→(∀ i,os[i]? =all[k + i]?)→(∀ i,its[i]? =full[k + i]?)→
  (∀ s,get f s=gS all full f0 (fun _ => true) k s)→
  (∀ i o,os[i]? =some o→∃ it,full[k + i]? =some it ∧ dstB n o.dst=true ∧ (∀ s,DLe (get it.fr s) (gS all full f0 (fun _ => true) (k + i) s)) ∧ gdOk all o it ∧ (it.go=true→GOk P o ⟨it.fr,T⟩ it.d) ∧ (it.go=false→it.d=.v undef)) ∧
  ∀ s,get f' s=gS all full f0 (fun _ => true) (k + os.length) s
 | [],[],f,f',k,f0,h,_,_,hf => by cases h; exact⟨fun i o h => by simp at h,hf⟩
 | o :: os,it :: its,f,f',k,f0,h,ho,hi,hf => by
  obtain⟨h1,h2,h3,h4,h5,h6⟩:=h
  have e0:all[k]? =some o:=by have:=ho 0; simpa using this.symm
  have i0:full[k]? =some it:=by have:=hi 0; simpa using this.symm
  have step:∀ s,get (putF f o.dst it.d) s=gS all full f0 (fun _ => true) (k + 1) s:=fun s => by
   simp only [gS,dstOf,dOf,e0,i0,Option.bind_some,true_and]
   cases hd:o.dst with
   | none => simp [putF,hf s]
   | some u =>
    have:=get_put f T u it.d s
    simp only [St.set] at this
    simp only [putF,this,Option.some.injEq,hf s]
  obtain⟨g1,g2⟩:=Txt.at (k + 1) h6 (fun i => by have:=ho (i + 1); simp only [List.getElem?_cons_succ] at this; rw [this]; congr 1; omega) (fun i => by have:=hi (i + 1); simp only [List.getElem?_cons_succ] at this; rw [this]; congr 1; omega) step
  refine⟨fun i o' ho' => ?_,fun s => ?_⟩
  ·cases i with
   | zero => cases ho'; exact⟨it,i0,h1,fun s => by rw [Nat.add_zero,← hf s]; exact leFr_get h2 s,h3,h4,h5⟩
   | succ i =>
    have:=g1 i o' (by simpa using ho')
    rw [show k + (i + 1)=k + 1 + i by omega]; exact this
  ·rw [g2 s]; congr 1; simp; omega
 | [],_ :: _,_,_,_,_,h,_,_,_ => h.elim
 | _ :: _,[],_,_,_,_,h,_,_,_ => h.elim
theorem wp_any_of {its:List It} {f0:Nat→D} {rds cert:List (List Nat)} (hc:certOk ops.toList cert=true) (hh:hangOk ops.toList rds cert=true)
  (hrd:∀ (i:Nat) it,its[i]? =some it→rds[i]? =some (it.fr.map (·.1)))
  (hops:∀ (i:Nat) o,ops[i]? =some o→∃ it,its[i]? =some it ∧ dstB n o.dst=true ∧ (∀ s,DLe (get it.fr s) (gS ops its f0 (fun _ => true) i s)) ∧ gdOk ops o it ∧ (it.go=true→GOk P o ⟨it.fr,T⟩ it.d) ∧ (it.go=false→it.d=.v undef))
  {cx:Cx} {Q:Exit→Act→World→Prop}
  (hQ:∀ a w,(∃ ι β,Inv cx ι β T w ∧ ∀ s,R ι w (rho β T) (gS ops its f0 (fun _ => true) ops.size s) (a.tmps.getD s undef))→a.tmps.size=n→a.defers=cx.ds→Q .normal a w) :
  ∀ (fuel:Nat) (listed:Array Bool) (a:Act) (w:World),listed.size=ops.size→listed.toList.countP (fun b => !b) ≤ fuel→(∀ j,listed.getD j false=true→∀ i ∈ cert.getD j [],listed.getD i false=true)→
   (∃ ι β,Inv cx ι β T w ∧ ∀ s,R ι w (rho β T) (gS ops its f0 (fun k => listed.getD k false) ops.size s) (a.tmps.getD s undef))→a.tmps.size=n→a.defers=cx.ds→wpAny P .any ops Q fuel listed a w:=by
 simp only [certOk,Bool.and_eq_true] at hc
 obtain⟨hback,hcert⟩:=hc
 have getD_eq:∀ (l:Array Bool) (i:Nat),i < l.size→l.getD i true=l.getD i false:=fun l i h => by simp [Array.getD,h]
 have inOps:∀ (i:Nat),i < ops.size→∃ o,ops[i]? =some o:=fun i h =>⟨_,Array.getElem?_eq_getElem h⟩
 have toL:∀ (i:Nat) o,ops[i]? =some o→ops.toList[i]? =some o:=fun i o h => by simpa using h
 have full:∀ listed:Array Bool,listed.size=ops.size→Region.ready .any ops listed=[]→∀ i,i < ops.size→listed.getD i false=true:=by
  intro listed hs hr i
  induction i using Nat.strongRecOn with
  | _ i ih =>
   intro hi
   cases hb:listed.getD i false with
   | true => rfl
   | false =>
    exfalso
    obtain⟨o,ho⟩:=inOps i hi
    have:i ∈ Region.ready .any ops listed:=by
     simp only [Region.ready,List.mem_filter,List.mem_range]
     refine⟨hi,?_⟩
     rw [getD_eq _ _ (by omega),hb,ho]
     simp only [Bool.not_false,Bool.true_and,Option.map_some,Option.getD_some]
     rw [Array.all_eq_true']
     intro e he
     have h2:=zipIdx_all hback i o (toL i o ho)
     simp only [List.all_eq_true] at h2
     have h3:=h2 e (by simpa using he)
     simp only [Bool.or_eq_true] at h3 ⊢
     rcases h3 with h3 | h3
     ·exact .inl h3
     ·have hlt:e.on < i:=by simpa [Nat.blt_eq] using h3
      exact .inr (ih e.on hlt (by omega))
    rw [hr] at this
    cases this
 have done:∀ (listed:Array Bool) (a:Act) (w:World),listed.size=ops.size→Region.ready .any ops listed=[]→
   (∃ ι β,Inv cx ι β T w ∧ ∀ s,R ι w (rho β T) (gS ops its f0 (fun k => listed.getD k false) ops.size s) (a.tmps.getD s undef))→a.tmps.size=n→a.defers=cx.ds→Q .normal a w:=by
  intro listed a w hs hr ⟨ι,β,hi,hR⟩ hsz hdf
  have hall:=full listed hs hr
  have e:∀ k s,k ≤ ops.size→gS ops its f0 (fun k => listed.getD k false) k s=gS ops its f0 (fun _ => true) k s:=by
   intro k s
   induction k with
   | zero => intro _; rfl
   | succ k ih => intro hk; exact gS_step (hall k (by omega)) (ih (by omega))
  exact hQ a w ⟨ι,β,hi,fun s => e ops.size s (Nat.le_refl _) ▸ hR s⟩ hsz hdf
 intro fuel
 induction fuel with
 | zero =>
  intro listed a w hs hcnt hcl hR hsz hdf
  have hr:Region.ready .any ops listed=[]:=by
   rw [List.eq_nil_iff_forall_not_mem]
   intro i hi
   simp only [Region.ready,List.mem_filter,List.mem_range] at hi
   obtain⟨hi,hb⟩:=hi
   simp only [Bool.and_eq_true] at hb
   have h1:=hb.1
   have hlt:i < listed.toList.length:=by simp; omega
   have h0:listed.toList.countP (fun b => !b)=0:=by omega
   rw [List.countP_eq_zero] at h0
   have:=h0 (listed.toList[i]) (List.getElem_mem hlt)
   simp [Array.getD,show i < listed.size by omega] at h1 this
   rw [this] at h1; cases h1
  exact⟨hr,done listed a w hs hr hR hsz hdf⟩
 | succ fuel ih =>
  intro listed a w hs hcnt hcl hR hsz hdf
  refine⟨fun hr => done listed a w hs hr hR hsz hdf,fun i hi => ?_⟩
  simp only [Region.ready,List.mem_filter,List.mem_range] at hi
  obtain⟨hi,hb⟩:=hi
  simp only [Bool.and_eq_true] at hb
  obtain⟨hun,hpre⟩:=hb
  rw [getD_eq _ _ (by omega)] at hun
  have hun:listed.getD i false=false:=by simpa using hun
  obtain⟨o,ho⟩:=inOps i hi
  obtain⟨it,hit,hdst,hle,hgd,hgo,hng⟩:=hops i o ho
  have hrds:=hrd i it hit
  rw [ho] at hpre
  simp only [Option.map_some,Option.getD_some,Array.all_eq_true'] at hpre
  have hbefore:∀ k ∈ cert.getD i [],listed.getD k false=true:=by
   intro k hk
   have h1:=zipIdx_all hcert i o (toL i o ho)
   simp only [List.all_eq_true] at h1
   have h2:=h1 k hk
   simp only [List.any_eq_true,Bool.and_eq_true,Bool.or_eq_true] at h2
   obtain⟨e,he,hbe,h3⟩:=h2
   have h4:=hpre e (by simpa using he)
   simp only [Bool.or_eq_true] at h4
   have h5:listed.getD e.on false=true:=by
    rcases h4 with h4 | h4
    ·simp only [binds] at hbe; rw [hbe] at h4; cases h4
    ·exact h4
   rcases h3 with h3 | h3
   ·exact Nat.eq_of_beq_eq_true h3 ▸ h5
   ·obtain⟨x,hx,hx2⟩:=h3; exact hcl e.on h5 k (Nat.eq_of_beq_eq_true hx2 ▸ hx)
  have mem:∀ (k j:Nat),(cert.getD j []).any (Nat.beq k)=true→k ∈ cert.getD j []:=fun k j h => by
   simp only [List.any_eq_true] at h
   obtain⟨x,hx,hx2⟩:=h
   exact Nat.eq_of_beq_eq_true hx2 ▸ hx
  have order:∀ (k j:Nat) (p q:Oper) (a b:It),ops[k]? =some p→ops[j]? =some q→its[k]? =some a→its[j]? =some b→k < j→hang p q (a.fr.map (·.1)) (b.fr.map (·.1))=true→k ∈ cert.getD j []:=by
   intro k j p q a b hp hq ha hb' hkj hhang
   have h1:=zipIdx_all hh j q (toL j q hq)
   have h2:=zipIdx_all h1 k p (toL k p hp)
   have ra:=hrd k a ha
   have rb:=hrd j b hb'
   simp only [List.getD,ra,rb,Option.getD_some,hhang,Bool.not_true,Bool.or_false,Bool.or_eq_true,Bool.not_eq_true'] at h2
   rcases h2 with h2 | h2
   ·have:Nat.blt k j=true:=by simpa [Nat.blt_eq] using hkj
    rw [this] at h2; cases h2
   ·exact mem k j (by simpa [List.getD] using h2)
  have itsAt:∀ k,k < ops.size→∃ p b,ops[k]? =some p ∧ its[k]? =some b:=fun k hk => by
   obtain⟨p,hp⟩:=inOps k hk
   obtain⟨b,hb,_⟩:=hops k p hp
   exact⟨p,b,hp,hb⟩
  have agree:∀ s ∈ it.fr.map (·.1),gS ops its f0 (fun k => listed.getD k false) ops.size s=gS ops its f0 (fun _ => true) i s:=by
   intro s hs'
   have low:∀ k,k ≤ i→gS ops its f0 (fun k => listed.getD k false) k s=gS ops its f0 (fun _ => true) k s:=by
    intro k
    induction k with
    | zero => intro _; rfl
    | succ k ihk =>
     intro hk
     simp only [gS,true_and]
     by_cases hd:dstOf ops k=some s
     ·obtain⟨p,b,hp,hb'⟩:=itsAt k (by omega)
      have hpd:p.dst=some s:=by simpa [dstOf,hp] using hd
      have:=order k i p o b it hp ho hb' hit (by omega) (by
       simp only [hang,hpd,Bool.or_eq_true,List.any_eq_true]
       exact .inl (.inl ⟨s,hs',Nat.beq_refl s⟩))
      rw [if_pos ⟨hbefore k this,hd⟩,if_pos hd]
     ·rw [if_neg (fun h => hd h.2),if_neg hd]; exact ihk (by omega)
   have high:∀ k,i + k ≤ ops.size→gS ops its f0 (fun k => listed.getD k false) (i + k) s=gS ops its f0 (fun k => listed.getD k false) i s:=by
    intro k
    induction k with
    | zero => intro _; rfl
    | succ k ihk =>
     intro hk
     show gS ops its f0 (fun k => listed.getD k false) (i + k + 1) s=_
     simp only [gS]
     rw [if_neg,ihk (by omega)]
     rintro ⟨hl,hd⟩
     rcases Nat.eq_zero_or_pos k with h0 | hpos
     ·subst h0; rw [Nat.add_zero] at hl; rw [hun] at hl; cases hl
     ·obtain⟨p,b,hp,hb'⟩:=itsAt (i + k) (by omega)
      have hpd:p.dst=some s:=by simpa [dstOf,hp] using hd
      have:=order i (i + k) o p it b ho hp hit hb' (by omega) (by
       simp only [hang,hpd,Bool.or_eq_true,List.any_eq_true]
       exact .inr ⟨s,hs',Nat.beq_refl s⟩)
      have:=hcl (i + k) hl i this
      rw [hun] at this; cases this
   have:=high (ops.size - i) (by omega)
   rw [show i + (ops.size - i)=ops.size by omega] at this
   rw [this,low i (Nat.le_refl _)]
  have next:∀ s,gS ops its f0 (fun k => (listed.setIfInBounds i true).getD k false) ops.size s=if dstOf ops i=some s then dOf its i else gS ops its f0 (fun k => listed.getD k false) ops.size s:=by
   intro s
   have ne:∀ k,k ≠ i→(listed.setIfInBounds i true).getD k false=listed.getD k false:=fun k hk => by simp [Ne.symm hk]
   have eq:(listed.setIfInBounds i true).getD i false=true:=by simp [Array.getD,hs,hi]
   have low:∀ k,k ≤ i→gS ops its f0 (fun k => (listed.setIfInBounds i true).getD k false) k s=gS ops its f0 (fun k => listed.getD k false) k s:=by
    intro k
    induction k with
    | zero => intro _; rfl
    | succ k ihk => intro hk; exact gS_step (ne k (by omega)) (ihk (by omega))
   have high:∀ k,i + 1 + k ≤ ops.size→gS ops its f0 (fun k => (listed.setIfInBounds i true).getD k false) (i + 1 + k) s=if dstOf ops i=some s then dOf its i else gS ops its f0 (fun k => listed.getD k false) (i + 1 + k) s:=by
    intro k
    induction k with
    | zero =>
     intro _
     rw [Nat.add_zero,gS_yes (L:=fun k => (listed.setIfInBounds i true).getD k false) eq,gS_no (L:=fun k => listed.getD k false) hun,low i (Nat.le_refl _)]
    | succ k ihk =>
     intro hk
     show gS ops its f0 (fun k => (listed.setIfInBounds i true).getD k false) (i + 1 + k + 1) s=if _ then _ else gS ops its f0 (fun k => listed.getD k false) (i + 1 + k + 1) s
     have hne:=ne (i + 1 + k) (by omega)
     have ihk:=ihk (by omega)
     by_cases hd:listed.getD (i + 1 + k) false=true ∧ dstOf ops (i + 1 + k)=some s
     ·have hni:¬ dstOf ops i=some s:=by
       intro hdi
       obtain⟨p,b,hp,hb'⟩:=itsAt (i + 1 + k) (by omega)
       have hpd:p.dst=some s:=by simpa [dstOf,hp] using hd.2
       have hod:o.dst=some s:=by simpa [dstOf,ho] using hdi
       have:=order i (i + 1 + k) o p it b ho hp hit hb' (by omega) (by
        simp only [hang,hpd,hod,Bool.or_eq_true]
        exact .inl (.inr (Nat.beq_refl s)))
       have:=hcl _ hd.1 i this
       rw [hun] at this; cases this
      rw [if_neg hni,gS_yes (L:=fun k => (listed.setIfInBounds i true).getD k false) (hne.trans hd.1),gS_yes (L:=fun k => listed.getD k false) hd.1,if_pos hd.2,if_pos hd.2]
     ·cases hl:listed.getD (i + 1 + k) false with
      | false => rw [gS_no (L:=fun k => (listed.setIfInBounds i true).getD k false) (hne.trans hl),gS_no (L:=fun k => listed.getD k false) hl]; exact ihk
      | true =>
       have hds:¬ dstOf ops (i + 1 + k)=some s:=fun h => hd ⟨hl,h⟩
       rw [gS_yes (L:=fun k => (listed.setIfInBounds i true).getD k false) (hne.trans hl),gS_yes (L:=fun k => listed.getD k false) hl,if_neg hds,if_neg hds]; exact ihk
   have:=high (ops.size - (i + 1)) (by omega)
   rw [show i + 1 + (ops.size - (i + 1))=ops.size by omega] at this
   exact this
  have hcnt':(listed.setIfInBounds i true).toList.countP (fun b => !b) ≤ fuel:=by
   have hlt:i < listed.toList.length:=by simp; omega
   have hv:listed.toList[i]=false:=by simpa [Array.getD,show i < listed.size by omega] using hun
   rw [Array.toList_setIfInBounds,List.countP_set hlt,hv]
   have:0 < listed.toList.countP (fun b => !b):=List.countP_pos_iff.2 ⟨false,hv ▸ List.getElem_mem hlt,rfl⟩
   simp only [Bool.not_false,Bool.not_true,if_true,Bool.false_eq_true,if_false]; omega
  have hcl':∀ j,(listed.setIfInBounds i true).getD j false=true→∀ k ∈ cert.getD j [],(listed.setIfInBounds i true).getD k false=true:=by
   have keep:∀ k,listed.getD k false=true→(listed.setIfInBounds i true).getD k false=true:=fun k hk => by
    by_cases h:k=i
    ·subst h; simp [Array.getD,hs,hi]
    ·simpa [Ne.symm h] using hk
   intro j hj k hk
   by_cases h:j=i
   ·subst h; exact keep k (hbefore k hk)
   ·exact keep k (hcl j (by simpa [Ne.symm h] using hj) k hk)
  obtain⟨ι,β,hinv,hRR⟩:=hR
  have hfr:∀ s,R ι w (rho β T) (get it.fr s) (a.tmps.getD s undef):=by
   intro s
   by_cases hs':s ∈ it.fr.map (·.1)
   ·have h1:=hRR s
    rw [agree s hs'] at h1
    exact (hle s).r h1
   ·have:get it.fr s=.junk:=by
     clear hle hgd hgo hng agree hrds
     generalize it.fr=l at hs' ⊢
     induction l with
     | nil => rfl
     | cons p l ih =>
      simp only [List.map_cons,List.mem_cons,not_or] at hs'
      simp only [get]
      have:Nat.beq p.1 s=false:=by cases hb:Nat.beq p.1 s with | false => rfl | true => exact absurd (Nat.eq_of_beq_eq_true hb).symm hs'.1
      rw [this]; exact ih hs'.2
    rw [this]; exact .junk _
  have cont:∀ v w' ι',Inv cx ι' β T w'→(∀ b o,ι b o→ι' b o)→(∀ b o,ι b o→w'.cell? ⟨b,o,none⟩=w.cell? ⟨b,o,none⟩)→R ι' w' (rho β T) it.d v→wpAny P .any ops Q fuel (listed.setIfInBounds i true) (a.put o.dst v) w':=by
   intro v w' ι' hi' hι hc hd
   have hs1:=Sim.put1 (fr:=[]) (T:=T) (a:=a) (w:=w') hi' (fun _ => .junk _) hsz hdf (dstB_lt hdst) hd
   refine ih _ _ _ (by simpa using hs) hcnt' hcl' ⟨ι',β,hi',fun s => ?_⟩ hs1.size hs1.defers
   rw [next s]
   have hdo:dstOf ops i=o.dst:=by simp [dstOf,ho]
   have hdd:dOf its i=it.d:=by simp [dOf,hit]
   rw [hdo,hdd]
   cases hod:o.dst with
   | none => simpa [Act.put] using (hRR s).mono hι hc (fun _ _ h => h)
   | some u =>
    by_cases hu:u=s
    ·subst hu
     have hlt:=dstB_lt hdst u hod
     simpa [Act.put,hsz,hlt] using hd
    ·have:¬ (some u=some s):=fun h => hu (by cases h; rfl)
     rw [if_neg this]
     simpa [Act.put,hu] using (hRR s).mono hι hc (fun _ _ h => h)
  have hsim:Sim cx n ⟨it.fr,T⟩ a w:=⟨⟨ι,β,hinv,hfr⟩,hsz,hdf⟩
  unfold wpOp
  rw [ho]
  simp only
  have hwant:Region.wanted o (yielded ops a.tmps)=it.go:=by
   unfold gdOk at hgd
   cases hg:o.guard with
   | none => rw [hg] at hgd; simp only at hgd; rw [hgd]; simp [Region.wanted,hg]
   | some jw =>
    obtain⟨j,want⟩:=jw
    rw [hg] at hgd
    obtain⟨t,h1,h2⟩:=hgd
    have ht:t < n:=by
     cases hj:ops[j]? with
     | none => rw [hj] at h1; cases h1
     | some q =>
      obtain⟨_,_,hq,_⟩:=hops j q hj
      rw [hj] at h1
      exact dstB_lt hq t h1
    exact sim_wanted hsim hg h1 ht h2
  rw [hwant]
  cases hgo':it.go with
  | true =>
   simp only [if_true]
   refine .inl (hgo hgo' cx ι β a w _ Q hinv (sim_ev hfr) cont)
  | false =>
   simp only [Bool.false_eq_true,if_false]
   exact cont undef w ι hinv (fun _ _ h => h) (fun _ _ _ => rfl) (by rw [hng hgo']; exact .v _)
theorem rep_false (m k:Nat):(Array.replicate m false).getD k false=false:=by
 simp only [Array.getD]
 split
 ·simp
 ·rfl
theorem Ok.draw {id:Nat} {ops:Array Oper} {fr f':List (Nat × D)} {T:List (Nat × Ob)} {Φ:Exit→St→Prop} (its:List It) (cert:List (List Nat)) (hm:P.follows .mixedOrders=true) (ht:Txt P n T ops ops.toList its fr f')
  (hc:(certOk ops.toList cert && hangOk ops.toList (its.map fun it => it.fr.map (·.1)) cert)=true) (hk:Φ .normal ⟨f',T⟩):Ok P n (.region id ops true) ⟨fr,T⟩ Φ:=by
 intro cx a w Q hs hq
 obtain⟨⟨ι,β,hi,hr⟩,hsz,hdf⟩:=hs
 simp only [Bool.and_eq_true] at hc
 obtain⟨h1,h2⟩:=Txt.at (P:=P) (n:=n) (T:=T) (full:=its) (f0:=get fr) 0 ht (fun i => by simp) (fun i => by simp) (fun s => rfl)
 have hi':Inv cx ι β T { w with drawn:=w.drawn + 1 }:=hi.grow rfl rfl rfl (Nat.le_refl _) (fun _ _ => rfl) (fun _ _ h => h) (fun _ _ h => .inl h)
 have start:∀ k s,gS ops its (get fr) (fun k => (Array.replicate ops.size false).getD k false) k s=get fr s:=by
  intro k s
  induction k with
  | zero => rfl
  | succ k ih => rw [gS_no (L:=fun k => (Array.replicate ops.size false).getD k false) (rep_false _ _)]; exact ih
 have fin:∀ a w,(∃ ι β,Inv cx ι β T w ∧ ∀ s,R ι w (rho β T) (gS ops its (get fr) (fun _ => true) ops.size s) (a.tmps.getD s undef))→a.tmps.size=n→a.defers=cx.ds→Q .normal a w:=by
  intro a w ⟨ι,β,hi,hR⟩ hsz hdf
  refine hq .normal ⟨f',T⟩ a w hk ⟨⟨ι,β,hi,fun s => ?_⟩,hsz,hdf⟩
  have:=h2 s
  simp only [Nat.zero_add,Array.length_toList] at this
  show R ι w (rho β T) (get f' s) _
  rw [this]; exact hR s
 exact wp_region_any hm (wp_any_of (its:=its) (f0:=get fr) hc.1 hc.2 (fun i it h => by simp [h]) (fun i o ho => by have:=h1 i o (by simpa using ho); simpa using this) fin ops.size (Array.replicate ops.size false) a _ (by simp) (by simp [List.countP_replicate])
  (fun j hj => absurd hj (by rw [rep_false]; simp))
  ⟨ι,β,hi',fun s => by rw [start]; exact (hr s).mono (fun _ _ h => h) (fun _ _ _ => rfl) (fun _ _ h => h)⟩ hsz hdf)
end
end Go.Proofs.Vx
