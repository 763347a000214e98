import Derived.Test.YtapbckofgcmgmaaGreatDoorVxBd
set_option linter.unusedVariables false
namespace Go.Proofs.Vx
open Go Go.RowKit
set_option linter.unusedSectionVars false
variable [Glo]
section
variable {P:Program} {n:Nat} {ops pre:Array Oper} {last:Oper} {Q:Exit→Act→World→Prop}
def beh (P:Program) (ops:Array Oper) (k:Nat) (Q:Exit→Act→World→Prop):Exit→Act→World→Prop
 | .normal,a,w => wpOp P ops Q k (fun a w => Q .normal a w) a w
 | e,a,w => Q e a w
theorem beh_upon {k:Nat} {o:Oper} {a:Act} {next:Act→World→Prop} {r:Result Next} (h:o.upon P a next (beh P ops k Q) r):o.upon P a next Q r:=by
 cases r with
 | ok x w => cases x <;> first
  | exact h
  | (simp only [Oper.upon] at h ⊢; exact Calls.mono h fun e w'' he => by cases e <;> exact he)
 | halt x w => cases x <;> exact h
theorem beh_wp {k:Nat} {o:Oper} {a:Act} {w:World} {next:Act→World→Prop} (h:o.wp P a w next (beh P ops k Q)):o.wp P a w next Q:=beh_upon h
def guardsIn (l:List Oper):Bool:=l.all fun o => match o.guard with | some (j,_) => Nat.blt j l.length | none => true
theorem pre_at (hops:ops.toList=pre.toList ++ [last]) {i:Nat} (hi:i < pre.size):ops[i]? =pre[i]?:=by
 rw [← Array.getElem?_toList,hops,List.getElem?_append_left (by simpa using hi),Array.getElem?_toList]
theorem last_at (hops:ops.toList=pre.toList ++ [last]):ops[pre.size]? =some last:=by
 rw [← Array.getElem?_toList,hops,List.getElem?_append_right (by simp)]; simp
theorem ops_size (hops:ops.toList=pre.toList ++ [last]):ops.size=pre.size + 1:=by
 have:=congrArg List.length hops; simpa using this
theorem wpOp_pre (hops:ops.toList=pre.toList ++ [last]) (hg:guardsIn pre.toList=true) {i k:Nat} (hi:i < pre.size) {K:Act→World→Prop} {a:Act} {w:World} (h:wpOp P pre (beh P ops k Q) i K a w):wpOp P ops Q i K a w:=by
 unfold wpOp at h ⊢
 rw [pre_at hops hi]
 cases ho:pre[i]? with
 | none => rw [ho] at h; exact h
 | some o =>
  rw [ho] at h
  have hw:Region.wanted o (yielded ops a.tmps)=Region.wanted o (yielded pre a.tmps):=by
   unfold Region.wanted
   cases hgd:o.guard with
   | none => rfl
   | some jb =>
    obtain⟨j,b⟩:=jb
    have hm:o ∈ pre.toList:=by
     have:=List.mem_of_getElem? (l:=pre.toList) (i:=i) (a:=o) (by rw [Array.getElem?_toList]; exact ho)
     exact this
    have h1:=List.all_eq_true.1 hg o hm
    rw [hgd] at h1
    have hj:j < pre.size:=by simpa [Nat.blt_eq] using h1
    have e:yielded ops a.tmps j=yielded pre a.tmps j:=by unfold yielded; rw [pre_at hops hj]
    simp only [e]
  simp only [hw]
  simp only [] at h
  split
  ·rename_i hww; rw [if_pos hww] at h
   exact h.imp beh_wp id
  ·rename_i hww; rw [if_neg hww] at h; exact h
def snocB (pre:List Oper) (last:Oper) (cert:List (List Nat)):Bool:=
 (pre.zipIdx.all fun (o,j) => o.after.toList.all fun e => !binds e || Nat.blt e.on j) && (last.after.toList.all fun e => !binds e || Nat.blt e.on pre.length) &&
 (pre.zipIdx.all fun (o,j) => (cert.getD j []).all fun i => o.after.toList.any fun e => binds e && (Nat.beq e.on i || (cert.getD e.on []).any (Nat.beq i))) &&
 ((List.range pre.length).all fun i => last.after.toList.any fun e => binds e && (Nat.beq e.on i || (cert.getD e.on []).any (Nat.beq i)))
theorem ready_mem {l:Array Oper} {listed:Array Bool} (hs:listed.size=l.size) {i:Nat}:i ∈ Region.ready .any l listed ↔ i < l.size ∧ listed.getD i false=false ∧ ∃ o,l[i]? =some o ∧ ∀ e ∈ o.after.toList,binds e=true→listed.getD e.on false=true:=by
 simp only [Region.ready,List.mem_filter,List.mem_range]
 constructor
 ·rintro ⟨hi,h⟩
  refine⟨hi,?_⟩
  have hd:listed.getD i true=listed.getD i false:=by simp [Array.getD,hs,hi]
  rw [hd] at h
  simp only [Bool.and_eq_true,Bool.not_eq_true'] at h
  refine⟨h.1,?_⟩
  rw [Array.getElem?_eq_getElem hi] at h ⊢
  refine⟨_,rfl,fun e he hb => ?_⟩
  have h2:=h.2
  simp only [Option.map_some,Option.getD_some,Array.all_eq_true'] at h2
  have:=h2 e (by simpa using he)
  unfold binds at hb
  simpa [hb] using this
 ·rintro ⟨hi,h1,o,ho,h2⟩
  refine⟨hi,?_⟩
  have hd:listed.getD i true=listed.getD i false:=by simp [Array.getD,hs,hi]
  rw [hd,h1,ho]
  simp only [Bool.not_false,Bool.true_and,Option.map_some,Option.getD_some,Array.all_eq_true']
  intro e he
  cases hb:Region.binds .any e with
  | false => rfl
  | true => simpa using h2 e (by simpa using he) hb
theorem wpAny_snoc (hops:ops.toList=pre.toList ++ [last]) (hg:guardsIn pre.toList=true) {cert:List (List Nat)} (hc:snocB pre.toList last cert=true) :
  ∀ (fuel:Nat) (listed:Array Bool) (a:Act) (w:World),listed.size=pre.size→(∀ j,listed.getD j false=true→∀ i ∈ cert.getD j [],listed.getD i false=true)→
   wpAny P .any pre (beh P ops pre.size Q) fuel listed a w→wpAny P .any ops Q (fuel + 1) (listed.push false) a w:=by
 simp only [snocB,Bool.and_eq_true] at hc
 obtain⟨⟨⟨hback,hbackL⟩,hcert⟩,hall⟩:=hc
 have hsz:=ops_size hops
 have getP:∀ (listed:Array Bool) (i:Nat),listed.size=pre.size→(listed.push false).getD i false=listed.getD i false:=by
  intro listed i hs
  by_cases h:i < listed.size
  ·simp [Array.getD,h,Array.getElem_push,Nat.lt_succ_of_lt h]
  ·by_cases h2:i=listed.size
   ·subst h2; simp [Array.getD]
   ·have:¬ i < listed.size + 1:=by omega
    simp [Array.getD,h,this]
 have full:∀ listed:Array Bool,listed.size=pre.size→Region.ready .any pre listed=[]→∀ i,i < pre.size→listed.getD i false=true:=by
  intro listed hs hr i
  induction i using Nat.strongRecOn with
  | _ i ih =>
   intro hi
   cases hb:listed.getD i false with
   | true => rfl
   | false =>
    exfalso
    have:i ∈ Region.ready .any pre listed:=by
     refine (ready_mem hs).2 ⟨hi,hb,_,Array.getElem?_eq_getElem hi,fun e he hbe => ?_⟩
     have h2:=zipIdx_all hback i pre[i] (by simp [hi])
     simp only [List.all_eq_true] at h2
     have h3:=h2 e he
     rw [hbe] at h3
     have hlt:e.on < i:=by simpa [Nat.blt_eq] using h3
     exact ih e.on hlt (by omega)
    rw [hr] at this
    cases this
 have lastReady:∀ listed:Array Bool,listed.size=pre.size→(∀ i,i < pre.size→listed.getD i false=true)→pre.size ∈ Region.ready .any ops (listed.push false):=by
  intro listed hs hd
  refine (ready_mem (by simp [hs,hsz])).2 ⟨by omega,?_,last,last_at hops,fun e he hbe => ?_⟩
  ·rw [getP _ _ hs]; simp [Array.getD,hs]
  ·simp only [List.all_eq_true] at hbackL
   have h3:=hbackL e he
   rw [hbe] at h3
   have hlt:e.on < pre.size:=by simpa [Nat.blt_eq] using h3
   rw [getP _ _ hs]; exact hd _ hlt
 have notNil:∀ listed:Array Bool,listed.size=pre.size→Region.ready .any ops (listed.push false) ≠ []:=by
  intro listed hs hn
  by_cases hr:Region.ready .any pre listed=[]
  ·have:=lastReady listed hs (full listed hs hr); rw [hn] at this; cases this
  ·obtain⟨i,hi⟩:=List.exists_mem_of_ne_nil _ hr
   obtain⟨h1,h2,o,h3,h4⟩:=(ready_mem hs).1 hi
   have:i ∈ Region.ready .any ops (listed.push false):=(ready_mem (by simp [hs,hsz])).2 ⟨by omega,by rw [getP _ _ hs]; exact h2,o,by rw [pre_at hops h1]; exact h3,fun e he hb => by rw [getP _ _ hs]; exact h4 e he hb⟩
   rw [hn] at this; cases this
 have doneAll:∀ listed:Array Bool,listed.size=pre.size→(∀ j,listed.getD j false=true→∀ i ∈ cert.getD j [],listed.getD i false=true)→pre.size ∈ Region.ready .any ops (listed.push false)→∀ i,i < pre.size→listed.getD i false=true:=by
  intro listed hs hcl hr i hi
  obtain⟨_,_,o,ho,h4⟩:=(ready_mem (by simp [hs,hsz])).1 hr
  rw [last_at hops] at ho
  cases ho
  have:=List.all_eq_true.1 hall i (by simpa using hi)
  obtain⟨e,he,hq⟩:=List.any_eq_true.1 this
  simp only [Bool.and_eq_true,Bool.or_eq_true] at hq
  have hon:=h4 e he hq.1
  rw [getP _ _ hs] at hon
  rcases hq.2 with h | h
  ·cases Nat.eq_of_beq_eq_true h; exact hon
  ·obtain⟨j,hj,hjb⟩:=List.any_eq_true.1 h
   cases Nat.eq_of_beq_eq_true hjb
   exact hcl _ hon _ hj
 have nextNil:∀ listed:Array Bool,listed.size=pre.size→(∀ i,i < pre.size→listed.getD i false=true)→Region.ready .any ops ((listed.push false).setIfInBounds pre.size true)=[]:=by
  intro listed hs hd
  refine List.eq_nil_iff_forall_not_mem.2 fun i hi => ?_
  obtain⟨h1,h2,_⟩:=(ready_mem (by simp [hs,hsz])).1 hi
  by_cases hip:i=pre.size
  ·subst hip; simp [Array.getD,hs] at h2
  ·have hlt:i < pre.size:=by omega
   have:=hd i hlt
   have e:((listed.push false).setIfInBounds pre.size true).getD i false=(listed.push false).getD i false:=by
    have hne:pre.size ≠ i:=fun h => hip h.symm
    simp [hne]
   rw [e,getP _ _ hs,this] at h2
   cases h2
 have readyPre:∀ (listed:Array Bool) (i:Nat),listed.size=pre.size→i < pre.size→i ∈ Region.ready .any ops (listed.push false)→i ∈ Region.ready .any pre listed:=by
  intro listed i hs hi hr
  obtain⟨_,h2,o,h3,h4⟩:=(ready_mem (by simp [hs,hsz])).1 hr
  exact (ready_mem hs).2 ⟨hi,by rw [getP _ _ hs] at h2; exact h2,o,by rw [pre_at hops hi] at h3; exact h3,fun e he hb => by have:=h4 e he hb; rw [getP _ _ hs] at this; exact this⟩
 have fin:∀ (fuel:Nat) (listed:Array Bool) (a:Act) (w:World),listed.size=pre.size→(∀ i,i < pre.size→listed.getD i false=true)→beh P ops pre.size Q .normal a w→wpOp P ops Q pre.size (wpAny P .any ops Q fuel ((listed.push false).setIfInBounds pre.size true)) a w:=by
  intro fuel listed a w hs hd h
  refine wpOp_mono (fun a w hq => ?_) h
  have hn:=nextNil listed hs hd
  cases fuel with
  | zero => exact⟨hn,hq⟩
  | succ f => exact⟨fun _ => hq,fun i hi => by rw [hn] at hi; cases hi⟩
 intro fuel
 induction fuel with
 | zero =>
  rintro listed a w hs hcl ⟨h1,h2⟩
  refine⟨fun h => absurd h (notNil listed hs),fun i hi => ?_⟩
  have hd:=full listed hs h1
  have hi1:=((ready_mem (by simp [hs,hsz])).1 hi).1
  by_cases hip:i=pre.size
  ·subst hip; exact fin 0 listed a w hs hd h2
  ·have:=readyPre listed i hs (by omega) hi
   rw [h1] at this; cases this
 | succ fuel ih =>
  rintro listed a w hs hcl ⟨h1,h2⟩
  refine⟨fun h => absurd h (notNil listed hs),fun i hi => ?_⟩
  have hi1:=((ready_mem (by simp [hs,hsz])).1 hi).1
  by_cases hip:i=pre.size
  ·subst hip
   have hd:=doneAll listed hs hcl hi
   have hr0:Region.ready .any pre listed=[]:=List.eq_nil_iff_forall_not_mem.2 fun j hj => by
    obtain⟨g1,g2,_⟩:=(ready_mem hs).1 hj
    rw [hd j g1] at g2; cases g2
   exact fin (fuel + 1) listed a w hs hd (h1 hr0)
  ·have hlt:i < pre.size:=by omega
   have hrp:=readyPre listed i hs hlt hi
   refine wpOp_mono (fun a w hk => ?_) (wpOp_pre hops hg hlt (h2 i hrp))
   have e:(listed.push false).setIfInBounds i true=(listed.setIfInBounds i true).push false:=by
    apply Array.ext'
    simp [hs,hlt]
   rw [e]
   refine ih _ a w (by simpa using hs) (fun j hj q hq => ?_) hk
   obtain⟨_,_,o,ho,h4⟩:=(ready_mem hs).1 hrp
   by_cases hqi:q=i
   ·subst hqi; simp [Array.getD,hs,hlt]
   ·have hset:∀ z,z ≠ i→(listed.setIfInBounds i true).getD z false=listed.getD z false:=fun z hz => by
     have:i ≠ z:=fun h => hz h.symm
     simp [this]
    rw [hset q hqi]
    by_cases hji:j=i
    ·subst hji
     have hz:=zipIdx_all hcert j o (by rw [Array.getElem?_toList]; exact ho)
     simp only [List.all_eq_true] at hz
     obtain⟨e,he,hb⟩:=List.any_eq_true.1 (hz q hq)
     simp only [Bool.and_eq_true,Bool.or_eq_true] at hb
     have hon:=h4 e he hb.1
     rcases hb.2 with h | h
     ·cases Nat.eq_of_beq_eq_true h; exact hon
     ·obtain⟨z,hz1,hz2⟩:=List.any_eq_true.1 h
      cases Nat.eq_of_beq_eq_true hz2
      exact hcl _ hon _ hz1
    ·rw [hset j hji] at hj
     exact hcl j hj q hq
end
section
variable {P:Program} {n:Nat}
def OkD (P:Program) (n:Nat) (ops:Array Oper) (σ σ':St):Prop:=
 ∀ cx a w Q,Sim cx n σ a w→(∀ a' w',Sim cx n σ' a' w'→Q Exit.normal a' w')→wpAny P .any ops Q ops.size (Array.replicate ops.size false) a { w with drawn:=w.drawn + 1 }
theorem OkD.snoc {ops pre:Array Oper} {last:Oper} {σ σ1 σ2:St} {cert:List (List Nat)} (h:OkD P n pre σ σ1) (hops:ops.toList=pre.toList ++ [last]) (hc:(guardsIn pre.toList && snocB pre.toList last cert)=true) (hg:last.guard=none) (hl:OpOk P n last σ1 σ2):OkD P n ops σ σ2:=by
 simp only [Bool.and_eq_true] at hc
 intro cx a w Q hs hq
 have h1:=h cx a w (beh P ops pre.size Q) hs fun a' w' hs' => by
  show wpOp P ops Q pre.size (fun a w => Q .normal a w) a' w'
  unfold wpOp
  rw [last_at hops]
  simp only [Region.wanted,hg,if_true]
  exact .inl (hl cx a' w' _ _ hs' fun a'' w'' hs'' => hq a'' w'' hs'')
 have:=wpAny_snoc hops hc.1 hc.2 _ _ _ _ (by simp) (fun j hj => absurd hj (by rw [rep_false]; simp)) h1
 rw [ops_size hops]
 have e:(Array.replicate pre.size false).push false=Array.replicate (pre.size + 1) false:=by
  rw [← Array.replicate_succ]
 rw [← e]
 exact this
theorem OkD.le {ops:Array Oper} {σ σ1 σ2:St} (h:OkD P n ops σ σ1) (hl:SLe σ2 σ1):OkD P n ops σ σ2:=fun cx a w Q hs hq => h cx a w Q hs fun a' w' hs' => hq a' w' (hl _ _ _ _ hs')
def noOper:Oper:={ dst:=none,op:=.move (.tmp 0),type:=0,pos:="",after:=#[],guard:=none }
def lastOf (ops:Array Oper):Oper:=match ops.toList.getLast? with | some o => o | none => noOper
theorem lastOf_eq {ops:Array Oper} (h:Nat.ble 1 ops.size=true):ops.toList=ops.pop.toList ++ [lastOf ops]:=by
 have h1:1 ≤ ops.size:=Nat.le_of_ble_eq_true h
 have hne:ops.toList ≠ []:=fun e => by have h2:=congrArg List.length e; rw [Array.length_toList] at h2; simp only [List.length_nil] at h2; omega
 have:lastOf ops=ops.toList.getLast hne:=by simp [lastOf,List.getLast?_eq_some_getLast hne]
 rw [this,Array.toList_pop]; exact (List.dropLast_concat_getLast hne).symm
def lastB (ops:Array Oper) (cert:List (List Nat)):Bool:=
 Nat.ble 1 ops.size && (guardsIn ops.pop.toList && snocB ops.pop.toList (lastOf ops) cert) && (lastOf ops).guard.isNone
end
end Go.Proofs.Vx
