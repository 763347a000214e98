import Derived.Test.YtapbckofgcmgmaaGreatDoorVxE
import Derived.Lib.AppendStr
namespace Go.Proofs.Vx
open Go Go.RowKit
set_option linter.unusedSectionVars false
variable [Glo]
section
variable {P:Program} {n:Nat} {o:Oper} {σ:St}
theorem rho_setB {β:Nat→Value} {T:List (Nat × Ob)} {t:Nat} {e e':Ex} {cells cells':List D} (hb:getT T t=.box e cells) {d:D} {x:Value} (h:rho β T d x):rho β ((t,.box e' cells') :: T) d x:=by
 cases d with
 | bref u off =>
  simp only [rho] at h ⊢
  by_cases hu:u=t
  ·subst hu; rw [getT_cons_same]; rw [hb] at h; exact h
  ·rw [getT_cons_other hu]; exact h
 | sref u =>
  simp only [rho] at h ⊢
  by_cases hu:u=t
  ·subst hu; rw [hb] at h; exact h.elim
  ·rw [getT_cons_other hu]; exact h
 | eref u i off =>
  simp only [rho] at h ⊢
  by_cases hu:u=t
  ·subst hu; rw [getT_cons_same]; rw [hb] at h; exact h
  ·rw [getT_cons_other hu]; exact h
 | mref u =>
  simp only [rho] at h ⊢
  by_cases hu:u=t
  ·subst hu; rw [hb] at h; exact h.elim
  ·rw [getT_cons_other hu]; exact h
 | _ => exact h
def splice {α:Type} (l:List α) (off:Nat) (ds:List α):List α:=l.take off ++ ds ++ l.drop (off + ds.length)
theorem splice_at {α:Type} {l:List α} {off:Nat} {ds:List α} (h:off + ds.length ≤ l.length) (k:Nat):(splice l off ds)[k]? =if off ≤ k ∧ k < off + ds.length then ds[k - off]? else l[k]?:=by
 unfold splice
 by_cases h1:k < off
 ·rw [if_neg (by omega),List.append_assoc,List.getElem?_append_left (by simp; omega),List.getElem?_take,if_pos h1]
 ·by_cases h2:k < off + ds.length
  ·rw [if_pos ⟨by omega,h2⟩,List.append_assoc,List.getElem?_append_right (by simp; omega),List.getElem?_append_left (by simp; omega)]
   congr 1; simp; omega
  ·rw [if_neg (by omega),List.getElem?_append_right (by simp; omega),List.getElem?_drop]
   congr 1; simp; omega
theorem splice_len {α:Type} {l:List α} {off:Nat} {ds:List α} (h:off + ds.length ≤ l.length):(splice l off ds).length=l.length:=by simp [splice]; omega
theorem OpOk.storeB {ty:TypeId} {x yo:Operand} {t off sz:Nat} {e:Ex} {cells ds:List D} (ho:o.op=.store ty x yo) (hz:szOf P ty=some sz) (hx:σ.ev x=.bref t off) (hb:getT σ.T t=.box e cells) (hE2:(e.own && e.okSt off)=true)
  (hy:cellsOf (σ.ev yo)=some ds) (hl:(Nat.beq ds.length sz && Nat.ble (off + sz) cells.length)=true) (hn:dstB n o.dst=true) :
  OpOk P n o σ (St.put ⟨σ.fr,(t,.box e (splice cells off ds)) :: σ.T⟩ o.dst .junk):=
 .stepU hn fun cx ι β a w hi hr => by
  simp only [Bool.and_eq_true] at hl hE2
  obtain⟨hE,hokst⟩:=hE2
  have hdl:=Nat.eq_of_beq_eq_true hl.1
  have hfit:=Nat.le_of_ble_eq_true hl.2
  have hxx:=hr x
  rw [hx] at hxx
  have hrho:=hxx.ref_inv rfl
  simp only [rho,hb] at hrho
  obtain⟨b,hβ,hv⟩:=hrho
  obtain⟨b',c,ty',hβ',hh,hlen,h1,hg,hex,_,hat⟩:=box_at hi hb
  obtain rfl:b=b':=by rw [hβ] at hβ'; simpa using hβ'
  obtain⟨hyl,hy1,hyR⟩:=(hr yo).cells hy
  have hst:=run_storeCells_at P b off ty' (a.eval yo).cells.toList 0 c w hh (by simp; omega) (fun v hv => by
   obtain⟨k,hk⟩:=List.mem_iff_getElem?.1 hv
   exact hy1 k v (by simpa using hk))
  simp only [Nat.add_zero] at hst
  generalize hc':(c.toList.take off ++ (a.eval yo).cells.toList ++ c.toList.drop (off + (a.eval yo).cells.toList.length))=c' at hst
  have hcs:c'=splice c.toList off (a.eval yo).cells.toList:=hc'.symm
  have hc'l:c'.length=c.size:=by rw [hcs,splice_len (by simp; omega)]; simp
  have hgo:Goes ι w ι (w.setRow b c'.toArray) (some b):=
   ⟨rfl,rfl,rfl,by simp,fun k _ hk => setRow_other w b k _ (fun e => hk (by rw [e])),fun _ _ h => h,fun _ _ h => .inl h,fun b1 o1 hb1 => World.cell?_of_block (w:=w) (setRow_other w b b1 _ (fun e => hex hE o1 (e ▸ hb1)))⟩
  have hR:∀ d y,R ι w (rho β σ.T) d y→R ι (w.setRow b c'.toArray) (rho β ((t,.box e (splice cells off ds)) :: σ.T)) d y:=fun d y hd => hd.mono hgo.sub hgo.cell (fun d x h => rho_setB hb h)
  refine⟨w.setRow b c'.toArray,ι,β,?_,hi.step t (some b) hgo.os hgo.tape hgo.output hgo.size hgo.kept (fun k hk => by cases hk; exact⟨by rw [hβ]; rfl,by rw [hb]; exact fun h => by cases h⟩) hgo.sub hgo.new hgo.cell (fun _ _ => rfl) (fun u hu => .inr (getT_cons_other hu)) (fun u _ cs _ _ _ d _ y hd => hR d y hd) ?_ ?_,fun s x hsx => hR _ _ hsx⟩
  ·have hne:¬ ((a.eval yo).cells.size ≠ sz):=by omega
   simp [execOp,ho,hv,Instr.storeAt,Instr.sureAddr,storeVar,run_sizeOf' hz,hne,hst]
  ·rw [getT_cons_same]
   refine⟨b,c'.toArray,ty',hβ,setRow_heap w b c _ ty' _ hh,by simp [hc'l,splice_len (show off + ds.length ≤ cells.length by omega),hlen],fun k y hy => ?_,fun k d y hd hy => hR d y ?_,fun _ o => hex hE o,fun h => (by rw [hE] at h; cases h),Ex.pin_set hat hokst fun h0 => ?_⟩
   ·simp only [List.getElem?_toArray] at hy
    rw [hcs,splice_at (by simp; omega)] at hy
    split at hy
    ·exact hy1 _ _ (by simpa using hy)
    ·exact h1 _ _ (by simpa using hy)
   ·simp only [List.getElem?_toArray] at hy
    rw [hcs,splice_at (by simp; omega)] at hy
    rw [splice_at (by omega)] at hd
    have e:(a.eval yo).cells.toList.length=ds.length:=by simp [hyl]
    rw [e] at hy
    split at hy
    ·rename_i h; rw [if_pos h] at hd; exact hyR _ _ _ hd (by simpa using hy)
    ·rename_i h; rw [if_neg h] at hd; exact hg _ _ _ hd (by simpa using hy)
   ·simp only [List.getElem?_toArray]
    rw [hcs,splice_at (by simp; omega),if_neg (by omega)]
    simp
  ·intro b1 hb1; exact .inr (.inr ⟨hb1,by rw [hb]; exact fun h => by cases h⟩)
def zero1:Option Nat→Value→Option D
 | some sz,.slice none 0 0 => some (.list sz [])
 | none,v => match v.oneCell' with | true => some (.v v) | false => none
 | _,_ => none
def zeroD:List (Option Nat)→List Value→Option (List D)
 | [],[] => some []
 | s :: r,v :: vs => match zero1 s v,zeroD r vs with
  | some d,some l => some (d :: l)
  | _,_ => none
 | _,_ => none
theorem zero1_R {ι w} {s:Option Nat} {v:Value} {d:D} (h:zero1 s v=some d):v.oneCell'=true ∧ Pu ι w d v:=by
 unfold zero1 at h
 split at h
 ·cases h; exact⟨rfl,.listNil _ none 0 (fun _ => rfl)⟩
 ·split at h
  ·cases h; exact⟨‹_›,.v _⟩
  ·cases h
 ·cases h
theorem zeroD_R {ι w}:∀ {sp:List (Option Nat)} {vs:List Value} {ds:List D},zeroD sp vs=some ds→vs.length=ds.length ∧ (∀ (k:Nat) y,vs[k]? =some y→y.oneCell'=true) ∧ ∀ (k:Nat) d y,ds[k]? =some d→vs[k]? =some y→Pu ι w d y
 | [],[],ds,h => by cases h; exact⟨rfl,fun k y h => by simp at h,fun k d y h => by simp at h⟩
 | s :: r,v :: vs,ds,h => by
  simp only [zeroD] at h
  split at h
  ·rename_i d l hd hl
   cases h
   obtain⟨h0,h1,h2⟩:=zeroD_R hl (ι:=ι) (w:=w)
   obtain⟨hone,hp⟩:=zero1_R (ι:=ι) (w:=w) hd
   refine⟨by simp [h0],fun k y hy => ?_,fun k d y hd hy => ?_⟩
   ·cases k with
    | zero => cases hy; exact hone
    | succ k => exact h1 k y hy
   ·cases k with
    | zero => cases hd; cases hy; exact hp
    | succ k => exact h2 k d y hd hy
  ·cases h
 | s :: r,[],ds,h => by cases h
 | [],v :: vs,ds,h => by cases h
theorem OpOk.alloc {elem:TypeId} {z:Value} {cells:List D} (t:Nat) (sp:List (Option Nat)) (ho:o.op=.alloc elem) (hz:zeroOf P elem=some z) (hc:zeroD sp z.cells.toList=some cells) (hn:dstB n o.dst=true) :
  OpOk P n o σ ((obSt σ t (.box .ex cells)).put o.dst (.bref t 0)):=
 .ob hn fun cx ι β a w hi hr => by
  have hgo:Goes ι w ι (w.alloc (.cells z.cells elem)) none:=
   ⟨rfl,rfl,rfl,by simp,fun k hk _ => Below.heap_alloc w _ k hk,fun _ _ h => h,fun _ _ h => .inl h,fun b o hb => World.cell?_alloc_lt w _ _ (hi.lt b o hb)⟩
  obtain⟨hl,h1,hg⟩:=zeroD_R hc (ι:=ι) (w:=w.alloc (.cells z.cells elem))
  refine⟨.pointer (some ⟨w.heap.size,0,none⟩),_,ι,.pointer (some ⟨w.heap.size,0,none⟩),none,by simp [execOp,ho,Instr.alloc,run_zeroValue' hz,newVar,newRow],hgo,fun _ h => (by cases h),?_,fun b hb => ?_,?_⟩
  ·refine⟨_,z.cells,elem,rfl,heap_alloc_new w _,by simpa using hl,fun k y hy => h1 k y (by simpa using hy),fun k d y hd hy => .pu (hg k d y hd (by simpa using hy)),fun _ o ho => by have:=hi.lt _ _ ho; omega,fun h => (by cases h),trivial⟩
  ·cases hb; exact .inl (Nat.le_refl _)
  ·exact .ref rfl rfl (by simp only [rho,getT_cons_same,upd_same]; exact⟨_,rfl,rfl⟩)
theorem OpOk.nilT {v:Value} (t ety sz:Nat) (ho:o.op=.assign (.const v) ∨ o.op=.move (.const v)) (hv:v=.slice none 0 0) (hn:dstB n o.dst=true) :
  OpOk P n o σ ((obSt σ t (.rows true ety sz [])).put o.dst (.sref t)):=
 .ob hn fun cx ι β a w hi hr => by
  subst hv
  have hgo:Goes ι w ι w none:=⟨rfl,rfl,rfl,Nat.le_refl _,fun _ _ _ => rfl,fun _ _ h => h,fun _ _ h => .inl h,fun _ _ _ => rfl⟩
  refine⟨.slice none 0 0,w,ι,.slice none 0 0,none,by rcases ho with ho | ho <;> simp [execOp,ho,Act.eval],hgo,fun _ h => (by cases h),?_,fun b hb => (by cases hb),?_⟩
  ·exact⟨[],World.ownsRow_nil w 0 ety sz,fun r hr => (by cases hr),fun y hy => (by cases hy),fun k d y hd => (by simp at hd),fun b hb => (by cases hb)⟩
  ·exact .ref rfl rfl (by simp only [rho,getT_cons_same,upd_same])
theorem rows_at {cx ι β w} (hi:Inv cx ι β σ.T w) {t:Nat} {e:Bool} {ety sz:Nat} {rs:List (List D)} (hb:getT σ.T t=.rows e ety sz rs):ObOk ι w (rho β σ.T) (β t) (.rows e ety sz rs):=by
 have:=hi.obj t; rw [hb] at this; exact this
theorem append_core {cx ι β w} {t ety sz:Nat} {rs:List (List D)} (hi:Inv cx ι β σ.T w) (hb:getT σ.T t=.rows true ety sz rs) {v':Value} {w':World} {xs news:List Value} {m:Nat} {rows:List (List D)} (hm:rows.length=m)
  (hsz:∀ r ∈ rows,r.length=sz) (hxl:xs.length=rs.length * sz)
  (hxs:∀ (k:Nat) d y,rs.flatten[k]? =some d→xs[k]? =some y→Pu ι w d y) (hx1:∀ y ∈ xs,y.oneCell'=true) (hn1:∀ y ∈ news,y.oneCell'=true) (hrs:∀ r ∈ rs,r.length=sz)
  (hnews:∀ (k:Nat) d y,rows.flatten[k]? =some d→news[k]? =some y→Pu ι w d y)
  (hob:∀ b,blockOf (β t)=some b→∀ o,¬ ι b o)
  (hown:w'.ownsRow 0 ety sz v' (rs.length + m) (xs ++ news)) (hgr:w.grownBy w' (β t).ownBlock) (hv':blockOf v'=blockOf (β t) ∨ ∀ b,blockOf v'=some b→w.heap.size ≤ b) :
  ∃ tb,Goes ι w ι w' tb ∧ (∀ k,tb=some k→blockOf (β t)=some k ∧ getT σ.T t ≠ .none) ∧
   ObOk ι w' (rho (upd β t v') ((t,.rows true ety sz (rs ++ rows)) :: killT t σ.T)) v' (.rows true ety sz (rs ++ rows)) ∧
   (∀ b,blockOf v'=some b→w.heap.size ≤ b ∨ (blockOf (β t)=some b ∧ getT σ.T t ≠ .none)):=by
 have hbl:∀ x:Value,(∃ a n c,x=.slice a n c)→x.ownBlock=blockOf x:=by rintro x ⟨a,n,c,rfl⟩; cases a <;> rfl
 have hβs:∃ a n c,β t=.slice a n c:=by
  obtain⟨ys,ho,_⟩:=rows_at hi hb
  rcases ho.2 with ⟨h,_⟩ |⟨g,cap,cur,h,_⟩ <;> exact⟨_,_,_,h⟩
 rw [hbl _ hβs] at hgr
 have halive:getT σ.T t ≠ .none:=by rw [hb]; exact fun h => by cases h
 have hkeep:∀ b o,ι b o→w'.cell? ⟨b,o,none⟩=w.cell? ⟨b,o,none⟩:=fun b o h => World.cell?_of_block (w:=w) (hgr.block b (hi.lt b o h) (fun e => hob b e.symm o h))
 refine⟨blockOf (β t),⟨hgr.os,hgr.tape,hgr.output,hgr.size,fun k hk hne => hgr.block k hk hne,fun b o h => h,fun b o h => .inl h,hkeep⟩,fun k hk =>⟨hk,halive⟩,?_,fun b hb' => ?_⟩
 ·have hno:∀ b,blockOf v'=some b→∀ o,¬ ι b o:=fun b hbb o h => by
   rcases hv' with e' | e'
   ·exact hob b (e' ▸ hbb) o h
   ·have:=hi.lt b o h; have:=e' b hbb; omega
  refine⟨xs ++ news,?_,fun r hr => ?_,fun y hy => ?_,fun k d y hd hy => ?_,fun b hbb =>⟨fun o _ => hno b hbb o,fun _ o => hno b hbb o,fun he => by cases he⟩⟩
  ·rw [List.length_append,hm]; exact hown
  ·rcases List.mem_append.1 hr with h | h
   ·exact hrs r h
   ·exact hsz r h
  ·rcases List.mem_append.1 hy with h | h
   ·exact hx1 y h
   ·exact hn1 y h
  ·have hfl:rs.flatten.length=xs.length:=by rw [flatten_len hrs,hxl]
   rw [List.flatten_append] at hd
   by_cases hk:k < xs.length
   ·rw [List.getElem?_append_left (by omega)] at hd
    rw [List.getElem?_append_left hk] at hy
    exact (hxs k d y hd hy).mono (fun _ _ h => h) hkeep
   ·rw [List.getElem?_append_right (by omega)] at hd
    rw [List.getElem?_append_right (by omega)] at hy
    rw [hfl] at hd
    exact (hnews _ d y hd hy).mono (fun _ _ h => h) hkeep
 ·rcases hv' with e' | e'
  ·exact .inr ⟨e' ▸ hb',halive⟩
  ·exact .inl (e' b hb')
theorem run_append_zero {w:World} {t ty e:TypeId} {i:TypeInfo} (ht:P.underlying t=some (.slice e)) (hi:P.info? e=some i) {base sz n:Nat} {v:Value} {xs:List Value} (hown:w.ownsRow base e sz v n xs) (A:Option Addr) (c:Nat) :
  (Builtin.append_ #[t,t] ty #[v,.slice A 0 c]).run P w=.ok v w:=by
 rcases hown.2 with ⟨rfl,rfl⟩ |⟨g,cap,cur,rfl,_,_,hnc,_⟩
 ·cases A <;> simp [Builtin.append_,run_underlying ht,sizeOf,typeInfo,hi,Builtin.lenOf,Builtin.firstCells,loadCells,loadCellsFrom]
 ·cases A <;> simp [Builtin.append_,run_underlying ht,sizeOf,typeInfo,hi,Builtin.lenOf,Builtin.firstCells,loadCells,loadCellsFrom,hnc,storeCells]
structure Elt (P:Program) (ety sz by_:Nat):Prop where
 hsz:szOf P ety=some sz
 hby:bytesOf P ety=some by_
 hz:∃ z,zeroOf P ety=some z ∧ z.cells.size=sz
 pos:0 < sz
 pos':0 < by_
theorem Elt.mk' {P:Program} {ety sz by_:Nat} (h1:szOf P ety=some sz) (h2:bytesOf P ety=some by_) (h3:(zeroOf P ety).map (fun z => z.cells.size)=some sz) (h4:(Nat.ble 1 sz && Nat.ble 1 by_)=true):Elt P ety sz by_:=by
 simp only [Bool.and_eq_true] at h4
 refine⟨h1,h2,?_,Nat.le_of_ble_eq_true h4.1,Nat.le_of_ble_eq_true h4.2⟩
 cases hz:zeroOf P ety with
 | none => simp [hz] at h3
 | some z => rw [hz] at h3; simp at h3; exact⟨z,rfl,h3⟩
theorem Elt.info {P:Program} {ety sz by_:Nat} (h:Elt P ety sz by_):∃ (i:TypeInfo) (z:Value),P.info? ety=some i ∧ i.zero=some z ∧ i.size=sz ∧ i.bytes=by_ ∧ z.cells.size=sz:=by
 obtain⟨h1,h2,⟨z,h3,h4⟩,_,_⟩:=h
 unfold szOf at h1; unfold bytesOf at h2; unfold zeroOf at h3
 cases hi:P.info? ety with
 | none => simp [hi] at h1
 | some i => rw [hi] at h1 h2 h3; simp at h1 h2 h3; exact⟨i,z,rfl,h3,h1,h2,h4⟩
theorem append_ex {s x:Operand} {ty ety sz by_ t:Nat} {rs rows:List (List D)} (ho:o.op=.call { callee:=.builtin .append,args:=#[s,x],argTypes:=#[ty,ty] }) (ht:P.underlying ty=some (.slice ety)) (he:Elt P ety sz by_)
  (hs:σ.ev s=.sref t) (hb:getT σ.T t=.rows true ety sz rs) (hl:(rs.length + rows.length) * by_ ≤ 140737488355328)
  (hx:∀ (cx:Cx) (ι:Nat→Nat→Prop) (β:Nat→Value) (a:Act) (w:World),Inv cx ι β σ.T w→(∀ x:Operand,R ι w (rho β σ.T) (σ.ev x) (a.eval x))→∃ (A:Option Addr) (c:Nat) (news:List Value),a.eval x=.slice A rows.length c ∧ (A=none→rows=[]) ∧ (∀ r ∈ rows,r.length=sz) ∧
   news.length=rows.length * sz ∧ (∀ ad,A=some ad→∀ (j:Nat) u,news[j]? =some u→w.cell? (ad.add j)=some u) ∧ (∀ u ∈ news,u.oneCell'=true) ∧ ∀ (k:Nat) d y,rows.flatten[k]? =some d→news[k]? =some y→Pu ι w d y)
  {cx:Cx} {ι:Nat→Nat→Prop} {β:Nat→Value} {a:Act} {w:World} (hi:Inv cx ι β σ.T w) (hr:∀ x:Operand,R ι w (rho β σ.T) (σ.ev x) (a.eval x)) :
   ∃ v w' ι' x tb,(execOp a.eval o).run P w=.ok (.value v) w' ∧ Goes ι w ι' w' tb ∧ (∀ k,tb=some k→blockOf (β t)=some k ∧ getT σ.T t ≠ .none) ∧
    ObOk ι' w' (rho (upd β t x) ((t,.rows true ety sz (rs ++ rows)) :: killT t σ.T)) x (.rows true ety sz (rs ++ rows)) ∧ (∀ b,blockOf x=some b→w.heap.size ≤ b ∨ (blockOf (β t)=some b ∧ getT σ.T t ≠ .none)) ∧
    R ι' w' (rho (upd β t x) ((t,.rows true ety sz (rs ++ rows)) :: killT t σ.T)) (.sref t) v:=by
  obtain⟨A,c,news,hv,hA,hsz,hnl,hcell,hone,hnR⟩:=hx cx ι β a w hi hr
  have hss:=hr s
  rw [hs] at hss
  have hrho:=hss.ref_inv rfl
  simp only [rho,hb] at hrho
  obtain⟨xs,hown,hrs,hx1,hxR,hfree⟩:=rows_at hi hb
  obtain⟨i,z,hinf,hz,hsize,hby,hzs⟩:=he.info
  have hno:∀ b,blockOf (β t)=some b→∀ o,¬ ι b o:=fun b hb' => (hfree b hb').2.1 rfl
  have hfl:rs.length + rows.length ≤ 140737488355328:=Nat.le_trans (Nat.le_mul_of_pos_right _ he.pos') hl
  suffices fin:∃ v' w',(Builtin.append_ #[ty,ty] o.type #[β t,.slice A rows.length c]).run P w=.ok v' w' ∧ w'.ownsRow 0 ety sz v' (rs.length + rows.length) (xs ++ news) ∧ w.grownBy w' (β t).ownBlock ∧
    (blockOf v'=blockOf (β t) ∨ ∀ b,blockOf v'=some b→w.heap.size ≤ b) by
   obtain⟨v',w',hrun,hown',hgr,hbl⟩:=fin
   obtain⟨tb,hgo,h1,h2,h3⟩:=append_core (σ:=σ) hi hb (rows:=rows) rfl hsz hown.1 hxR hx1 hone hrs hnR hno hown' hgr hbl
   exact⟨v',w',ι,v',tb,by simp [execOp,ho,resolve,invoke,builtin,hrho,hv,hrun],hgo,h1,h2,h3,.ref rfl (by rcases hown'.2 with ⟨rfl,_⟩ |⟨_,_,_,rfl,_⟩ <;> rfl) (by simp only [rho,getT_cons_same,upd_same])⟩
  by_cases hm:rows.length=0
  ·have hr0:rows=[]:=List.eq_nil_of_length_eq_zero hm
   subst hr0
   have hn0:news=[]:=List.eq_nil_of_length_eq_zero (by simpa using hnl)
   subst hn0
   exact⟨β t,w,run_append_zero ht hinf hown A c,by simpa using hown,⟨rfl,rfl,rfl,Nat.le_refl _,fun _ _ _ => rfl⟩,.inl rfl⟩
  ·cases hAA:A with
   | none => exact absurd (by rw [hA hAA]; rfl) hm
   | some ad =>
    have hsm:rs.length + rows.length ≤ maxLen:=by unfold maxLen; omega
    subst hAA
    rcases hown.2 with ⟨hβ,hn0⟩ |⟨g,cap,cur,hβ,h0,hg,hnc,hcm,hcs,htake⟩
    ·obtain⟨v',w',hrun,hown',hgr,_⟩:=run_append_own (P:=P) w 0 ty o.type ety i z sz by_ ht hinf hz hsize hby hzs he.pos _ _ _ hown ad rows.length c news hnl (hcell ad rfl) hone hsm hl (Nat.zero_le _)
     refine⟨v',w',hrun,hown',hgr,.inr fun b hb' => ?_⟩
     have hrn:=run_append_nil (P:=P) w ty o.type ety i z ht hinf hz ad rows.length c news (by rw [hsize]; exact hnl) (hcell ad rfl) (by omega) (by omega) (by rw [hby]; have:rows.length * by_ ≤ (rs.length + rows.length) * by_:=Nat.mul_le_mul_right _ (by omega); omega)
     rw [hβ] at hrun
     rw [hrun] at hrn
     cases hrn
     cases hb'; exact Nat.le_refl _
    ·by_cases hroom:rs.length + rows.length ≤ cap
     ·obtain⟨v',w',hrun,hown',hgr,_⟩:=run_append_own (P:=P) w 0 ty o.type ety i z sz by_ ht hinf hz hsize hby hzs he.pos _ _ _ hown ad rows.length c news hnl (hcell ad rfl) hone hsm hl (Nat.zero_le _)
      refine⟨v',w',hrun,hown',hgr,.inl ?_⟩
      have hrr:=run_append_room (P:=P) w ty o.type ety i ht hinf g rs.length cap cur hg ad rows.length c news (by rw [hsize]; exact hnl) (hcell ad rfl) hone hroom (by rw [hsize,hnl,hcs,← Nat.add_mul]; exact Nat.mul_le_mul_right _ hroom)
      rw [hβ] at hrun
      rw [hrun] at hrr
      cases hrr
      rw [hβ]; rfl
     ·obtain⟨v',w',hrun,hown',hgr,_⟩:=run_append_own (P:=P) w 0 ty o.type ety i z sz by_ ht hinf hz hsize hby hzs he.pos _ _ _ hown ad rows.length c news hnl (hcell ad rfl) hone hsm hl (Nat.zero_le _)
      refine⟨v',w',hrun,hown',hgr,.inr fun b hb' => ?_⟩
      have holds:=hown.cells (g:=g) (by rw [hβ]; rfl)
      have hrg:=run_append_grow (P:=P) w ty o.type ety i z ht hinf hz ⟨g,0,none⟩ rs.length cap xs (by rw [hsize]; exact hown.1) holds ad rows.length c news (by rw [hsize]; exact hnl) (hcell ad rfl) (by omega) (by omega) (by rw [hby]; exact growslice_fits (by omega) hl)
      rw [hβ] at hrun
      rw [hrun] at hrg
      cases hrg
      cases hb'; exact Nat.le_refl _
theorem OpOk.append_gen {s x:Operand} {ty ety sz by_ t:Nat} {rs rows:List (List D)} (ho:o.op=.call { callee:=.builtin .append,args:=#[s,x],argTypes:=#[ty,ty] }) (ht:P.underlying ty=some (.slice ety)) (he:Elt P ety sz by_)
  (hs:σ.ev s=.sref t) (hb:getT σ.T t=.rows true ety sz rs) (hl:(rs.length + rows.length) * by_ ≤ 140737488355328)
  (hx:∀ (cx:Cx) (ι:Nat→Nat→Prop) (β:Nat→Value) (a:Act) (w:World),Inv cx ι β σ.T w→(∀ x:Operand,R ι w (rho β σ.T) (σ.ev x) (a.eval x))→∃ (A:Option Addr) (c:Nat) (news:List Value),a.eval x=.slice A rows.length c ∧ (A=none→rows=[]) ∧ (∀ r ∈ rows,r.length=sz) ∧
   news.length=rows.length * sz ∧ (∀ ad,A=some ad→∀ (j:Nat) u,news[j]? =some u→w.cell? (ad.add j)=some u) ∧ (∀ u ∈ news,u.oneCell'=true) ∧ ∀ (k:Nat) d y,rows.flatten[k]? =some d→news[k]? =some y→Pu ι w d y)
  (hn:dstB n o.dst=true):OpOk P n o σ ((obSt σ t (.rows true ety sz (rs ++ rows))).put o.dst (.sref t)):=
 .ob hn fun _ _ _ _ _ hi hr => append_ex ho ht he hs hb hl hx hi hr
theorem list_ex {x:Operand} {sz:Nat} {rows:List (List D)} (hx:σ.ev x=.list sz rows):∀ (cx:Cx) (ι:Nat→Nat→Prop) (β:Nat→Value) (a:Act) (w:World),Inv cx ι β σ.T w→(∀ x:Operand,R ι w (rho β σ.T) (σ.ev x) (a.eval x))→∃ (A:Option Addr) (c:Nat) (news:List Value),a.eval x=.slice A rows.length c ∧ (A=none→rows=[]) ∧ (∀ r ∈ rows,r.length=sz) ∧
   news.length=rows.length * sz ∧ (∀ ad,A=some ad→∀ (j:Nat) u,news[j]? =some u→w.cell? (ad.add j)=some u) ∧ (∀ u ∈ news,u.oneCell'=true) ∧ ∀ (k:Nat) d y,rows.flatten[k]? =some d→news[k]? =some y→Pu ι w d y:=fun cx ι β a w hi hr => by
  have hxx:=hr x
  rw [hx] at hxx
  obtain⟨A,cap,hv,hcap,hA,hsp,hsz,f,hc,hf⟩:=hxx.list_inv
  refine⟨A,cap,(List.range (rows.length * sz)).map f,hv,fun h => List.eq_nil_of_length_eq_zero (by have:=hA h; omega),hsz,by simp,fun ad had j u hu => ?_,fun u hu => ?_,fun k d y hd hy => ?_⟩
  ·simp only [List.getElem?_map] at hu
   have hj:j < rows.length * sz:=by
    rcases Nat.lt_or_ge j (rows.length * sz) with h | h
    ·exact h
    ·rw [List.getElem?_eq_none (by simpa using h)] at hu; cases hu
   rw [List.getElem?_range hj] at hu
   cases hu
   obtain⟨b,off,spot⟩:=ad
   obtain rfl:spot=none:=hsp _ had (by rintro rfl; simp at hj)
   rw [Addr.add_lit]; exact (hc _ had j hj).1
  ·obtain⟨j,hj,rfl⟩:=List.mem_map.1 hu
   have hj:=List.mem_range.1 hj
   cases hAA:A with
   | none => exfalso; have:=hA hAA; have:rows.length=0:=by omega
             rw [this] at hj; simp at hj
   | some ad => exact (hc ad hAA j hj).2.1
  ·have hk:k < rows.length * sz:=by rw [← flatten_len hsz]; exact (List.getElem?_eq_some_iff.1 hd).1
   rw [List.getElem?_map,List.getElem?_range hk] at hy
   cases hy
   exact hf k d hd
theorem OpOk.appendList {s x:Operand} {ty ety sz by_ t:Nat} {rs rows:List (List D)} (ho:o.op=.call { callee:=.builtin .append,args:=#[s,x],argTypes:=#[ty,ty] }) (ht:P.underlying ty=some (.slice ety)) (he:Elt P ety sz by_)
  (hs:σ.ev s=.sref t) (hb:getT σ.T t=.rows true ety sz rs) (hx:σ.ev x=.list sz rows) (hl:(rs.length + rows.length) * by_ ≤ 140737488355328) (hn:dstB n o.dst=true) :
  OpOk P n o σ ((obSt σ t (.rows true ety sz (rs ++ rows))).put o.dst (.sref t)):=
 .append_gen ho ht he hs hb hl (list_ex hx) hn
end
end Go.Proofs.Vx
