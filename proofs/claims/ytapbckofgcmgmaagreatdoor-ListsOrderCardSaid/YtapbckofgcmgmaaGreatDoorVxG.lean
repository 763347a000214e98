import Derived.Test.YtapbckofgcmgmaaGreatDoorVxF
namespace Go.Proofs.Vx
open Go Go.RowKit
set_option linter.unusedSectionVars false
variable [Glo]
theorem splice_step {α:Type} (l:List α) (o:Nat) (c:α) (r:List α) (h:o + (r.length + 1) ≤ l.length):splice (l.set o c) (o + 1) r=splice l o (c :: r):=by
 apply List.ext_getElem?
 intro k
 rw [splice_at (by simp; omega),splice_at (by simp; omega)]
 simp only [List.length_cons,List.getElem?_set]
 by_cases h1:k < o
 ·rw [if_neg (by omega),if_neg (by omega),if_neg (by omega)]
 ·by_cases h2:k=o
  ·subst h2
   rw [if_neg (by omega),if_pos rfl,if_pos (by omega),if_pos (by omega)]; simp
  ·by_cases h3:k < o + (r.length + 1)
   ·rw [if_pos (by omega),if_pos (by omega)]
    have:k - o=(k - (o + 1)) + 1:=by omega
    rw [this,List.getElem?_cons_succ]
   ·rw [if_neg (by omega),if_neg (by omega),if_neg (by omega)]
theorem foldl_splice (off:Nat):∀ (l:List Value) (k:Nat) (cells:Array Value),off + k + l.length ≤ cells.size→
  ((l.zipIdx k).foldl (fun (cs:Array Value) (p:Value × Nat) => cs.setIfInBounds (off + p.2) p.1) cells).toList=splice cells.toList (off + k) l
 | [],k,cells,_ => by simp [splice]
 | c :: r,k,cells,h => by
  simp only [List.zipIdx_cons,List.foldl_cons]
  rw [foldl_splice off r (k + 1) _ (by simp at h ⊢; omega)]
  rw [Array.toList_setIfInBounds,← Nat.add_assoc,splice_step _ _ _ _ (by simp at h ⊢; omega)]
theorem run_fill_step (place:Nat→Option (Nat × Nat)) (cells:Array Value) (i:Nat) (v:Value) (rest:List (Nat × Value)) {off size:Nat} (hp:place i=some (off,size)) (hs:v.cells.size=size) (hf:off + size ≤ cells.size) :
  ∃ c':Array Value,c'.toList=splice cells.toList off v.cells.toList ∧ Instr.fill place cells ((i,v) :: rest)=Instr.fill place c' rest:=by
 refine⟨v.cells.zipIdx.foldl (fun cs (c,j) => cs.setIfInBounds (off + j) c) cells,?_,?_⟩
 ·have:=foldl_splice off v.cells.toList 0 cells (by simp; omega)
  rw [Nat.add_zero] at this
  rw [← this,← Array.foldl_toList,Array.toList_zipIdx]
 ·simp only [Instr.fill,hp]
  rw [if_neg (by simp; omega)]
section
variable {P:Program} {n:Nat} {o:Oper} {σ:St}
def rowsOf:List D→Option (List (List D))
 | [] => some []
 | d :: r => match cellsOf d,rowsOf r with
  | some c,some l => some (c :: l)
  | _,_ => none
def seqB:Nat→List (Nat × Operand)→Bool
 | _,[] => true
 | k,p :: r => Nat.beq p.1 k && seqB (k + 1) r
theorem fill_seq {ι w ρ} {a:Act} {sz len:Nat} (hr:∀ x:Operand,R ι w ρ (σ.ev x) (a.eval x)):∀ (ps:List (Nat × Operand)) (k:Nat) (cells:Array Value) (rows:List (List D)),seqB k ps=true→rowsOf (ps.map fun p => σ.ev p.2)=some rows→
  (∀ r ∈ rows,r.length=sz)→k + ps.length=len→cells.size=len * sz→
  ∃ c':Array Value,Instr.fill (fun i => some (i * sz,sz)) cells (ps.map fun p => (p.1,a.eval p.2))=some c' ∧ c'.size=len * sz ∧ c'.toList.take (k * sz)=cells.toList.take (k * sz) ∧
   (∀ (j:Nat) y,k * sz ≤ j→c'[j]? =some y→y.oneCell'=true) ∧ ∀ (j:Nat) d y,rows.flatten[j]? =some d→c'[k * sz + j]? =some y→R ι w ρ d y
 | [],k,cells,rows,_,hro,_,hlen,hs => by
  cases hro
  refine⟨cells,rfl,hs,rfl,fun j y hj hy => ?_,fun j d y hd => by simp at hd⟩
  have:=(Array.getElem?_eq_some_iff.1 hy).1
  simp at hlen; subst hlen; omega
 | (i,x) :: ps,k,cells,rows,hq,hro,hsz,hlen,hs => by
  simp only [seqB,Bool.and_eq_true] at hq
  have hik:k=i:=(Nat.eq_of_beq_eq_true hq.1).symm
  subst hik
  simp only [List.map_cons,rowsOf] at hro
  split at hro
  ·rename_i c l hc hl
   cases hro
   obtain⟨h0,h1,h2⟩:=(hr x).cells hc
   have hcl:c.length=sz:=hsz c (by simp)
   simp at hlen
   have hfit:k * sz + sz ≤ cells.size:=by rw [hs,← Nat.succ_mul]; exact Nat.mul_le_mul_right _ (by omega)
   obtain⟨c1,e1,e2⟩:=run_fill_step (fun i => some (i * sz,sz)) cells k (a.eval x) (ps.map fun p => (p.1,a.eval p.2)) rfl (by omega) hfit
   have hfit':k * sz + (a.eval x).cells.toList.length ≤ cells.toList.length:=by simp; omega
   have hc1:c1.size=len * sz:=by rw [← Array.length_toList,e1,splice_len hfit']; simpa using hs
   obtain⟨c',f1,f2,f3,f4,f5⟩:=fill_seq hr ps (k + 1) c1 l hq.2 hl (fun r hr => hsz r (List.mem_cons_of_mem _ hr)) (by omega) hc1
   have look:∀ j,j < (k + 1) * sz→c'[j]? =(splice cells.toList (k * sz) (a.eval x).cells.toList)[j]?:=fun j hj => by
    have:=congrArg (fun l => l[j]?) f3
    simp only [List.getElem?_take,if_pos hj,e1] at this
    simpa using this
   have hxl:(a.eval x).cells.toList.length=sz:=by simp; omega
   refine⟨c',by simp only [List.map_cons]; rw [e2,f1],f2,?_,fun j y hj hy => ?_,fun j d y hd hy => ?_⟩
   ·apply List.ext_getElem?
    intro j
    simp only [List.getElem?_take]
    split
    ·rename_i hj
     have:=look j (by rw [Nat.succ_mul]; omega)
     rw [splice_at hfit',if_neg (by omega)] at this
     simpa using this
    ·rfl
   ·by_cases hj2:j < (k + 1) * sz
    ·rw [look j hj2,splice_at hfit',hxl,if_pos (by rw [Nat.succ_mul] at hj2; omega)] at hy
     exact h1 _ _ (by simpa using hy)
    ·exact f4 j y (by omega) hy
   ·rw [List.flatten_cons] at hd
    by_cases hj:j < sz
    ·rw [List.getElem?_append_left (by omega)] at hd
     rw [look _ (by rw [Nat.succ_mul]; omega),splice_at hfit',hxl,if_pos (by omega)] at hy
     exact h2 _ _ _ hd (by simpa using hy)
    ·rw [List.getElem?_append_right (by omega)] at hd
     refine f5 (j - sz) d y (hcl ▸ hd) ?_
     have:(k + 1) * sz + (j - sz)=k * sz + j:=by rw [Nat.succ_mul]; omega
     rw [this]; exact hy
  ·cases hro
theorem zero_size {P:Program} {ety sz:Nat} (hz:(zeroOf P ety).map (fun z => z.cells.size)=some sz):∃ z,zeroOf P ety=some z ∧ z.cells.size=sz:=by
 cases h:zeroOf P ety with
 | none => simp [h] at hz
 | some z => rw [h] at hz; simp at hz; exact⟨z,rfl,hz⟩
theorem run_buildSlice {ι w ρ} {a:Act} {ty ety sz:Nat} {parts:Array (Nat × Operand)} {len:Nat} {rows:List (List D)} (hr:∀ x:Operand,R ι w ρ (σ.ev x) (a.eval x)) (ho:o.op=.buildSlice ty len parts) (ht:P.underlying ty=some (.slice ety)) (hs:szOf P ety=some sz)
  (hz:(zeroOf P ety).map (fun z => z.cells.size)=some sz) (hq:(seqB 0 parts.toList && Nat.beq parts.size len && Nat.ble (len * sz) 16777216)=true) (hro:rowsOf (parts.toList.map fun p => σ.ev p.2)=some rows) (hsz:∀ r ∈ rows,r.length=sz) :
  ∃ c':Array Value,(execOp a.eval o).run P w=.ok (.value (.slice (some ⟨w.heap.size,0,none⟩) len len)) (w.alloc (.cells c' ety)) ∧ c'.size=len * sz ∧ rows.length=len ∧
   (∀ (j:Nat) y,c'[j]? =some y→y.oneCell'=true) ∧ ∀ (j:Nat) d y,rows.flatten[j]? =some d→c'[j]? =some y→R ι w ρ d y:=by
 simp only [Bool.and_eq_true] at hq
 obtain⟨⟨hq,hlen⟩,hle⟩:=hq
 have hlen:=Nat.eq_of_beq_eq_true hlen
 have hle:=Nat.le_of_ble_eq_true hle
 obtain⟨z,hz,hzs⟩:=zero_size hz
 have hrl:∀ (l:List D) (r:List (List D)),rowsOf l=some r→r.length=l.length:=by
  intro l
  induction l with
  | nil => intro r h; cases h; rfl
  | cons d l ih =>
   intro r h
   simp only [rowsOf] at h
   split at h
   ·cases h; simp [ih _ ‹_›]
   ·cases h
 obtain⟨c',f1,f2,_,f4,f5⟩:=fill_seq (sz:=sz) (len:=len) hr parts.toList 0 ((Array.range (len * sz)).map (z.cells[· % z.cells.size]!)) rows hq hro hsz (by simpa using hlen) (by simp)
 refine⟨c',?_,f2,by rw [hrl _ _ hro]; simpa using hlen,fun j y hy => f4 j y (by omega) hy,fun j d y hd hy => f5 j d y hd (by simpa using hy)⟩
 have hn:¬ len * sz > 2 ^ 24:=by omega
 have hp:((parts.map fun (i,x) => (i,a.eval x)).toList)=parts.toList.map fun p => (p.1,a.eval p.2):=by simp
 simp only [execOp,ho,Instr.buildSlice,run_underlying ht,Sem.run_bind,Sem.run_pure,Result.andThen_ok,run_sizeOf' hs,hn,if_false,hp]
 by_cases h0:len * sz=0
 ·have hc0:c'=#[]:=by rw [h0] at f2; exact Array.eq_empty_of_size_eq_zero f2
  have emp:∀ g:Nat→Value,(Array.range (len * sz)).map g=#[]:=fun g => by rw [h0]; simp
  rw [emp,hc0] at f1
  rw [if_pos h0]
  simp only [Sem.run_pure,Result.andThen_ok,emp,f1,newRow,Sem.run_bind,run_newObj,hc0,World.alloc_eq]
 ·simp [h0,run_zeroValue' hz,f1,newRow]
def flatRows (rows:List (List D)):Bool:=rows.all fun r => r.all D.flat1
theorem flatRows_mem {rows:List (List D)} (h:flatRows rows=true) {k:Nat} {d:D} (hd:rows.flatten[k]? =some d):d.flat1=true:=by
 obtain⟨r,hr,hd⟩:=List.mem_flatten.1 (List.mem_of_getElem? hd)
 simp [flatRows] at h
 exact h r hr d hd
theorem GOk.lit {ty ety sz len:Nat} {parts:Array (Nat × Operand)} {rows:List (List D)} (ho:o.op=.buildSlice ty len parts) (ht:P.underlying ty=some (.slice ety)) (hs:szOf P ety=some sz)
  (hz:(zeroOf P ety).map (fun z => z.cells.size)=some sz) (hq:(seqB 0 parts.toList && Nat.beq parts.size len && Nat.ble (len * sz) 16777216)=true) (hro:rowsOf (parts.toList.map fun p => σ.ev p.2)=some rows)
  (hsz:rows.all (fun r => Nat.beq r.length sz)=true) (hf:flatRows rows=true):GOk P o σ (.list sz rows):=by
 intro cx ι β a w next Q hi hr hk
 have hsz':∀ r ∈ rows,r.length=sz:=fun r hr => by simp at hsz; exact hsz r hr
 obtain⟨c',hrun,hc,hl,h1,hR⟩:=run_buildSlice (P:=P) (w:=w) hr ho ht hs hz hq hro hsz'
 have hcell:∀ b o,ι b o→(w.alloc (.cells c' ety)).cell? ⟨b,o,none⟩=w.cell? ⟨b,o,none⟩:=fun b o hb => World.cell?_alloc_lt w _ _ (hi.lt b o hb)
 unfold Oper.wp
 rw [hrun]
 refine hk _ (w.alloc (.cells c' ety)) (fun b o => ι b o ∨ (b=w.heap.size ∧ o < len * sz)) (hi.grow rfl rfl rfl (by simp) (fun k hk => Below.heap_alloc w _ k hk) (fun _ _ h => .inl h) (fun b o h => h.imp id (fun h => by simp; omega))) (fun _ _ h => .inl h) hcell (.pu ?_)
 rw [← hl]
 refine .list sz rows w.heap.size 0 rows.length (fun k => (c'[k]?).getD undef) (Nat.le_refl _) hsz' (fun k hk => ?_) (fun k d hd => ?_)
 ·rw [hl] at hk
  have hk':c'[k]? =some (c'[k]'(by omega)):=Array.getElem?_eq_getElem _
  exact⟨by rw [Nat.zero_add,World.cell?_alloc_new,hk']; rfl,by rw [hk']; exact h1 _ _ hk',.inr ⟨rfl,by rw [hl]; omega⟩⟩
 ·have hk:k < rows.length * sz:=by rw [← flatten_len hsz']; exact (List.getElem?_eq_some_iff.1 hd).1
  rw [hl] at hk
  have hk':c'[k]? =some (c'[k]'(by omega)):=Array.getElem?_eq_getElem _
  rw [hk']
  exact ((hR _ _ _ hd hk').flat1 (flatRows_mem hf hd)).mono (fun _ _ h => .inl h) hcell
theorem OpOk.litT {ty ety sz len:Nat} {parts:Array (Nat × Operand)} {rows:List (List D)} (t:Nat) (hl2:Nat.ble len 16777216=true) (ho:o.op=.buildSlice ty len parts) (ht:P.underlying ty=some (.slice ety)) (hs:szOf P ety=some sz)
  (hz:(zeroOf P ety).map (fun z => z.cells.size)=some sz) (hq:(seqB 0 parts.toList && Nat.beq parts.size len && Nat.ble (len * sz) 16777216)=true) (hro:rowsOf (parts.toList.map fun p => σ.ev p.2)=some rows)
  (hsz:rows.all (fun r => Nat.beq r.length sz)=true) (hf:flatRows rows=true) (hn:dstB n o.dst=true):OpOk P n o σ ((obSt σ t (.rows true ety sz rows)).put o.dst (.sref t)):=
 .ob hn fun cx ι β a w hi hr => by
  have hsz':∀ r ∈ rows,r.length=sz:=fun r hr => by simp at hsz; exact hsz r hr
  obtain⟨c',hrun,hc,hl,h1,hR⟩:=run_buildSlice (P:=P) (w:=w) hr ho ht hs hz hq hro hsz'
  have hle2:len ≤ maxLen:=by have:=Nat.le_of_ble_eq_true hl2; unfold maxLen; omega
  have hgo:Goes ι w ι (w.alloc (.cells c' ety)) none:=
   ⟨rfl,rfl,rfl,by simp,fun k hk _ => Below.heap_alloc w _ k hk,fun _ _ h => h,fun _ _ h => .inl h,fun b o hb => World.cell?_alloc_lt w _ _ (hi.lt b o hb)⟩
  refine⟨_,_,ι,.slice (some ⟨w.heap.size,0,none⟩) len len,none,hrun,hgo,fun _ h => (by cases h),?_,fun b hb => ?_,.ref rfl rfl (by simp only [rho,getT_cons_same,upd_same])⟩
  ·refine⟨c'.toList,⟨by simp [hc,hl],.inr ⟨w.heap.size,len,c',by rw [hl],Nat.zero_le _,heap_alloc_new w _,by omega,hle2,hc,by rw [hl,List.take_of_length_le (by simp; omega)]⟩⟩,hsz',fun y hy => ?_,fun k d y hd hy => ?_,fun b hb => ?_⟩
   ·obtain⟨k,hk⟩:=List.mem_iff_getElem?.1 hy
    exact h1 k y (by simpa using hk)
   ·exact ((hR _ _ _ hd (by simpa using hy)).flat1 (flatRows_mem hf hd)).mono (fun _ _ h => h) hgo.cell
   ·cases hb
    exact⟨fun o _ ho => Nat.lt_irrefl _ (hi.lt _ _ ho),fun _ o ho => Nat.lt_irrefl _ (hi.lt _ _ ho),fun h => by cases h⟩
  ·cases hb; exact .inl (Nat.le_refl _)
def buildD (pl:List (Nat × Nat)):List D→List (Nat × D)→Option (List D)
 | cells,[] => some cells
 | cells,(i,d) :: r => match pl[i]?,cellsOf d with
  | some (off,size),some c => match Nat.beq c.length size && Nat.ble (off + size) cells.length with
   | true => buildD pl (splice cells off c) r
   | false => none
  | _,_ => none
theorem fill_build {ι w ρ} {a:Ea} (hr:∀ x:Operand,R ι w ρ (σ.ev x) (a.eval x)) (pl:List (Nat × Nat)) (place:Nat→Option (Nat × Nat)) (hpl:∀ (i:Nat) p,pl[i]? =some p→place i=some p):∀ (ps:List (Nat × Operand)) (c:Array Value) (cells ds:List D),buildD pl cells (ps.map fun p => (p.1,σ.ev p.2))=some ds→
  c.size=cells.length→(∀ (k:Nat) y,c[k]? =some y→y.oneCell'=true)→(∀ (k:Nat) d y,cells[k]? =some d→c[k]? =some y→R ι w ρ d y)→
  ∃ c':Array Value,Instr.fill place c (ps.map fun p => (p.1,a.eval p.2))=some c' ∧ c'.size=ds.length ∧ (∀ (k:Nat) y,c'[k]? =some y→y.oneCell'=true) ∧ ∀ (k:Nat) d y,ds[k]? =some d→c'[k]? =some y→R ι w ρ d y
 | [],c,cells,ds,h,hs,h1,hR => by cases h; exact⟨c,rfl,hs,h1,hR⟩
 | (i,x) :: ps,c,cells,ds,h,hs,h1,hR => by
  simp only [List.map_cons,buildD] at h
  split at h
  ·rename_i off size cs hp hc
   split at h
   ·rename_i hb
    simp only [Bool.and_eq_true] at hb
    have hcl:=Nat.eq_of_beq_eq_true hb.1
    have hfit:=Nat.le_of_ble_eq_true hb.2
    obtain⟨g0,g1,g2⟩:=(hr x).cells hc
    obtain⟨c1,e1,e2⟩:=run_fill_step place c i (a.eval x) (ps.map fun p => (p.1,a.eval p.2)) (hpl _ _ hp) (by omega) (by omega)
    have hxl:(a.eval x).cells.toList.length=size:=by simp; omega
    have hfit':off + (a.eval x).cells.toList.length ≤ c.toList.length:=by rw [hxl]; simp; omega
    have hfit2:off + cs.length ≤ cells.length:=by omega
    have look:∀ k:Nat,c1[k]? =(splice c.toList off (a.eval x).cells.toList)[k]?:=fun k => by rw [← e1]; simp
    obtain⟨c',f1,f2⟩:=fill_build hr pl place hpl ps c1 (splice cells off cs) ds h (by rw [← Array.length_toList,e1,splice_len hfit',splice_len hfit2]; simpa using hs) (fun k y hy => by
     rw [look,splice_at hfit'] at hy
     split at hy
     ·exact g1 _ _ (by simpa using hy)
     ·exact h1 _ _ (by simpa using hy)) (fun k d y hd hy => by
     rw [look,splice_at hfit',hxl] at hy
     rw [splice_at hfit2,hcl] at hd
     split at hy
     ·rename_i h; rw [if_pos h] at hd; exact g2 _ _ _ hd (by simpa using hy)
     ·rename_i h; rw [if_neg h] at hd; exact hR _ _ _ hd (by simpa using hy))
    exact⟨c',by simp only [List.map_cons]; rw [e2,f1],f2⟩
   ·cases h
  ·cases h
def fieldsAt (P:Program) (fs:Array Field) (pl:List (Nat × Nat)):Prop:=fs.toList.map (fun f => (f.offset,szOf P f.type))=pl.map fun p => (p.1,some p.2)
theorem run_places {P:Program} (w:World):∀ (fs:List Field) (pl:List (Nat × Nat)),fs.map (fun f => (f.offset,szOf P f.type))=pl.map (fun p => (p.1,some p.2))→
  (fs.mapM fun f => (do pure (f.offset,← sizeOf f.type):Sem (Nat × Nat))).run P w=.ok pl w
 | [],pl,h => by cases pl with | nil => simp | cons => simp at h
 | f :: fs,pl,h => by
  cases pl with
  | nil => simp at h
  | cons p pl =>
   simp only [List.map_cons,List.cons.injEq,Prod.mk.injEq] at h
   obtain⟨⟨h1,h2⟩,h3⟩:=h
   have ih:=run_places w fs pl h3
   simp only [List.mapM_cons,Sem.run_bind,run_sizeOf' h2,Result.andThen_ok,Sem.run_pure,ih,h1]
theorem VOk.build {ty:TypeId} {parts:Array (Nat × Operand)} {fs:Array Field} {z:Value} {cells ds:List D} (sp:List (Option Nat)) (pl:List (Nat × Nat)) (ho:o.op=.build ty parts) (ht:P.underlying ty=some (.struct fs)) (hpl:fieldsAt P fs pl)
  (hz:zeroOf P ty=some z) (hc:zeroD sp z.cells.toList=some cells) (hd:buildD pl cells (parts.toList.map fun p => (p.1,σ.ev p.2))=some ds):VOk P o σ (.agg ds):=
 fun cx ι β a w hi hr => by
  obtain⟨z0,z1,z2⟩:=zeroD_R hc (ι:=ι) (w:=w)
  obtain⟨c',f1,f2,f3,f4⟩:=fill_build hr pl (fun i => pl.toArray[i]?) (fun i p h => by simpa using h) parts.toList z.cells cells ds hd (by simpa using z0) (fun k y hy => z1 k y (by simpa using hy)) (fun k d y hd hy => .pu (z2 k d y hd (by simpa using hy)))
  refine⟨.agg c',?_,.agg _ _ f2 f3 f4⟩
  have hp:((parts.map fun (i,x) => (i,a.eval x)).toList)=parts.toList.map fun p => (p.1,a.eval p.2):=by simp
  have hm:(fs.mapM fun f => (do pure (f.offset,← sizeOf f.type):Sem (Nat × Nat))).run P w=.ok pl.toArray w:=by
   have:=run_places (P:=P) w fs.toList pl hpl
   rw [← Array.toArray_toList (xs:=fs)]
   simp only [List.mapM_toArray,Sem.run_map,this,Result.andThen_ok]
  simp only [execOp,ho,Instr.build,run_zeroValue' hz,run_underlying ht,Sem.run_bind,Sem.run_pure,Result.andThen_ok,hm,hp,f1]
theorem VOk.lenT {x:Operand} {ty elem t:Nat} {e:Bool} {ety sz:Nat} {rs:List (List D)} (ho:o.op=.call { callee:=.builtin .len,args:=#[x],argTypes:=#[ty] }) (ht:P.underlying ty=some (.slice elem))
  (hx:σ.ev x=.sref t) (hb:getT σ.T t=.rows e ety sz rs):VOk P o σ (.v (.int .i64 (rs.length:Int))):=
 .plain fun _ _ β ac w hi hr => by
  have hxx:=hr x
  rw [hx] at hxx
  have hrho:=hxx.ref_inv rfl
  simp only [rho,hb] at hrho
  obtain⟨xs,hown,_⟩:=rows_at hi hb
  have:∃ A c,β t=.slice A rs.length c:=by
   rcases hown.2 with ⟨h,h0⟩ |⟨g,cap,cur,h,_⟩
   ·rw [h0]; exact⟨_,_,h⟩
   ·exact⟨_,_,h⟩
  obtain⟨A,c,hA⟩:=this
  simp [execOp,ho,hrho,hA,resolve,invoke,builtin,Builtin.len_,run_underlying ht,goInt]
theorem eref_at {cx ι β w} (hi:Inv cx ι β σ.T w) {t i:Nat} {e:Bool} {ety sz:Nat} {rs:List (List D)} {r:List D} (hb:getT σ.T t=.rows e ety sz rs) (hi':rs[i]? =some r) :
  ∃ b cap xs cur,β t=.slice (some ⟨b,0,none⟩) rs.length cap ∧ w.heap[b]? =some (.cells cur ety (0,0)) ∧ xs.length=rs.length * sz ∧ cur.toList.take (rs.length * sz)=xs ∧ cur.size=cap * sz ∧ rs.length ≤ cap ∧ cap ≤ maxLen ∧ r.length=sz ∧ (∀ y ∈ xs,y.oneCell'=true) ∧ (∀ r ∈ rs,r.length=sz) ∧
   (∀ j,j < sz→∃ y,xs[i * sz + j]? =some y ∧ w.cell? ⟨b,i * sz + j,none⟩=some y ∧ y.oneCell'=true) ∧ (∀ (k:Nat) d y,rs.flatten[k]? =some d→xs[k]? =some y→Pu ι w d y) ∧
   (∀ o,rs.length * sz ≤ o→¬ ι b o) ∧ (e=true→∀ o,¬ ι b o) ∧ (e=false→∀ o,o < rs.length * sz→ι b o):=by
 obtain⟨xs,hown,hrs,hx1,hxR,hfree⟩:=rows_at hi hb
 have hlt:=(List.getElem?_eq_some_iff.1 hi').1
 rcases hown.2 with ⟨_,h0⟩ |⟨g,cap,cur,hβ,_,hg,hnc,hcm,hcs,htake⟩
 ·omega
 ·have hf:=hfree g (by rw [hβ]; rfl)
  refine⟨g,cap,xs,cur,hβ,hg,hown.1,htake,hcs,hnc,hcm,hrs r (List.mem_of_getElem? hi'),hx1,hrs,fun j hj => ?_,hxR,hf.1,hf.2.1,hf.2.2⟩
  have hk:i * sz + j < xs.length:=by rw [hown.1]; have:(i + 1) * sz ≤ rs.length * sz:=Nat.mul_le_mul_right _ hlt; rw [Nat.succ_mul] at this; omega
  have hy:xs[i * sz + j]? =some (xs[i * sz + j]'hk):=List.getElem?_eq_getElem hk
  have hc:=hown.cells (g:=g) (by rw [hβ]; rfl) _ _ hy
  rw [Addr.add_lit,Nat.zero_add] at hc
  exact⟨_,hy,hc,hx1 _ (List.mem_of_getElem? hy)⟩
theorem VOk.indexT {ty elem t:Nat} {x y:Operand} {e:Bool} {ety sz:Nat} {rs:List (List D)} {k:IntKind} {i:Int} {r:List D} (ho:o.op=.indexAddr ty x y) (ht:P.underlying ty=some (.slice elem)) (hz:szOf P elem=some sz)
  (hx:σ.ev x=.sref t) (hb:getT σ.T t=.rows e ety sz rs) (hy:σ.ev y=.v (.int k i)) (h:0 ≤ i) (hr':rs[i.toNat]? =some r):VOk P o σ (.eref t i.toNat 0):=
 fun _ _ β ac w hi hr => by
  have hxx:=hr x
  rw [hx] at hxx
  have hrho:=hxx.ref_inv rfl
  simp only [rho,hb] at hrho
  obtain⟨b,cap,xs,cur,hβ,_⟩:=eref_at hi hb hr'
  have hlt:i < (rs.length:Int):=by have:=(List.getElem?_eq_some_iff.1 hr').1; omega
  refine⟨.pointer (some ⟨b,i.toNat * sz,none⟩),?_,.ref rfl rfl (by simp only [rho,hb]; exact⟨b,cap,hβ,by simp,by omega⟩)⟩
  simp [execOp,ho,hrho,hβ,ev_v hr hy,Instr.indexAt,asIntOf,run_underlying ht,run_sizeOf' hz,h,hlt,Addr.add_lit]
theorem VOk.fieldE {s ft:TypeId} {x:Operand} {f fo m t i off:Nat} {e:Bool} {ety sz:Nat} {rs:List (List D)} {fs:Array Field} (ho:o.op=.fieldAddr s x f) (ht:P.underlying s=some (.struct fs)) (hf:(fs[f]?).map (fun f => (f.type,f.offset))=some (ft,fo))
  (hz:szOf P ft=some (m + 1)) (hx:σ.ev x=.eref t i off) (hb:getT σ.T t=.rows e ety sz rs):VOk P o σ (.eref t i (off + fo)):=
 fun _ _ β ac w _ hr => by
  have hxx:=hr x
  rw [hx] at hxx
  have hrho:=hxx.ref_inv rfl
  simp only [rho,hb] at hrho
  obtain⟨b,cap,hβ,hv,hlt⟩:=hrho
  cases hfd:fs[f]? with
  | none => simp [hfd] at hf
  | some fd =>
   rw [hfd] at hf
   simp at hf
   obtain⟨rfl,rfl⟩:=hf
   refine⟨.pointer (some ⟨b,i * sz + (off + fd.offset),none⟩),?_,.ref rfl rfl (by simp only [rho,hb]; exact⟨b,cap,hβ,rfl,hlt⟩)⟩
   simp [execOp,ho,hv,Instr.fieldAt,run_underlying ht,hfd,Instr.sureAddr,fieldPlace,run_sizeOf' hz,Addr.add_lit,Nat.add_assoc]
theorem VOk.loadE {ty:TypeId} {x:Operand} {t i off:Nat} {e:Bool} {ety sz:Nat} {rs:List (List D)} {r:List D} {d:D} {dc:TypeDesc} (ho:o.op=.load ty x) (ht:P.underlying ty=some dc) (ha:aggB dc=false) (hx:σ.ev x=.eref t i off) (hb:getT σ.T t=.rows e ety sz rs)
  (hr':rs[i]? =some r) (hd:r[off]? =some d):VOk P o σ d:=
 fun cx ι β ac w hi hr => by
  have hxx:=hr x
  rw [hx] at hxx
  have hrho:=hxx.ref_inv rfl
  simp only [rho,hb] at hrho
  obtain⟨b,cap,hβ,hv,hlt⟩:=hrho
  obtain⟨b',cap',xs,cur,hβ',_,_,_,_,_,_,hrl,_,hrs,hcell,hR,_⟩:=eref_at hi hb hr'
  obtain rfl:b=b':=by rw [hβ] at hβ'; cases hβ'; rfl
  have hj:off < sz:=by rw [← hrl]; exact (List.getElem?_eq_some_iff.1 hd).1
  obtain⟨y,hy,hc,h1⟩:=hcell off hj
  refine⟨y,?_,.pu (hR _ _ _ ((flatten_at hrs i r hr' off hj).trans hd) hy)⟩
  simp [execOp,ho,hv,Instr.loadAt,Instr.sureAddr,loadVar,run_isAgg' ht,ha,hc]
theorem VOk.loadEAgg {ty:TypeId} {x:Operand} {t i off k:Nat} {e:Bool} {ety sz:Nat} {rs:List (List D)} {r:List D} {dc:TypeDesc} (ho:o.op=.load ty x) (ht:P.underlying ty=some dc) (ha:aggB dc=true) (hk:szOf P ty=some k) (hx:σ.ev x=.eref t i off) (hb:getT σ.T t=.rows e ety sz rs)
  (hr':rs[i]? =some r) (hl:Nat.ble (off + k) r.length=true):VOk P o σ (.agg ((r.drop off).take k)):=
 fun cx ι β ac w hi hr => by
  have hxx:=hr x
  rw [hx] at hxx
  have hrho:=hxx.ref_inv rfl
  simp only [rho,hb] at hrho
  obtain⟨b,cap,hβ,hv,hlt⟩:=hrho
  obtain⟨b',cap',xs,cur,hβ',_,_,_,_,_,_,hrl,_,hrs,hcell,hR,_⟩:=eref_at hi hb hr'
  obtain rfl:b=b':=by rw [hβ] at hβ'; cases hβ'; rfl
  have hle:=Nat.le_of_ble_eq_true hl
  have hrun:=run_loadCells (P:=P) (w:=w) ⟨b,i * sz + off,none⟩ k (fun j => (xs[i * sz + (off + j)]?).getD undef) (fun j hj => by
   obtain⟨y,hy,hc,_⟩:=hcell (off + j) (by omega)
   rw [Addr.add_lit,Nat.add_assoc,hc,hy]; rfl)
  refine⟨.agg ((Array.range k).map fun j => (xs[i * sz + (off + j)]?).getD undef),?_,.pu ?_⟩
  ·simp [execOp,ho,hv,Instr.loadAt,Instr.sureAddr,loadVar,run_isAgg' ht,ha,run_sizeOf' hk,hrun]
   rw [← Array.toList_inj]; simp [Array.toList_range]
  ·refine .agg _ _ (by simp; omega) (fun j y hy => ?_) (fun j d y hd hy => ?_)
   ·simp only [Array.getElem?_map,Array.getElem?_range] at hy
    split at hy
    ·rename_i h2; obtain⟨z,hz,_,h1⟩:=hcell (off + j) (by omega); simp [hz] at hy; subst hy; exact h1
    ·simp at hy
   ·simp only [Array.getElem?_map,Array.getElem?_range] at hy
    split at hy
    ·rename_i h2
     obtain⟨z,hz,_,_⟩:=hcell (off + j) (by omega)
     simp [hz] at hy; subst hy
     rw [List.getElem?_take,if_pos h2,List.getElem?_drop] at hd
     exact hR _ _ _ ((flatten_at hrs i r hr' (off + j) (by omega)).trans hd) hz
    ·simp at hy
end
end Go.Proofs.Vx
