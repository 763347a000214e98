import Derived.Test.YtapbckofgcmgmaaGreatDoorVxT
namespace Go.Proofs.Vx
open Go Go.RowKit
set_option linter.unusedSectionVars false
variable [Glo]
section
variable {P:Program} {n:Nat} {o:Oper} {σ:St}
theorem rho_setR {β:Nat→Value} {T:List (Nat × Ob)} {t:Nat} {e e':Bool} {ety sz:Nat} {rows rows':List (List D)} (hl:rows'.length=rows.length) (hb:getT T t=.rows e ety sz rows) {d:D} {x:Value} (h:rho β T d x):rho β ((t,.rows e' ety sz rows') :: T) d x:=by
 cases d with
 | bref u off =>
  simp only [rho] at h ⊢
  by_cases hu:u=t
  ·subst hu; rw [hb] at h; exact h.elim
  ·rw [getT_cons_other hu]; exact h
 | sref u =>
  simp only [rho] at h ⊢
  by_cases hu:u=t
  ·subst hu; rw [getT_cons_same]; rw [hb] at h; exact h
  ·rw [getT_cons_other hu]; exact h
 | eref u i off =>
  simp only [rho] at h ⊢
  by_cases hu:u=t
  ·subst hu; rw [getT_cons_same]; rw [hb] at h; simp only at h ⊢; rw [hl]; exact h
  ·rw [getT_cons_other hu]; exact h
 | mref u =>
  simp only [rho] at h ⊢
  by_cases hu:u=t
  ·subst hu; rw [hb] at h; exact h.elim
  ·rw [getT_cons_other hu]; exact h
 | _ => exact h
theorem splice_left {α:Type} (l r ds:List α) (off:Nat) (h:off + ds.length ≤ l.length):splice (l ++ r) off ds=splice l off ds ++ r:=by
 unfold splice
 rw [List.take_append_of_le_length (by omega),List.drop_append_of_le_length (by omega)]
 simp [List.append_assoc]
theorem splice_right {α:Type} (l r ds:List α) (off:Nat):splice (l ++ r) (l.length + off) ds=l ++ splice r off ds:=by
 unfold splice
 rw [List.take_length_add_append,show l.length + off + ds.length=l.length + (off + ds.length) by omega,List.drop_length_add_append]
 simp [List.append_assoc]
theorem flatten_set {α:Type} {sz:Nat}:∀ {rows:List (List α)} (_:∀ r ∈ rows,r.length=sz) (i off:Nat) (row ds:List α),rows[i]? =some row→off + ds.length ≤ sz→(rows.set i (splice row off ds)).flatten=splice rows.flatten (i * sz + off) ds
 | [],_,i,off,row,ds,h,_ => by simp at h
 | r :: rows,hs,0,off,row,ds,h,hf => by
  simp only [List.getElem?_cons_zero,Option.some.injEq] at h
  subst h
  have hr:=hs r (by simp)
  simp only [List.set_cons_zero,List.flatten_cons,Nat.zero_mul,Nat.zero_add]
  rw [splice_left _ _ _ _ (by omega)]
 | r :: rows,hs,i + 1,off,row,ds,h,hf => by
  have hr:=hs r (by simp)
  have ih:=flatten_set (rows:=rows) (fun q hq => hs q (List.mem_cons_of_mem _ hq)) i off row ds (by simpa using h) hf
  simp only [List.set_cons_succ,List.flatten_cons]
  have e1:(i + 1) * sz + off=r.length + (i * sz + off):=by rw [Nat.succ_mul,hr]; omega
  rw [e1,splice_right,ih]
theorem OpOk.storeE {ty:TypeId} {x yo:Operand} {t i off szv ety sz:Nat} {rows:List (List D)} {row ds:List D} (ho:o.op=.store ty x yo) (hz:szOf P ty=some szv) (hx:DLe (.eref t i off) (σ.ev x)) (hb:getT σ.T t=.rows true ety sz rows) (hi:rows[i]? =some row)
  {dy:D} (hyd:DLe dy (σ.ev yo)) (hy:cellsOf dy=some ds) (hf:ds.all D.flat1=true) (hl:(Nat.beq ds.length szv && Nat.ble (off + szv) sz)=true) (hn:dstB n o.dst=true) :
  OpOk P n o σ (St.put ⟨σ.fr,(t,.rows true ety sz (rows.set i (splice row off ds))) :: σ.T⟩ o.dst .junk):=
 .stepU hn fun cx ι β a w hinv hr => by
  simp only [Bool.and_eq_true] at hl
  have hdl:=Nat.eq_of_beq_eq_true hl.1
  have hfit:=Nat.le_of_ble_eq_true hl.2
  have hil:=(List.getElem?_eq_some_iff.1 hi).1
  have hxx:=hx.r (hr x)
  have hrho:=hxx.ref_inv rfl
  simp only [rho,hb] at hrho
  obtain⟨b,capb,hβ,hv,_⟩:=hrho
  obtain⟨xs,hown,hrs,hx1,hxR,hfree⟩:=rows_at hinv hb
  obtain⟨hxl,hown2⟩:=hown
  rcases hown2 with ⟨h0,h00⟩ |⟨g,cap,cur,hg,hbase,hh,hnc,hcm,hcs,htake⟩
  ·omega
  rw [hβ] at hg
  injection hg with e1 e2 e3
  injection e1 with e1
  injection e1 with e1
  subst e1
  have hex:∀ o,¬ ι b o:=(hfree b (by rw [hβ]; rfl)).2.1 rfl
  obtain⟨hyl,hy1,hyR⟩:=(hyd.r (hr yo)).cells hy
  have hpos:i * sz + off + ds.length ≤ rows.length * sz:=by
   have:(i + 1) * sz ≤ rows.length * sz:=Nat.mul_le_mul_right _ hil
   rw [Nat.succ_mul] at this; omega
  have hcap:rows.length * sz ≤ cap * sz:=Nat.mul_le_mul_right _ hnc
  have hst:=run_storeCells_at P b (i * sz + off) ety (a.eval yo).cells.toList 0 cur w hh (by simp; omega) (fun v hv => by
   obtain⟨k,hk⟩:=List.mem_iff_getElem?.1 hv
   exact hy1 k v (by simpa using hk))
  simp only [Nat.add_zero] at hst
  generalize hc':(cur.toList.take (i * sz + off) ++ (a.eval yo).cells.toList ++ cur.toList.drop (i * sz + off + (a.eval yo).cells.toList.length))=c' at hst
  have hcs':c'=splice cur.toList (i * sz + off) (a.eval yo).cells.toList:=hc'.symm
  have hc'l:c'.length=cur.size:=by rw [hcs',splice_len (by simp; omega)]; simp
  have hgo:Goes ι w ι (w.setRow b c'.toArray) (some b):=
   ⟨rfl,rfl,rfl,by simp,fun k _ hk => setRow_other w b k _ (fun e => hk (by rw [e])),fun _ _ h => h,fun _ _ h => .inl h,fun b1 o1 hb1 => World.cell?_of_block (w:=w) (setRow_other w b b1 _ (fun e => hex o1 (e ▸ hb1)))⟩
  have hlen:(rows.set i (splice row off ds)).length=rows.length:=by simp
  have hR:∀ d y,R ι w (rho β σ.T) d y→R ι (w.setRow b c'.toArray) (rho β ((t,.rows true ety sz (rows.set i (splice row off ds))) :: σ.T)) d y:=fun d y hd => hd.mono hgo.sub hgo.cell (fun d x h => rho_setR hlen hb h)
  have hrowl:row.length=sz:=hrs row (List.mem_of_getElem? hi)
  have hflat:=flatten_set hrs i off row ds hi (by omega)
  refine⟨w.setRow b c'.toArray,ι,β,?_,hinv.step t (some b) hgo.os hgo.tape hgo.output hgo.size hgo.kept (fun k hk => by cases hk; exact⟨by rw [hβ]; rfl,by rw [hb]; exact fun h => by cases h⟩) hgo.sub hgo.new hgo.cell (fun _ _ => rfl) (fun u hu => .inr (getT_cons_other hu)) (fun u e cs _ _ _ d _ y hd => hR d y hd) ?_ ?_,fun s x hsx => hR _ _ hsx⟩
  ·have hne:¬ ((a.eval yo).cells.size ≠ szv):=by omega
   simp [execOp,ho,hv,Instr.storeAt,Instr.sureAddr,storeVar,run_sizeOf' hz,hne,hst]
  ·rw [getT_cons_same]
   refine⟨splice xs (i * sz + off) (a.eval yo).cells.toList,⟨by rw [splice_len (by simp; omega),hlen]; exact hxl,.inr ⟨b,cap,c'.toArray,?_,hbase,?_,by rw [hlen]; exact hnc,hcm,by simp [hc'l,hcs],?_⟩⟩,fun r hr' => ?_,fun y hy' => ?_,fun k d y hd hy' => ?_,fun b1 hb1 => ?_⟩
   ·rw [hlen,hβ,e3]
   ·exact setRow_heap w b cur _ ety _ hh
   ·rw [hlen,hcs']
    rw [← htake]
    have hk:i * sz + off + (a.eval yo).cells.toList.length ≤ rows.length * sz:=by simp [hyl]; omega
    conv => lhs; rw [← List.take_append_drop (rows.length * sz) cur.toList]
    rw [splice_left _ _ _ _ (by simp; omega),List.take_left' (by rw [splice_len (by simp; omega)]; simp; omega)]
   ·rcases List.mem_or_eq_of_mem_set hr' with h | h
    ·exact hrs r h
    ·rw [h,splice_len (by omega)]; exact hrowl
   ·obtain⟨k,hk⟩:=List.mem_iff_getElem?.1 hy'
    rw [splice_at (by simp [hyl]; omega)] at hk
    split at hk
    ·exact hy1 _ _ (by simpa using hk)
    ·exact hx1 _ (List.mem_of_getElem? hk)
   ·rw [hflat,splice_at (by rw [flatten_len hrs]; omega)] at hd
    rw [splice_at (by simp [hyl]; omega)] at hy'
    have e:(a.eval yo).cells.toList.length=ds.length:=by simp [hyl]
    rw [e] at hy'
    split at hy'
    ·rename_i h; rw [if_pos h] at hd
     have hmem:=List.mem_of_getElem? hd
     simp only [List.all_eq_true] at hf
     exact ((hyR _ _ _ hd (by simpa using hy')).flat1 (hf d hmem)).mono hgo.sub hgo.cell
    ·rename_i h; rw [if_neg h] at hd; exact (hxR _ _ _ hd hy').mono hgo.sub hgo.cell
   ·obtain⟨f1,f2,f3⟩:=hfree b1 hb1
    rw [hlen]
    exact⟨f1,f2,f3⟩
  ·intro b1 hb1; exact .inr (.inr ⟨hb1,by rw [hb]; exact fun h => by cases h⟩)
theorem OpOk.storeEL {α:Type} [Inhabited α] {ty:TypeId} {x yo:Operand} {t off szv ety sz:Nat} {i:Int} {e:α→List D} {xs:List α} {y:α} {ds:List D} (ho:o.op=.store ty x yo) (hz:szOf P ty=some szv) (hx:DLe (.eref t i.toNat off) (σ.ev x)) (hb:getT σ.T t=.rows true ety sz (xs.map e)) (hi:0 ≤ i ∧ i < (xs.length:Int))
  {dy:D} (hyd:DLe dy (σ.ev yo)) (hy:cellsOf dy=some ds) (hf:ds.all D.flat1=true) (hl:(Nat.beq ds.length szv && Nat.ble (off + szv) sz)=true) (hs:splice (e (rd xs i)) off ds=e y) (hn:dstB n o.dst=true) {xs':List α} (hq:xs.set i.toNat y=xs') :
  OpOk P n o σ (St.put ⟨σ.fr,(t,.rows true ety sz (xs'.map e)) :: σ.T⟩ o.dst .junk):=by
 subst hq
 have hlt:i.toNat < xs.length:=by omega
 have hrow:(xs.map e)[i.toNat]? =some (e (rd xs i)):=by simp [rd,hlt]
 have:=OpOk.storeE (σ:=σ) ho hz hx hb hrow hyd hy hf hl hn
 rw [hs] at this
 rw [List.map_set]
 exact this
end
end Go.Proofs.Vx
namespace Go.Proofs.Vx
set_option linter.unusedSectionVars false
open Go Go.RowKit
variable [Glo]
section
variable {P:Program} {n:Nat} {o:Oper} {σ:St}
end
end Go.Proofs.Vx
namespace Go.Proofs.Vx
set_option linter.unusedSectionVars false
open Go Go.RowKit
variable [Glo]
section
variable {P:Program} {n:Nat} {o:Oper} {σ:St}
theorem fill_seqE {ev:Operand→D} {ι w ρ} {a:Act} {sz len:Nat} (hr:∀ x:Operand,R ι w ρ (ev x) (a.eval x)):∀ (ps:List (Nat × Operand)) (k:Nat) (cells:Array Value) (rows:List (List D)),seqB k ps=true→rowsOf (ps.map fun p => ev p.2)=some rows→
  (∀ r ∈ rows,r.length=sz)→k + ps.length=len→cells.size=len * sz→
  ∃ c':Array Value,Instr.fill (fun i => some (i * sz,sz)) cells (ps.map fun p => (p.1,a.eval p.2))=some c' ∧ c'.size=len * sz ∧ c'.toList.take (k * sz)=cells.toList.take (k * sz) ∧
   (∀ (j:Nat) y,k * sz ≤ j→c'[j]? =some y→y.oneCell'=true) ∧ ∀ (j:Nat) d y,rows.flatten[j]? =some d→c'[k * sz + j]? =some y→R ι w ρ d y
 | [],k,cells,rows,_,hro,_,hlen,hs => by
  cases hro
  refine⟨cells,rfl,hs,rfl,fun j y hj hy => ?_,fun j d y hd => by simp at hd⟩
  have:=(Array.getElem?_eq_some_iff.1 hy).1
  simp at hlen; subst hlen; omega
 | (i,x) :: ps,k,cells,rows,hq,hro,hsz,hlen,hs => by
  simp only [seqB,Bool.and_eq_true] at hq
  have hik:k=i:=(Nat.eq_of_beq_eq_true hq.1).symm
  subst hik
  simp only [List.map_cons,rowsOf] at hro
  split at hro
  ·rename_i c l hc hl
   cases hro
   obtain⟨h0,h1,h2⟩:=(hr x).cells hc
   have hcl:c.length=sz:=hsz c (by simp)
   simp at hlen
   have hfit:k * sz + sz ≤ cells.size:=by rw [hs,← Nat.succ_mul]; exact Nat.mul_le_mul_right _ (by omega)
   obtain⟨c1,e1,e2⟩:=run_fill_step (fun i => some (i * sz,sz)) cells k (a.eval x) (ps.map fun p => (p.1,a.eval p.2)) rfl (by omega) hfit
   have hfit':k * sz + (a.eval x).cells.toList.length ≤ cells.toList.length:=by simp; omega
   have hc1:c1.size=len * sz:=by rw [← Array.length_toList,e1,splice_len hfit']; simpa using hs
   obtain⟨c',f1,f2,f3,f4,f5⟩:=fill_seqE hr ps (k + 1) c1 l hq.2 hl (fun r hr => hsz r (List.mem_cons_of_mem _ hr)) (by omega) hc1
   have look:∀ j,j < (k + 1) * sz→c'[j]? =(splice cells.toList (k * sz) (a.eval x).cells.toList)[j]?:=fun j hj => by
    have:=congrArg (fun l => l[j]?) f3
    simp only [List.getElem?_take,if_pos hj,e1] at this
    simpa using this
   have hxl:(a.eval x).cells.toList.length=sz:=by simp; omega
   refine⟨c',by simp only [List.map_cons]; rw [e2,f1],f2,?_,fun j y hj hy => ?_,fun j d y hd hy => ?_⟩
   ·apply List.ext_getElem?
    intro j
    simp only [List.getElem?_take]
    split
    ·rename_i hj
     have:=look j (by rw [Nat.succ_mul]; omega)
     rw [splice_at hfit',if_neg (by omega)] at this
     simpa using this
    ·rfl
   ·by_cases hj2:j < (k + 1) * sz
    ·rw [look j hj2,splice_at hfit',hxl,if_pos (by rw [Nat.succ_mul] at hj2; omega)] at hy
     exact h1 _ _ (by simpa using hy)
    ·exact f4 j y (by omega) hy
   ·rw [List.flatten_cons] at hd
    by_cases hj:j < sz
    ·rw [List.getElem?_append_left (by omega)] at hd
     rw [look _ (by rw [Nat.succ_mul]; omega),splice_at hfit',hxl,if_pos (by omega)] at hy
     exact h2 _ _ _ hd (by simpa using hy)
    ·rw [List.getElem?_append_right (by omega)] at hd
     refine f5 (j - sz) d y (hcl ▸ hd) ?_
     have:(k + 1) * sz + (j - sz)=k * sz + j:=by rw [Nat.succ_mul]; omega
     rw [this]; exact hy
  ·cases hro
theorem run_buildSliceE {ev:Operand→D} {ι w ρ} {a:Act} {ty ety sz:Nat} {parts:Array (Nat × Operand)} {len:Nat} {rows:List (List D)} (hr:∀ x:Operand,R ι w ρ (ev x) (a.eval x)) (ho:o.op=.buildSlice ty len parts) (ht:P.underlying ty=some (.slice ety)) (hs:szOf P ety=some sz)
  (hz:(zeroOf P ety).map (fun z => z.cells.size)=some sz) (hq:(seqB 0 parts.toList && Nat.beq parts.size len && Nat.ble (len * sz) 16777216)=true) (hro:rowsOf (parts.toList.map fun p => ev p.2)=some rows) (hsz:∀ r ∈ rows,r.length=sz) :
  ∃ c':Array Value,(execOp a.eval o).run P w=.ok (.value (.slice (some ⟨w.heap.size,0,none⟩) len len)) (w.alloc (.cells c' ety)) ∧ c'.size=len * sz ∧ rows.length=len ∧
   (∀ (j:Nat) y,c'[j]? =some y→y.oneCell'=true) ∧ ∀ (j:Nat) d y,rows.flatten[j]? =some d→c'[j]? =some y→R ι w ρ d y:=by
 simp only [Bool.and_eq_true] at hq
 obtain⟨⟨hq,hlen⟩,hle⟩:=hq
 have hlen:=Nat.eq_of_beq_eq_true hlen
 have hle:=Nat.le_of_ble_eq_true hle
 obtain⟨z,hz,hzs⟩:=zero_size hz
 have hrl:∀ (l:List D) (r:List (List D)),rowsOf l=some r→r.length=l.length:=by
  intro l
  induction l with
  | nil => intro r h; cases h; rfl
  | cons d l ih =>
   intro r h
   simp only [rowsOf] at h
   split at h
   ·cases h; simp [ih _ ‹_›]
   ·cases h
 obtain⟨c',f1,f2,_,f4,f5⟩:=fill_seqE (sz:=sz) (len:=len) hr parts.toList 0 ((Array.range (len * sz)).map (z.cells[· % z.cells.size]!)) rows hq hro hsz (by simpa using hlen) (by simp)
 refine⟨c',?_,f2,by rw [hrl _ _ hro]; simpa using hlen,fun j y hy => f4 j y (by omega) hy,fun j d y hd hy => f5 j d y hd (by simpa using hy)⟩
 have hn:¬ len * sz > 2 ^ 24:=by omega
 have hp:((parts.map fun (i,x) => (i,a.eval x)).toList)=parts.toList.map fun p => (p.1,a.eval p.2):=by simp
 simp only [execOp,ho,Instr.buildSlice,run_underlying ht,Sem.run_bind,Sem.run_pure,Result.andThen_ok,run_sizeOf' hs,hn,if_false,hp]
 by_cases h0:len * sz=0
 ·have hc0:c'=#[]:=by rw [h0] at f2; exact Array.eq_empty_of_size_eq_zero f2
  have emp:∀ g:Nat→Value,(Array.range (len * sz)).map g=#[]:=fun g => by rw [h0]; simp
  rw [emp,hc0] at f1
  rw [if_pos h0]
  simp only [Sem.run_pure,Result.andThen_ok,emp,f1,newRow,Sem.run_bind,run_newObj,hc0,World.alloc_eq]
 ·simp [h0,run_zeroValue' hz,f1,newRow]
end
end Go.Proofs.Vx
namespace Go.Proofs.Vx
set_option linter.unusedSectionVars false
open Go Go.RowKit
variable [Glo]
theorem It2.storeEL {P:Program} {n:Nat} {all:Array Oper} {o:Oper} {fr:List (Nat × D)} {rd:List (Nat × Ob)} {α:Type} [Inhabited α] {ty:TypeId} {x yo:Operand} {t off szv ety sz:Nat} {i:Int} {e:α→List D} {xs:List α} {y:α} {ds:List D} (hg:o.guard=none) (ho:o.op=.store ty x yo) (hz:szOf P ty=some szv)
  (hx:St.ev ⟨fr,[]⟩ x=.eref t i.toNat off) (hb:getT rd t=.rows true ety sz (xs.map e)) (hrd:rd.any (fun p => Nat.beq p.1 t)=true) (hi:0 ≤ i ∧ i < (xs.length:Int))
  (hy:cellsOf (St.ev ⟨fr,[]⟩ yo)=some ds) (hf:ds.all D.flat1=true) (hl:(Nat.beq ds.length szv && Nat.ble (off + szv) sz)=true) (hs:splice (e (Vx.rd xs i)) off ds=e y) (hn:dstB n o.dst=true) {xs':List α} (hq:xs.set i.toNat y=xs') :
  ItOk P n all o ⟨true,fr,rd,.junk,[(t,.rows true ety sz (xs'.map e))],false,[]⟩:=
 ⟨hn,by simp only [gd2,hg],fun _ σ h1 h2 _ => OpOk.storeEL (σ:=σ) ho hz (hx ▸ ev_le (T:=[]) h1 x) ((rd_get h2 hrd).trans hb) hi (ev_le (T:=[]) h1 yo) hy hf hl hs hn hq,fun h => by cases h⟩
end Go.Proofs.Vx
namespace Go.Proofs.Vx
set_option linter.unusedSectionVars false
open Go Go.RowKit
variable [Glo]
end Go.Proofs.Vx
