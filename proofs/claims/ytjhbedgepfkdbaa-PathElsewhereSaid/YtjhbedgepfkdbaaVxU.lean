import Derived.Test.YtjhbedgepfkdbaaVxT
namespace Go.Proofs.Vx
open Go Go.RowKit
set_option linter.unusedSectionVars false
variable [Glo]
section
variable {P:Program} {n:Nat} {o:Oper} {σ:St}
theorem rho_setR {β:Nat→Value} {T:List (Nat × Ob)} {t:Nat} {e e':Bool} {ety sz:Nat} {rows rows':List (List D)} (hl:rows'.length=rows.length) (hb:getT T t=.rows e ety sz rows) {d:D} {x:Value} (h:rho β T d x):rho β ((t,.rows e' ety sz rows') :: T) d x:=by
 cases d with
 | bref u off =>
  simp only [rho] at h ⊢
  by_cases hu:u=t
  ·subst hu; rw [hb] at h; exact h.elim
  ·rw [getT_cons_other hu]; exact h
 | sref u =>
  simp only [rho] at h ⊢
  by_cases hu:u=t
  ·subst hu; rw [getT_cons_same]; rw [hb] at h; exact h
  ·rw [getT_cons_other hu]; exact h
 | eref u i off =>
  simp only [rho] at h ⊢
  by_cases hu:u=t
  ·subst hu; rw [getT_cons_same]; rw [hb] at h; simp only at h ⊢; rw [hl]; exact h
  ·rw [getT_cons_other hu]; exact h
 | mref u =>
  simp only [rho] at h ⊢
  by_cases hu:u=t
  ·subst hu; rw [hb] at h; exact h.elim
  ·rw [getT_cons_other hu]; exact h
 | _ => exact h
theorem splice_left {α:Type} (l r ds:List α) (off:Nat) (h:off + ds.length ≤ l.length):splice (l ++ r) off ds=splice l off ds ++ r:=by
 unfold splice
 rw [List.take_append_of_le_length (by omega),List.drop_append_of_le_length (by omega)]
 simp [List.append_assoc]
theorem splice_right {α:Type} (l r ds:List α) (off:Nat):splice (l ++ r) (l.length + off) ds=l ++ splice r off ds:=by
 unfold splice
 rw [List.take_length_add_append,show l.length + off + ds.length=l.length + (off + ds.length) by omega,List.drop_length_add_append]
 simp [List.append_assoc]
theorem flatten_set {α:Type} {sz:Nat}:∀ {rows:List (List α)} (_:∀ r ∈ rows,r.length=sz) (i off:Nat) (row ds:List α),rows[i]? =some row→off + ds.length ≤ sz→(rows.set i (splice row off ds)).flatten=splice rows.flatten (i * sz + off) ds
 | [],_,i,off,row,ds,h,_ => by simp at h
 | r :: rows,hs,0,off,row,ds,h,hf => by
  simp only [List.getElem?_cons_zero,Option.some.injEq] at h
  subst h
  have hr:=hs r (by simp)
  simp only [List.set_cons_zero,List.flatten_cons,Nat.zero_mul,Nat.zero_add]
  rw [splice_left _ _ _ _ (by omega)]
 | r :: rows,hs,i + 1,off,row,ds,h,hf => by
  have hr:=hs r (by simp)
  have ih:=flatten_set (rows:=rows) (fun q hq => hs q (List.mem_cons_of_mem _ hq)) i off row ds (by simpa using h) hf
  simp only [List.set_cons_succ,List.flatten_cons]
  have e1:(i + 1) * sz + off=r.length + (i * sz + off):=by rw [Nat.succ_mul,hr]; omega
  rw [e1,splice_right,ih]
theorem OpOk.storeE {ty:TypeId} {x yo:Operand} {t i off szv ety sz:Nat} {rows:List (List D)} {row ds:List D} (ho:o.op=.store ty x yo) (hz:szOf P ty=some szv) (hx:DLe (.eref t i off) (σ.ev x)) (hb:getT σ.T t=.rows true ety sz rows) (hi:rows[i]? =some row)
  {dy:D} (hyd:DLe dy (σ.ev yo)) (hy:cellsOf dy=some ds) (hf:ds.all D.flat1=true) (hl:(Nat.beq ds.length szv && Nat.ble (off + szv) sz)=true) (hn:dstB n o.dst=true) :
  OpOk P n o σ (St.put ⟨σ.fr,(t,.rows true ety sz (rows.set i (splice row off ds))) :: σ.T⟩ o.dst .junk):=
 .stepU hn fun cx ι β a w hinv hr => by
  simp only [Bool.and_eq_true] at hl
  have hdl:=Nat.eq_of_beq_eq_true hl.1
  have hfit:=Nat.le_of_ble_eq_true hl.2
  have hil:=(List.getElem?_eq_some_iff.1 hi).1
  have hxx:=hx.r (hr x)
  have hrho:=hxx.ref_inv rfl
  simp only [rho,hb] at hrho
  obtain⟨b,capb,hβ,hv,_⟩:=hrho
  obtain⟨xs,hown,hrs,hx1,hxR,hfree⟩:=rows_at hinv hb
  obtain⟨hxl,hown2⟩:=hown
  rcases hown2 with ⟨h0,h00⟩ |⟨g,cap,cur,hg,hbase,hh,hnc,hcm,hcs,htake⟩
  ·omega
  rw [hβ] at hg
  injection hg with e1 e2 e3
  injection e1 with e1
  injection e1 with e1
  subst e1
  have hex:∀ o,¬ ι b o:=(hfree b (by rw [hβ]; rfl)).2.1 rfl
  obtain⟨hyl,hy1,hyR⟩:=(hyd.r (hr yo)).cells hy
  have hpos:i * sz + off + ds.length ≤ rows.length * sz:=by
   have:(i + 1) * sz ≤ rows.length * sz:=Nat.mul_le_mul_right _ hil
   rw [Nat.succ_mul] at this; omega
  have hcap:rows.length * sz ≤ cap * sz:=Nat.mul_le_mul_right _ hnc
  have hst:=run_storeCells_at P b (i * sz + off) ety (a.eval yo).cells.toList 0 cur w hh (by simp; omega) (fun v hv => by
   obtain⟨k,hk⟩:=List.mem_iff_getElem?.1 hv
   exact hy1 k v (by simpa using hk))
  simp only [Nat.add_zero] at hst
  generalize hc':(cur.toList.take (i * sz + off) ++ (a.eval yo).cells.toList ++ cur.toList.drop (i * sz + off + (a.eval yo).cells.toList.length))=c' at hst
  have hcs':c'=splice cur.toList (i * sz + off) (a.eval yo).cells.toList:=hc'.symm
  have hc'l:c'.length=cur.size:=by rw [hcs',splice_len (by simp; omega)]; simp
  have hgo:Goes ι w ι (w.setRow b c'.toArray) (some b):=
   ⟨rfl,rfl,rfl,by simp,fun k _ hk => setRow_other w b k _ (fun e => hk (by rw [e])),fun _ _ h => h,fun _ _ h => .inl h,fun b1 o1 hb1 => World.cell?_of_block (w:=w) (setRow_other w b b1 _ (fun e => hex o1 (e ▸ hb1)))⟩
  have hlen:(rows.set i (splice row off ds)).length=rows.length:=by simp
  have hR:∀ d y,R ι w (rho β σ.T) d y→R ι (w.setRow b c'.toArray) (rho β ((t,.rows true ety sz (rows.set i (splice row off ds))) :: σ.T)) d y:=fun d y hd => hd.mono hgo.sub hgo.cell (fun d x h => rho_setR hlen hb h)
  have hrowl:row.length=sz:=hrs row (List.mem_of_getElem? hi)
  have hflat:=flatten_set hrs i off row ds hi (by omega)
  refine⟨w.setRow b c'.toArray,ι,β,?_,hinv.step t (some b) hgo.os hgo.tape hgo.output hgo.size hgo.kept (fun k hk => by cases hk; exact⟨by rw [hβ]; rfl,by rw [hb]; exact fun h => by cases h⟩) hgo.sub hgo.new hgo.cell (fun _ _ => rfl) (fun u hu => .inr (getT_cons_other hu)) (fun u e cs _ _ _ d _ y hd => hR d y hd) ?_ ?_,fun s x hsx => hR _ _ hsx⟩
  ·have hne:¬ ((a.eval yo).cells.size ≠ szv):=by omega
   simp [execOp,ho,hv,Instr.storeAt,Instr.sureAddr,storeVar,run_sizeOf' hz,hne,hst]
  ·rw [getT_cons_same]
   refine⟨splice xs (i * sz + off) (a.eval yo).cells.toList,⟨by rw [splice_len (by simp; omega),hlen]; exact hxl,.inr ⟨b,cap,c'.toArray,?_,hbase,?_,by rw [hlen]; exact hnc,hcm,by simp [hc'l,hcs],?_⟩⟩,fun r hr' => ?_,fun y hy' => ?_,fun k d y hd hy' => ?_,fun b1 hb1 => ?_⟩
   ·rw [hlen,hβ,e3]
   ·exact setRow_heap w b cur _ ety _ hh
   ·rw [hlen,hcs']
    rw [← htake]
    have hk:i * sz + off + (a.eval yo).cells.toList.length ≤ rows.length * sz:=by simp [hyl]; omega
    conv => lhs; rw [← List.take_append_drop (rows.length * sz) cur.toList]
    rw [splice_left _ _ _ _ (by simp; omega),List.take_left' (by rw [splice_len (by simp; omega)]; simp; omega)]
   ·rcases List.mem_or_eq_of_mem_set hr' with h | h
    ·exact hrs r h
    ·rw [h,splice_len (by omega)]; exact hrowl
   ·obtain⟨k,hk⟩:=List.mem_iff_getElem?.1 hy'
    rw [splice_at (by simp [hyl]; omega)] at hk
    split at hk
    ·exact hy1 _ _ (by simpa using hk)
    ·exact hx1 _ (List.mem_of_getElem? hk)
   ·rw [hflat,splice_at (by rw [flatten_len hrs]; omega)] at hd
    rw [splice_at (by simp [hyl]; omega)] at hy'
    have e:(a.eval yo).cells.toList.length=ds.length:=by simp [hyl]
    rw [e] at hy'
    split at hy'
    ·rename_i h; rw [if_pos h] at hd
     have hmem:=List.mem_of_getElem? hd
     simp only [List.all_eq_true] at hf
     exact ((hyR _ _ _ hd (by simpa using hy')).flat1 (hf d hmem)).mono hgo.sub hgo.cell
    ·rename_i h; rw [if_neg h] at hd; exact (hxR _ _ _ hd hy').mono hgo.sub hgo.cell
   ·obtain⟨f1,f2,f3⟩:=hfree b1 hb1
    rw [hlen]
    exact⟨f1,f2,f3⟩
  ·intro b1 hb1; exact .inr (.inr ⟨hb1,by rw [hb]; exact fun h => by cases h⟩)
theorem OpOk.storeEL {α:Type} [Inhabited α] {ty:TypeId} {x yo:Operand} {t off szv ety sz:Nat} {i:Int} {e:α→List D} {xs:List α} {y:α} {ds:List D} (ho:o.op=.store ty x yo) (hz:szOf P ty=some szv) (hx:DLe (.eref t i.toNat off) (σ.ev x)) (hb:getT σ.T t=.rows true ety sz (xs.map e)) (hi:0 ≤ i ∧ i < (xs.length:Int))
  {dy:D} (hyd:DLe dy (σ.ev yo)) (hy:cellsOf dy=some ds) (hf:ds.all D.flat1=true) (hl:(Nat.beq ds.length szv && Nat.ble (off + szv) sz)=true) (hs:splice (e (rd xs i)) off ds=e y) (hn:dstB n o.dst=true) {xs':List α} (hq:xs.set i.toNat y=xs') :
  OpOk P n o σ (St.put ⟨σ.fr,(t,.rows true ety sz (xs'.map e)) :: σ.T⟩ o.dst .junk):=by
 subst hq
 have hlt:i.toNat < xs.length:=by omega
 have hrow:(xs.map e)[i.toNat]? =some (e (rd xs i)):=by simp [rd,hlt]
 have:=OpOk.storeE (σ:=σ) ho hz hx hb hrow hyd hy hf hl hn
 rw [hs] at this
 rw [List.map_set]
 exact this
end
end Go.Proofs.Vx
namespace Go.Proofs.Vx
set_option linter.unusedSectionVars false
open Go Go.RowKit
variable [Glo]
theorem Fn.of_okO {P:Program} {f:Nat} {fn:Func} {c:Code} {ds:List D} {ety sz:Nat} {rows:List (List D)} {t:Nat} (hf:P.funcs[f]? =some fn) (hb:fn.body=some c) (hn:ds.length ≤ fn.ntmps) (hres:fn.results.toList=[.tmp t])
  (h:Ok P fn.ntmps c ⟨params ds 0,[]⟩ fun e σ => (e=.ret ∨ e=.normal) ∧ ∃ n0,get σ.fr t=.sref n0 ∧ getT σ.T n0=.rows true ety sz rows):Fn P f ds [] (.sref 0) [(0,.rows true ety sz rows)]:=by
 intro w ι β vs hi hl hr
 refine calls_of_wp hf hb (h ⟨w,Wof β [],ι⟩ _ w _ ⟨⟨ι,β,hi,fun s => ?_⟩,?_,rfl⟩ fun e σ' a' w' he hs => ?_)
 ·show R ι w (rho β []) (get (params ds 0) s) _
  rw [get_params,if_pos (Nat.zero_le _)]
  simp only [Nat.sub_zero]
  by_cases hlt:s < ds.length
  ·have hv:s < vs.size:=by omega
   have e:(vs ++ Array.replicate (fn.ntmps - vs.size) undef).getD s undef=vs[s]:=by simp [Array.getD,Array.getElem_append_left,hv]; intro h; omega
   rw [e,List.getElem?_eq_getElem hlt]
   exact hr s _ _ (List.getElem?_eq_getElem hlt) (Array.getElem?_eq_getElem hv)
  ·rw [List.getElem?_eq_none (by omega)]; exact .junk _
 ·simp; omega
 ·obtain⟨he,n0,hg,hT⟩:=he
  obtain⟨⟨ι',β',hi',hr'⟩,hsz,hd⟩:=hs
  have hrs:fn.results=#[.tmp t]:=by
   have:fn.results=fn.results.toList.toArray:=by simp
   rw [this,hres]
  have hrt:=hr' t
  rw [hg] at hrt
  have hrho:=hrt.ref_inv rfl
  simp only [rho,hT] at hrho
  have hv:(results fn a'.tmps).run P w'=.ok (a'.tmps.getD t undef) w':=by simp [results,hrs]
  have hob:=hi'.obj n0
  rw [hT] at hob
  have hinv:Inv ⟨w,Wof β [],ι⟩ ι' (fun _ => β' n0) [(0,.rows true ety sz rows)] w':=by
   refine⟨hi'.gl,hi'.os,hi'.tape,hi'.output,hi'.size,hi'.kept,hi'.old,hi'.new,hi'.lt,fun u => ?_,fun u b hb => ?_,fun u v b huv hb1 hb2 => ?_⟩
   ·rw [getT_cons]
    split
    ·exact ObOk.mono (ρ:=fun _ _ => False) (o:=.rows true ety sz rows) hob (fun _ _ => rfl) (fun _ _ h => h) (fun _ _ _ h => h) (fun _ _ _ => rfl) (fun _ _ h => h.elim)
    ·trivial
   ·rcases hi'.mine n0 b hb with h | h
    ·rw [hT] at h; cases h
    ·exact .inr h
   ·rw [getT_cons,getT_cons]
    by_cases h0:(0:Nat)=u
    ·right; rw [if_neg (fun e => huv (h0.symm.trans e))]; rfl
    ·left; rw [if_neg h0]; rfl
  have hR:R ι' w' (rho (fun _ => β' n0) [(0,.rows true ety sz rows)]) (.sref 0) (a'.tmps.getD t undef):=.ref rfl (hrt.ref_one rfl) (by simp only [rho,getT_cons_same]; exact hrho)
  rcases he with rfl | rfl
  ·exact⟨hd,_,hv,_,ι',_,rfl,hinv,hR⟩
  ·exact⟨hd,_,hv,_,ι',_,rfl,hinv,hR⟩
section
variable {P:Program} {n:Nat} {o:Oper} {σ:St}
theorem OpOk.callO {x:Operand} {args:Array Operand} {ts:Array TypeId} {f ety sz:Nat} {rows:List (List D)} {caps ds:List D} (t:Nat) (ho:o.op=.call { callee:=.value x,args:=args,argTypes:=ts }) (hx:σ.ev x=.clo f caps)
  (hc:callable P f=true) (hds:(args.toList.map σ.ev) ++ caps=ds) (hf:Fn P f ds [] (.sref 0) [(0,.rows true ety sz rows)]) (hn:dstB n o.dst=true):OpOk P n o σ ((obSt σ t (.rows true ety sz rows)).put o.dst (.sref t)):=by
 intro cx a w K Q hs hk
 obtain⟨⟨ι,β,hi,hr⟩,hsz,hdf⟩:=hs
 have hev:=sim_ev hr
 have hxx:=hev x
 rw [hx] at hxx
 obtain⟨vs,hv,hl,hg⟩:=hxx.clo_inv
 have hrun:(execOp a.eval o).run P w=.ok (.enter f (args.map a.eval ++ vs)) w:=by
  simp [execOp,ho,resolve,hv,Deferred.ofValue,invoke,run_callFunc hc]
 unfold Oper.wp
 rw [hrun,Oper.upon_enter]
 subst hds
 have hW:∀ b,¬ Wof β ([]:List (Nat × Ob)) b:=fun b ⟨t,h,_⟩ => h rfl
 have hinv:Inv ⟨w,Wof β [],ι⟩ ι β [] w:=⟨hi.gl0 (fun _ => rfl),rfl,rfl,rfl,Nat.le_refl _,fun _ _ _ => rfl,fun _ _ h => h,fun _ _ h => .inl h,hi.lt,fun _ => trivial,fun _ _ _ => .inl rfl,fun _ _ _ _ _ _ => .inl rfl⟩
 have hρ:∀ d x,rho β σ.T d x→rho β [] d x:=rho_mono fun t => .inl rfl
 refine (hf w ι β _ hinv (by simp [hl]) (fun k d y hd hy => ?_)).mono ?_
 ·by_cases hk:k < args.size
  ·rw [List.getElem?_append_left (by simpa using hk),List.getElem?_map] at hd
   rw [Array.getElem?_append_left (by simpa using hk)] at hy
   simp [hk] at hd hy
   subst hd; subst hy
   exact (hev _).mono (fun _ _ h => h) (fun _ _ _ => rfl) hρ
  ·rw [List.getElem?_append_right (by simpa using Nat.le_of_not_lt hk)] at hd
   rw [Array.getElem?_append_right (by simpa using Nat.le_of_not_lt hk)] at hy
   simp at hd hy
   exact (hg _ _ _ hd hy).mono (fun _ _ h => h) (fun _ _ _ => rfl) hρ
 ·rintro e w' ⟨v,ι',β',rfl,hi',hres⟩
  have hlt:∀ b o,ι' b o→ι b o ∨ (w.heap.size ≤ b ∧ b < w'.heap.size):=fun b o hb => by
   rcases hi'.new b o hb with h | h | h
   ·exact .inl h
   ·exact .inr ⟨h,hi'.lt b o hb⟩
   ·exact absurd h (hW b)
  have hrho:=hres.ref_inv rfl
  simp only [rho,getT_cons_same] at hrho
  have hob:=hi'.obj 0
  rw [getT_cons_same] at hob
  have hgo:Goes ι w ι' w' none:=⟨hi'.os,hi'.tape,hi'.output,hi'.size,fun k hk _ => hi'.kept k hk (hW k),hi'.old,fun b o h => (hlt b o h).imp id .inl,fun b o hb => World.cell?_of_block (w:=w) (hi'.kept b (hi.lt b o hb) (hW b))⟩
  have hob2:ObOk ι' w' (rho (upd β t (β' 0)) ((t,.rows true ety sz rows) :: killT t σ.T)) (β' 0) (.rows true ety sz rows):=
   ObOk.mono (ρ:=fun _ _ => False) (o:=.rows true ety sz rows) hob (fun _ _ => rfl) (fun _ _ h => h) (fun _ _ _ h => h) (fun _ _ _ => rfl) (fun _ _ h => h.elim)
  have hi2:=hi.ob t hgo (x:=β' 0) (fun k h => by cases h) hob2 (fun b hb => by
   rcases hi'.mine 0 b hb with h | h | h
   ·rw [getT_cons_same] at h; cases h
   ·exact .inl h
   ·exact absurd h (hW b))
  refine hk _ _ (Sim.put1 (T:=(t,.rows true ety sz rows) :: killT t σ.T) hi2 (fun s => fr_ob t hgo (β' 0) (.rows true ety sz rows) s _ (hr s)) hsz hdf (dstB_lt hn) (.ref rfl (hres.ref_one rfl) ?_))
  simp only [rho,getT_cons_same,upd_same]; exact hrho
end
end Go.Proofs.Vx
namespace Go.Proofs.Vx
set_option linter.unusedSectionVars false
open Go Go.RowKit
variable [Glo]
def nilEv (sz:Nat) (σ:St):Operand→D
 | .const (.slice none 0 0) => .list sz []
 | x => σ.ev x
theorem nilEv_le (sz:Nat) (σ:St) (x:Operand):DLe (nilEv sz σ x) (σ.ev x):=by
 unfold nilEv
 split
 ·exact .nil sz
 ·exact .same _
section
variable {P:Program} {n:Nat} {o:Oper} {σ:St}
theorem fill_seqE {ev:Operand→D} {ι w ρ} {a:Act} {sz len:Nat} (hr:∀ x:Operand,R ι w ρ (ev x) (a.eval x)):∀ (ps:List (Nat × Operand)) (k:Nat) (cells:Array Value) (rows:List (List D)),seqB k ps=true→rowsOf (ps.map fun p => ev p.2)=some rows→
  (∀ r ∈ rows,r.length=sz)→k + ps.length=len→cells.size=len * sz→
  ∃ c':Array Value,Instr.fill (fun i => some (i * sz,sz)) cells (ps.map fun p => (p.1,a.eval p.2))=some c' ∧ c'.size=len * sz ∧ c'.toList.take (k * sz)=cells.toList.take (k * sz) ∧
   (∀ (j:Nat) y,k * sz ≤ j→c'[j]? =some y→y.oneCell'=true) ∧ ∀ (j:Nat) d y,rows.flatten[j]? =some d→c'[k * sz + j]? =some y→R ι w ρ d y
 | [],k,cells,rows,_,hro,_,hlen,hs => by
  cases hro
  refine⟨cells,rfl,hs,rfl,fun j y hj hy => ?_,fun j d y hd => by simp at hd⟩
  have:=(Array.getElem?_eq_some_iff.1 hy).1
  simp at hlen; subst hlen; omega
 | (i,x) :: ps,k,cells,rows,hq,hro,hsz,hlen,hs => by
  simp only [seqB,Bool.and_eq_true] at hq
  have hik:k=i:=(Nat.eq_of_beq_eq_true hq.1).symm
  subst hik
  simp only [List.map_cons,rowsOf] at hro
  split at hro
  ·rename_i c l hc hl
   cases hro
   obtain⟨h0,h1,h2⟩:=(hr x).cells hc
   have hcl:c.length=sz:=hsz c (by simp)
   simp at hlen
   have hfit:k * sz + sz ≤ cells.size:=by rw [hs,← Nat.succ_mul]; exact Nat.mul_le_mul_right _ (by omega)
   obtain⟨c1,e1,e2⟩:=run_fill_step (fun i => some (i * sz,sz)) cells k (a.eval x) (ps.map fun p => (p.1,a.eval p.2)) rfl (by omega) hfit
   have hfit':k * sz + (a.eval x).cells.toList.length ≤ cells.toList.length:=by simp; omega
   have hc1:c1.size=len * sz:=by rw [← Array.length_toList,e1,splice_len hfit']; simpa using hs
   obtain⟨c',f1,f2,f3,f4,f5⟩:=fill_seqE hr ps (k + 1) c1 l hq.2 hl (fun r hr => hsz r (List.mem_cons_of_mem _ hr)) (by omega) hc1
   have look:∀ j,j < (k + 1) * sz→c'[j]? =(splice cells.toList (k * sz) (a.eval x).cells.toList)[j]?:=fun j hj => by
    have:=congrArg (fun l => l[j]?) f3
    simp only [List.getElem?_take,if_pos hj,e1] at this
    simpa using this
   have hxl:(a.eval x).cells.toList.length=sz:=by simp; omega
   refine⟨c',by simp only [List.map_cons]; rw [e2,f1],f2,?_,fun j y hj hy => ?_,fun j d y hd hy => ?_⟩
   ·apply List.ext_getElem?
    intro j
    simp only [List.getElem?_take]
    split
    ·rename_i hj
     have:=look j (by rw [Nat.succ_mul]; omega)
     rw [splice_at hfit',if_neg (by omega)] at this
     simpa using this
    ·rfl
   ·by_cases hj2:j < (k + 1) * sz
    ·rw [look j hj2,splice_at hfit',hxl,if_pos (by rw [Nat.succ_mul] at hj2; omega)] at hy
     exact h1 _ _ (by simpa using hy)
    ·exact f4 j y (by omega) hy
   ·rw [List.flatten_cons] at hd
    by_cases hj:j < sz
    ·rw [List.getElem?_append_left (by omega)] at hd
     rw [look _ (by rw [Nat.succ_mul]; omega),splice_at hfit',hxl,if_pos (by omega)] at hy
     exact h2 _ _ _ hd (by simpa using hy)
    ·rw [List.getElem?_append_right (by omega)] at hd
     refine f5 (j - sz) d y (hcl ▸ hd) ?_
     have:(k + 1) * sz + (j - sz)=k * sz + j:=by rw [Nat.succ_mul]; omega
     rw [this]; exact hy
  ·cases hro
theorem run_buildSliceE {ev:Operand→D} {ι w ρ} {a:Act} {ty ety sz:Nat} {parts:Array (Nat × Operand)} {len:Nat} {rows:List (List D)} (hr:∀ x:Operand,R ι w ρ (ev x) (a.eval x)) (ho:o.op=.buildSlice ty len parts) (ht:P.underlying ty=some (.slice ety)) (hs:szOf P ety=some sz)
  (hz:(zeroOf P ety).map (fun z => z.cells.size)=some sz) (hq:(seqB 0 parts.toList && Nat.beq parts.size len && Nat.ble (len * sz) 16777216)=true) (hro:rowsOf (parts.toList.map fun p => ev p.2)=some rows) (hsz:∀ r ∈ rows,r.length=sz) :
  ∃ c':Array Value,(execOp a.eval o).run P w=.ok (.value (.slice (some ⟨w.heap.size,0,none⟩) len len)) (w.alloc (.cells c' ety)) ∧ c'.size=len * sz ∧ rows.length=len ∧
   (∀ (j:Nat) y,c'[j]? =some y→y.oneCell'=true) ∧ ∀ (j:Nat) d y,rows.flatten[j]? =some d→c'[j]? =some y→R ι w ρ d y:=by
 simp only [Bool.and_eq_true] at hq
 obtain⟨⟨hq,hlen⟩,hle⟩:=hq
 have hlen:=Nat.eq_of_beq_eq_true hlen
 have hle:=Nat.le_of_ble_eq_true hle
 obtain⟨z,hz,hzs⟩:=zero_size hz
 have hrl:∀ (l:List D) (r:List (List D)),rowsOf l=some r→r.length=l.length:=by
  intro l
  induction l with
  | nil => intro r h; cases h; rfl
  | cons d l ih =>
   intro r h
   simp only [rowsOf] at h
   split at h
   ·cases h; simp [ih _ ‹_›]
   ·cases h
 obtain⟨c',f1,f2,_,f4,f5⟩:=fill_seqE (sz:=sz) (len:=len) hr parts.toList 0 ((Array.range (len * sz)).map (z.cells[· % z.cells.size]!)) rows hq hro hsz (by simpa using hlen) (by simp)
 refine⟨c',?_,f2,by rw [hrl _ _ hro]; simpa using hlen,fun j y hy => f4 j y (by omega) hy,fun j d y hd hy => f5 j d y hd (by simpa using hy)⟩
 have hn:¬ len * sz > 2 ^ 24:=by omega
 have hp:((parts.map fun (i,x) => (i,a.eval x)).toList)=parts.toList.map fun p => (p.1,a.eval p.2):=by simp
 simp only [execOp,ho,Instr.buildSlice,run_underlying ht,Sem.run_bind,Sem.run_pure,Result.andThen_ok,run_sizeOf' hs,hn,if_false,hp]
 by_cases h0:len * sz=0
 ·have hc0:c'=#[]:=by rw [h0] at f2; exact Array.eq_empty_of_size_eq_zero f2
  have emp:∀ g:Nat→Value,(Array.range (len * sz)).map g=#[]:=fun g => by rw [h0]; simp
  rw [emp,hc0] at f1
  rw [if_pos h0]
  simp only [Sem.run_pure,Result.andThen_ok,emp,f1,newRow,Sem.run_bind,run_newObj,hc0,World.alloc_eq]
 ·simp [h0,run_zeroValue' hz,f1,newRow]
theorem OpOk.litTE {ty ety sz len:Nat} {parts:Array (Nat × Operand)} {rows:List (List D)} (t:Nat) (hl2:Nat.ble len 16777216=true) (ho:o.op=.buildSlice ty len parts) (ht:P.underlying ty=some (.slice ety)) (hs:szOf P ety=some sz)
  (hz:(zeroOf P ety).map (fun z => z.cells.size)=some sz) (hq:(seqB 0 parts.toList && Nat.beq parts.size len && Nat.ble (len * sz) 16777216)=true) {ev:Operand→D} (hev:∀ x,DLe (ev x) (σ.ev x)) (hro:rowsOf (parts.toList.map fun p => ev p.2)=some rows)
  (hsz:rows.all (fun r => Nat.beq r.length sz)=true) (hf:flatRows rows=true) (hn:dstB n o.dst=true):OpOk P n o σ ((obSt σ t (.rows true ety sz rows)).put o.dst (.sref t)):=
 .ob hn fun cx ι β a w hi hr => by
  have hsz':∀ r ∈ rows,r.length=sz:=fun r hr => by simp at hsz; exact hsz r hr
  obtain⟨c',hrun,hc,hl,h1,hR⟩:=run_buildSliceE (P:=P) (w:=w) (ev:=ev) (fun x => (hev x).r (hr x)) ho ht hs hz hq hro hsz'
  have hle2:len ≤ maxLen:=by have:=Nat.le_of_ble_eq_true hl2; unfold maxLen; omega
  have hgo:Goes ι w ι (w.alloc (.cells c' ety)) none:=
   ⟨rfl,rfl,rfl,by simp,fun k hk _ => Below.heap_alloc w _ k hk,fun _ _ h => h,fun _ _ h => .inl h,fun b o hb => World.cell?_alloc_lt w _ _ (hi.lt b o hb)⟩
  refine⟨_,_,ι,.slice (some ⟨w.heap.size,0,none⟩) len len,none,hrun,hgo,fun _ h => (by cases h),?_,fun b hb => ?_,.ref rfl rfl (by simp only [rho,getT_cons_same,upd_same])⟩
  ·refine⟨c'.toList,⟨by simp [hc,hl],.inr ⟨w.heap.size,len,c',by rw [hl],Nat.zero_le _,heap_alloc_new w _,by omega,hle2,hc,by rw [hl,List.take_of_length_le (by simp; omega)]⟩⟩,hsz',fun y hy => ?_,fun k d y hd hy => ?_,fun b hb => ?_⟩
   ·obtain⟨k,hk⟩:=List.mem_iff_getElem?.1 hy
    exact h1 k y (by simpa using hk)
   ·exact ((hR _ _ _ hd (by simpa using hy)).flat1 (flatRows_mem hf hd)).mono (fun _ _ h => h) hgo.cell
   ·cases hb
    exact⟨fun o _ ho => Nat.lt_irrefl _ (hi.lt _ _ ho),fun _ o ho => Nat.lt_irrefl _ (hi.lt _ _ ho),fun h => by cases h⟩
  ·cases hb; exact .inl (Nat.le_refl _)
end
end Go.Proofs.Vx
namespace Go.Proofs.Vx
set_option linter.unusedSectionVars false
open Go Go.RowKit
variable [Glo]
theorem It2.storeEL {P:Program} {n:Nat} {all:Array Oper} {o:Oper} {fr:List (Nat × D)} {rd:List (Nat × Ob)} {α:Type} [Inhabited α] {ty:TypeId} {x yo:Operand} {t off szv ety sz:Nat} {i:Int} {e:α→List D} {xs:List α} {y:α} {ds:List D} (hg:o.guard=none) (ho:o.op=.store ty x yo) (hz:szOf P ty=some szv)
  (hx:St.ev ⟨fr,[]⟩ x=.eref t i.toNat off) (hb:getT rd t=.rows true ety sz (xs.map e)) (hrd:rd.any (fun p => Nat.beq p.1 t)=true) (hi:0 ≤ i ∧ i < (xs.length:Int))
  (hy:cellsOf (St.ev ⟨fr,[]⟩ yo)=some ds) (hf:ds.all D.flat1=true) (hl:(Nat.beq ds.length szv && Nat.ble (off + szv) sz)=true) (hs:splice (e (Vx.rd xs i)) off ds=e y) (hn:dstB n o.dst=true) {xs':List α} (hq:xs.set i.toNat y=xs') :
  ItOk P n all o ⟨true,fr,rd,.junk,[(t,.rows true ety sz (xs'.map e))],false,[]⟩:=
 ⟨hn,by simp only [gd2,hg],fun _ σ h1 h2 _ => OpOk.storeEL (σ:=σ) ho hz (hx ▸ ev_le (T:=[]) h1 x) ((rd_get h2 hrd).trans hb) hi (ev_le (T:=[]) h1 yo) hy hf hl hs hn hq,fun h => by cases h⟩
end Go.Proofs.Vx
namespace Go.Proofs.Vx
set_option linter.unusedSectionVars false
open Go Go.RowKit
variable [Glo]
theorem DLe.clo_eq {f:Nat} {caps:List D} {d:D} (h:DLe (.clo f caps) d):d=.clo f caps:=by cases h; rfl
theorem leL_map {fr fr':List (Nat × D)} {T T':List (Nat × Ob)} (h:leFr fr fr') (caps:List D):∀ l:List Operand,leL ((l.map (St.ev ⟨fr,T⟩)) ++ caps) ((l.map (St.ev ⟨fr',T'⟩)) ++ caps)
 | [] => by
  induction caps with
  | nil => trivial
  | cons c r ih => exact⟨.same _,ih⟩
 | x :: l =>⟨ev_le (T:=T) h x,leL_map h caps l⟩
theorem It2.callO {P:Program} {n:Nat} {all:Array Oper} {o:Oper} {fr:List (Nat × D)} {rd:List (Nat × Ob)} {x:Operand} {args:Array Operand} {ts:Array TypeId} {f ety sz:Nat} {rows:List (List D)} {caps ds:List D} (t:Nat) (hg:o.guard=none) (ho:o.op=.call { callee:=.value x,args:=args,argTypes:=ts })
  (hx:St.ev ⟨fr,[]⟩ x=.clo f caps) (hc:callable P f=true) (hds:(args.toList.map (St.ev ⟨fr,[]⟩)) ++ caps=ds) (hf:Fn P f ds [] (.sref 0) [(0,.rows true ety sz rows)]) (hn:dstB n o.dst=true) :
  ItOk P n all o ⟨true,fr,rd,.sref t,[(t,.rows true ety sz rows)],true,[]⟩:=
 ⟨hn,by simp only [gd2,hg],fun _ σ h1 _ _ => OpOk.callO (σ:=σ) t ho ((hx ▸ ev_le (T:=[]) h1 x:DLe (.clo f caps) (σ.ev x)).clo_eq) hc rfl (Fn.weak hf (by rw [← hds]; exact leL_map h1 caps args.toList)) hn,fun h => by cases h⟩
end Go.Proofs.Vx
