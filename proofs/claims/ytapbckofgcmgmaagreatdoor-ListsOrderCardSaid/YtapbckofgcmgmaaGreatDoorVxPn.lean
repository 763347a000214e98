import Derived.Test.YtapbckofgcmgmaaGreatDoorVxNl
namespace Go.Proofs.Vx
open Go Go.RowKit
set_option linter.unusedSectionVars false
variable [Glo]
theorem Inv.unpin {cx ι β T w} (hi:Inv cx ι β T w) {t:Nat} {s:Value} {ety sz:Nat} {rows:List (List D)} (hb:getT T t=.pin s ety sz rows):Inv cx ι β ((t,.rows true ety sz rows) :: T) w:=by
 have hρ:∀ d x,rho β T d x→rho β ((t,.rows true ety sz rows) :: T) d x:=fun d x h => rho_unpin hb h
 have hg:∀ u,getT ((t,.rows true ety sz rows) :: T) u=.none ↔ getT T u=.none:=fun u => by
  by_cases hu:u=t
  ·subst hu; rw [getT_cons_same,hb]; constructor <;> (intro h; cases h)
  ·rw [getT_cons_other hu]
 refine⟨hi.gl,hi.os,hi.tape,hi.output,hi.size,hi.kept,hi.old,hi.new,hi.lt,fun u => ?_,fun u b hb2 => ?_,fun u v b huv hb1 hb2 => ?_⟩
 ·by_cases hu:u=t
  ·subst hu
   rw [getT_cons_same]
   have:=hi.obj u
   rw [hb] at this
   exact ObOk.mono (ρ:=fun _ _ => False) (o:=.rows true ety sz rows) this.pin_rows.2 (fun _ _ => rfl) (fun _ _ h => h) (fun _ _ _ h => h) (fun _ _ _ => rfl) (fun _ _ h => h.elim)
  ·rw [getT_cons_other hu]; exact (hi.obj u).mono (fun _ _ => rfl) (fun _ _ h => h) (fun _ _ _ h => h) (fun _ _ _ => rfl) hρ
 ·exact (hi.mine u b hb2).imp (hg u).2 id
 ·exact (hi.apart u v b huv hb1 hb2).imp (hg u).2 (hg v).2
def paddr:Value→Nat→Value
 | .slice (some a) _ _,k => .pointer (some ⟨a.block,a.off + k,none⟩)
 | _,_ => .pointer none
section
variable {P:Program} {n:Nat} {o:Oper} {σ:St}
theorem VOk.lenP {x:Operand} {ty elem t:Nat} {s:Value} {ety sz:Nat} {rs:List (List D)} (ho:o.op=.call { callee:=.builtin .len,args:=#[x],argTypes:=#[ty] }) (ht:P.underlying ty=some (.slice elem))
  (hx:σ.ev x=.v s) (hb:getT σ.T t=.pin s ety sz rs):VOk P o σ (.v (.int .i64 (rs.length:Int))):=
 .plain fun _ _ β ac w hi hr => by
  obtain⟨hv,_⟩:=pin_value hi hb
  obtain⟨xs,hown,_⟩:=rows_at (σ:=⟨[],_⟩) (hi.unpin hb) (getT_cons_same t _ _)
  have:∃ A c,s=.slice A rs.length c:=by
   rw [← hv]
   rcases hown.2 with ⟨h,h0⟩ |⟨g,cap,cur,h,_⟩
   ·rw [h0]; exact⟨_,_,h⟩
   ·exact⟨_,_,h⟩
  obtain⟨A,c,hA⟩:=this
  simp [execOp,ho,ev_v hr hx,hA,resolve,invoke,builtin,Builtin.len_,run_underlying ht,goInt]
theorem VOk.lenPL {α:Type} {e:α→List D} {xs:List α} {x:Operand} {ty elem t:Nat} {s:Value} {ety sz:Nat} (ho:o.op=.call { callee:=.builtin .len,args:=#[x],argTypes:=#[ty] }) (ht:P.underlying ty=some (.slice elem))
  (hx:σ.ev x=.v s) (hb:getT σ.T t=.pin s ety sz (xs.map e)):VOk P o σ (.v (.int .i64 (xs.length:Int))):=by
 have h:=VOk.lenP (P:=P) ho ht hx hb
 rwa [List.length_map] at h
theorem VOk.indexP {ty elem t:Nat} {x y:Operand} {s:Value} {ety sz:Nat} {rs:List (List D)} {k:IntKind} {i:Int} {r:List D} (ho:o.op=.indexAddr ty x y) (ht:P.underlying ty=some (.slice elem)) (hz:szOf P elem=some sz)
  (hx:σ.ev x=.v s) (hb:getT σ.T t=.pin s ety sz rs) (hy:σ.ev y=.v (.int k i)) (h:0 ≤ i) (hr':rs[i.toNat]? =some r):VOk P o σ (.v (paddr s (i.toNat * sz))):=
 .plain fun _ _ β ac w hi hr => by
  obtain⟨hv,_⟩:=pin_value hi hb
  obtain⟨b,cap,xs,cur,hβ,_⟩:=eref_at (σ:=⟨[],_⟩) (hi.unpin hb) (getT_cons_same t _ _) hr'
  have hlt:i < (rs.length:Int):=by have:=(List.getElem?_eq_some_iff.1 hr').1; omega
  have hs:s=.slice (some ⟨b,0,none⟩) rs.length cap:=hv.symm.trans hβ
  simp [execOp,ho,ev_v hr hx,hs,ev_v hr hy,Instr.indexAt,asIntOf,run_underlying ht,run_sizeOf' hz,h,hlt,Addr.add_lit,paddr]
theorem VOk.indexPL {α:Type} [Inhabited α] {ty elem t:Nat} {x y:Operand} {s:Value} {ety sz:Nat} {e:α→List D} {xs:List α} {k:IntKind} {i:Int} (ho:o.op=.indexAddr ty x y) (ht:P.underlying ty=some (.slice elem)) (hz:szOf P elem=some sz)
  (hx:σ.ev x=.v s) (hb:getT σ.T t=.pin s ety sz (xs.map e)) (hy:σ.ev y=.v (.int k i)) (h:0 ≤ i ∧ i < (xs.length:Int)):VOk P o σ (.v (paddr s (i.toNat * sz))):=
 .indexP ho ht hz hx hb hy h.1 (r:=e (rd xs i)) (by
  have:i.toNat < xs.length:=by omega
  simp [rd,this])
theorem rho_setP {β:Nat→Value} {T:List (Nat × Ob)} {t:Nat} {s:Value} {ety sz:Nat} {rows rows':List (List D)} (hb:getT T t=.pin s ety sz rows) {d:D} {x:Value} (h:rho β T d x):rho β ((t,.pin s ety sz rows') :: T) d x:=by
 cases d with
 | bref u off =>
  simp only [rho] at h ⊢
  by_cases hu:u=t
  ·subst hu; rw [hb] at h; exact h.elim
  ·rw [getT_cons_other hu]; exact h
 | sref u =>
  simp only [rho] at h ⊢
  by_cases hu:u=t
  ·subst hu; rw [getT_cons_same]; rw [hb] at h; exact h
  ·rw [getT_cons_other hu]; exact h
 | eref u i off =>
  simp only [rho] at h ⊢
  by_cases hu:u=t
  ·subst hu; rw [hb] at h; exact h.elim
  ·rw [getT_cons_other hu]; exact h
 | mref u =>
  simp only [rho] at h ⊢
  by_cases hu:u=t
  ·subst hu; rw [hb] at h; exact h.elim
  ·rw [getT_cons_other hu]; exact h
 | _ => exact h
theorem OpOk.storeP {ty:TypeId} {x yo:Operand} {t i szv ety sz:Nat} {s:Value} {rows:List (List D)} {row ds:List D} (ho:o.op=.store ty x yo) (hz:szOf P ty=some szv) (hx:DLe (.v (paddr s (i * sz))) (σ.ev x)) (hb:getT σ.T t=.pin s ety sz rows) (hi:rows[i]? =some row)
  {dy:D} (hyd:DLe dy (σ.ev yo)) (hy:cellsOf dy=some ds) (hf:ds.all D.flat1=true) (hl:(Nat.beq ds.length szv && Nat.ble szv sz)=true) (hn:dstB n o.dst=true) :
  OpOk P n o σ (St.put ⟨σ.fr,(t,.pin s ety sz (rows.set i (splice row 0 ds))) :: σ.T⟩ o.dst .junk):=
 .stepU hn fun cx ι β a w hinv hr => by
  simp only [Bool.and_eq_true] at hl
  have hdl:=Nat.eq_of_beq_eq_true hl.1
  have hfit:=Nat.le_of_ble_eq_true hl.2
  have hil:=(List.getElem?_eq_some_iff.1 hi).1
  obtain⟨hsv,_⟩:=pin_value hinv hb
  obtain⟨xs,hown,hrs,hx1,hxR,hfree⟩:=rows_at (σ:=⟨[],_⟩) (hinv.unpin hb) (getT_cons_same t _ _)
  obtain⟨hxl,hown2⟩:=hown
  rcases hown2 with ⟨h0,h00⟩ |⟨b,cap,cur,hβ,hbase,hh,hnc,hcm,hcs,htake⟩
  ·omega
  have hs:s=.slice (some ⟨b,0,none⟩) rows.length cap:=hsv.symm.trans hβ
  have hv:a.eval x=.pointer (some ⟨b,i * sz,none⟩):=by
   have h:=(hx.r (hr x)).v_inv
   rw [h,hs]; simp [paddr]
  have hex:∀ o,¬ ι b o:=(hfree b (by rw [hβ]; rfl)).2.1 rfl
  obtain⟨hyl,hy1,hyR⟩:=(hyd.r (hr yo)).cells hy
  have hpos:i * sz + ds.length ≤ rows.length * sz:=by
   have:(i + 1) * sz ≤ rows.length * sz:=Nat.mul_le_mul_right _ hil
   rw [Nat.succ_mul] at this; omega
  have hcap:rows.length * sz ≤ cap * sz:=Nat.mul_le_mul_right _ hnc
  have hst:=run_storeCells_at P b (i * sz) ety (a.eval yo).cells.toList 0 cur w hh (by simp; omega) (fun v hv => by
   obtain⟨k,hk⟩:=List.mem_iff_getElem?.1 hv
   exact hy1 k v (by simpa using hk))
  simp only [Nat.add_zero] at hst
  generalize hc':(cur.toList.take (i * sz) ++ (a.eval yo).cells.toList ++ cur.toList.drop (i * sz + (a.eval yo).cells.toList.length))=c' at hst
  have hcs':c'=splice cur.toList (i * sz) (a.eval yo).cells.toList:=hc'.symm
  have hc'l:c'.length=cur.size:=by rw [hcs',splice_len (by simp; omega)]; simp
  have hgo:Goes ι w ι (w.setRow b c'.toArray) (some b):=
   ⟨rfl,rfl,rfl,by simp,fun k _ hk => setRow_other w b k _ (fun e => hk (by rw [e])),fun _ _ h => h,fun _ _ h => .inl h,fun b1 o1 hb1 => World.cell?_of_block (w:=w) (setRow_other w b b1 _ (fun e => hex o1 (e ▸ hb1)))⟩
  have hlen:(rows.set i (splice row 0 ds)).length=rows.length:=by simp
  have hR:∀ d y,R ι w (rho β σ.T) d y→R ι (w.setRow b c'.toArray) (rho β ((t,.pin s ety sz (rows.set i (splice row 0 ds))) :: σ.T)) d y:=fun d y hd => hd.mono hgo.sub hgo.cell (fun d x h => rho_setP hb h)
  have hrowl:row.length=sz:=hrs row (List.mem_of_getElem? hi)
  have hflat:=flatten_set hrs i 0 row ds hi (by omega)
  rw [Nat.add_zero] at hflat
  refine⟨w.setRow b c'.toArray,ι,β,?_,hinv.step t (some b) hgo.os hgo.tape hgo.output hgo.size hgo.kept (fun k hk => by cases hk; exact⟨by rw [hβ]; rfl,by rw [hb]; exact fun h => by cases h⟩) hgo.sub hgo.new hgo.cell (fun _ _ => rfl) (fun u hu => .inr (getT_cons_other hu)) (fun u e cs _ _ _ d _ y hd => hR d y hd) ?_ ?_,fun s x hsx => hR _ _ hsx⟩
  ·have hne:¬ ((a.eval yo).cells.size ≠ szv):=by omega
   simp [execOp,ho,hv,Instr.storeAt,Instr.sureAddr,storeVar,run_sizeOf' hz,hne,hst]
  ·rw [getT_cons_same]
   refine ObOk.pin_of hsv ⟨splice xs (i * sz) (a.eval yo).cells.toList,⟨by rw [splice_len (by simp; omega),hlen]; exact hxl,.inr ⟨b,cap,c'.toArray,?_,hbase,?_,by rw [hlen]; exact hnc,hcm,by simp [hc'l,hcs],?_⟩⟩,fun r hr' => ?_,fun y hy' => ?_,fun k d y hd hy' => ?_,fun b1 hb1 => ?_⟩
   ·rw [hlen,hβ]
   ·exact setRow_heap w b cur _ ety _ hh
   ·rw [hlen,hcs']
    rw [← htake]
    have hk:i * sz + (a.eval yo).cells.toList.length ≤ rows.length * sz:=by simp [hyl]; omega
    conv => lhs; rw [← List.take_append_drop (rows.length * sz) cur.toList]
    rw [splice_left _ _ _ _ (by simp; omega),List.take_left' (by rw [splice_len (by simp; omega)]; simp; omega)]
   ·rcases List.mem_or_eq_of_mem_set hr' with h | h
    ·exact hrs r h
    ·rw [h,splice_len (by omega)]; exact hrowl
   ·obtain⟨k,hk⟩:=List.mem_iff_getElem?.1 hy'
    rw [splice_at (by simp [hyl]; omega)] at hk
    split at hk
    ·exact hy1 _ _ (by simpa using hk)
    ·exact hx1 _ (List.mem_of_getElem? hk)
   ·rw [hflat,splice_at (by rw [flatten_len hrs]; omega)] at hd
    rw [splice_at (by simp [hyl]; omega)] at hy'
    have e:(a.eval yo).cells.toList.length=ds.length:=by simp [hyl]
    rw [e] at hy'
    split at hy'
    ·rename_i h; rw [if_pos h] at hd
     have hmem:=List.mem_of_getElem? hd
     simp only [List.all_eq_true] at hf
     exact ((hyR _ _ _ hd (by simpa using hy')).flat1 (hf d hmem)).mono hgo.sub hgo.cell
    ·rename_i h; rw [if_neg h] at hd; exact (hxR _ _ _ hd hy').mono hgo.sub hgo.cell
   ·obtain⟨f1,f2,f3⟩:=hfree b1 hb1
    rw [hlen]
    exact⟨f1,f2,f3⟩
  ·intro b1 hb1; exact .inr (.inr ⟨hb1,by rw [hb]; exact fun h => by cases h⟩)
theorem OpX.appendP {so x:Operand} {ty ety sz by_ t:Nat} {s:Value} {rs rows:List (List D)} (ho:o.op=.call { callee:=.builtin .append,args:=#[so,x],argTypes:=#[ty,ty] }) (ht:P.underlying ty=some (.slice ety)) (he:Elt P ety sz by_)
  (hs:DLe (.v s) (σ.ev so)) (hb:getT σ.T t=.pin s ety sz rs) (hx:DLe (.list sz rows) (σ.ev x)) (hl:(rs.length + rows.length) * by_ ≤ 140737488355328) (hn:dstB n o.dst=true) :
  OpX P n o σ fun σ' => ∃ v,v.oneCell'=true ∧ σ'=St.put ⟨kill t σ.fr,(t,.pin v ety sz (rs ++ rows)) :: killT t σ.T⟩ o.dst (.v v):=by
 intro cx a w K Q hsim hk
 obtain⟨⟨ι,β,hi,hr⟩,hsz,hdf⟩:=hsim
 obtain⟨hsv,hone⟩:=pin_value hi hb
 have hss:a.eval so=s:=(hs.r (sim_ev hr so)).v_inv
 have hxx:R ι w (rho β ((t,.rows true ety sz rs) :: σ.T)) (.list sz rows) (a.eval x):=(hx.r (sim_ev hr x)).mono (fun _ _ h => h) (fun _ _ _ => rfl) (fun _ _ h => rho_unpin hb h)
 have hi1:=hi.unpin hb
 obtain⟨v,w',ι',y,tb,h1,h2,h3,h4,h5,h6⟩:=append_ex (P:=P) (σ:=⟨[(0,.sref t),(1,.list sz rows)],(t,.rows true ety sz rs) :: σ.T⟩) (o:={ o with op:=.call { callee:=.builtin .append,args:=#[.tmp 0,.tmp 1],argTypes:=#[ty,ty] } }) (s:=.tmp 0) (x:=.tmp 1) (rows:=rows) rfl ht he rfl (getT_cons_same _ _ _) hl
  (list_ex rfl) (a:=⟨#[a.eval so,a.eval x],[]⟩) hi1 (fun q => by
   cases q with
   | tmp q =>
    match q with
    | 0 => exact .ref rfl (hss ▸ hone) (by show rho β ((t,.rows true ety sz rs) :: σ.T) (.sref t) (a.eval so); simp only [rho,getT_cons_same]; exact hss.trans hsv.symm)
    | 1 => exact hxx
    | q + 2 => exact .junk _
   | const v => exact .v v
   | func f => exact .pu (.clo f [] #[] rfl (fun k d x h => by simp at h))
   | global g => exact .junk _)
 have hvy:v=y:=by
  have:=h6.ref_inv rfl
  simp only [rho,getT_cons_same,upd_same] at this
  exact this
 have hv1:=h6.ref_one rfl
 subst hvy
 have hrun:(execOp a.eval o).run P w=.ok (.value v) w':=by
  have e0:Act.eval ⟨#[a.eval so,a.eval x],[]⟩ (.tmp 0)=a.eval so:=rfl
  have e1:Act.eval ⟨#[a.eval so,a.eval x],[]⟩ (.tmp 1)=a.eval x:=rfl
  simp [execOp,resolve,e0,e1] at h1
  simp [execOp,ho,resolve]
  exact h1
 have hne:getT σ.T t ≠ .none:=by rw [hb]; exact fun h => by cases h
 have hob:ObOk ι' w' (rho (upd β t v) ((t,.pin v ety sz (rs ++ rows)) :: killT t σ.T)) v (.pin v ety sz (rs ++ rows)):=
  ObOk.pin_of rfl (ObOk.mono (ρ:=fun _ _ => False) (o:=.rows true ety sz (rs ++ rows)) h4 (fun _ _ => rfl) (fun _ _ h => h) (fun _ _ _ h => h) (fun _ _ _ => rfl) (fun _ _ h => h.elim))
 have hI:=hi.ob t h2 (x:=v) (ob:=.pin v ety sz (rs ++ rows)) (fun k hk =>⟨(h3 k hk).1,hne⟩) hob (fun b hb' => (h5 b hb').imp id fun h =>⟨h.1,hne⟩)
 unfold Oper.wp
 rw [hrun]
 exact hk _ _ _ ⟨v,hv1,rfl⟩ (Sim.put1 hI (fun s => fr_ob t h2 v _ s _ (hr s)) hsz hdf (dstB_lt hn) (.v v))
end
def zeroEv (sp:List (Option Nat)) (σ:St):Operand→D
 | .const (.agg cs) => match zeroD sp cs.toList with
  | some ds => .agg ds
  | none => .junk
 | x => σ.ev x
theorem zeroEv_R {ι w ρ} {σ:St} {a:Act} (sp:List (Option Nat)) (hr:∀ x:Operand,R ι w ρ (σ.ev x) (a.eval x)) (x:Operand):R ι w ρ (zeroEv sp σ x) (a.eval x):=by
 unfold zeroEv
 split
 ·rename_i cs
  split
  ·rename_i ds h
   obtain⟨h0,h1,h2⟩:=zeroD_R h (ι:=ι) (w:=w)
   exact .agg ds cs (by simpa using h0) (fun k y hy => h1 k y (by simpa using hy)) (fun k d y hd hy => .pu (h2 k d y hd (by simpa using hy)))
  ·exact .junk _
 ·exact hr x
theorem GOk.litZ {P:Program} {o:Oper} {σ:St} {ty ety sz len:Nat} {parts:Array (Nat × Operand)} {rows:List (List D)} (sp:List (Option Nat)) (ho:o.op=.buildSlice ty len parts) (ht:P.underlying ty=some (.slice ety)) (hs:szOf P ety=some sz)
  (hz:(zeroOf P ety).map (fun z => z.cells.size)=some sz) (hq:(seqB 0 parts.toList && Nat.beq parts.size len && Nat.ble (len * sz) 16777216)=true) (hro:rowsOf (parts.toList.map fun p => zeroEv sp σ p.2)=some rows)
  (hsz:rows.all (fun r => Nat.beq r.length sz)=true) (hf:flatRows rows=true):GOk P o σ (.list sz rows):=by
 intro cx ι β a w next Q hi hr hk
 have hsz':∀ r ∈ rows,r.length=sz:=fun r hr => by simp at hsz; exact hsz r hr
 obtain⟨c',hrun,hc,hl,h1,hR⟩:=run_buildSliceE (P:=P) (w:=w) (ev:=zeroEv sp σ) (zeroEv_R sp hr) ho ht hs hz hq hro hsz'
 have hcell:∀ b o,ι b o→(w.alloc (.cells c' ety)).cell? ⟨b,o,none⟩=w.cell? ⟨b,o,none⟩:=fun b o hb => World.cell?_alloc_lt w _ _ (hi.lt b o hb)
 unfold Oper.wp
 rw [hrun]
 refine hk _ (w.alloc (.cells c' ety)) (fun b o => ι b o ∨ (b=w.heap.size ∧ o < len * sz)) (hi.grow rfl rfl rfl (by simp) (fun k hk => Below.heap_alloc w _ k hk) (fun _ _ h => .inl h) (fun b o h => h.imp id (fun h => by simp; omega))) (fun _ _ h => .inl h) hcell (.pu ?_)
 rw [← hl]
 refine .list sz rows w.heap.size 0 rows.length (fun k => (c'[k]?).getD undef) (Nat.le_refl _) hsz' (fun k hk => ?_) (fun k d hd => ?_)
 ·rw [hl] at hk
  have hk':c'[k]? =some (c'[k]'(by omega)):=Array.getElem?_eq_getElem _
  exact⟨by rw [Nat.zero_add,World.cell?_alloc_new,hk']; rfl,by rw [hk']; exact h1 _ _ hk',.inr ⟨rfl,by rw [hl]; omega⟩⟩
 ·have hk:k < rows.length * sz:=by rw [← flatten_len hsz']; exact (List.getElem?_eq_some_iff.1 hd).1
  rw [hl] at hk
  have hk':c'[k]? =some (c'[k]'(by omega)):=Array.getElem?_eq_getElem _
  rw [hk']
  exact ((hR _ _ _ hd hk').flat1 (flatRows_mem hf hd)).mono (fun _ _ h => .inl h) hcell
section
variable {P:Program} {n:Nat} {all:Array Oper} {o:Oper} {fr:List (Nat × D)} {rd:List (Nat × Ob)}
theorem It2.storePL {α:Type} [Inhabited α] {ty:TypeId} {x yo:Operand} {t szv ety sz:Nat} {i:Int} {s:Value} {e:α→List D} {xs:List α} {y:α} (hg:o.guard=none) (ho:o.op=.store ty x yo) (hz:szOf P ty=some szv)
  (hx:St.ev ⟨fr,[]⟩ x=.v (paddr s (i.toNat * sz))) (hb:getT rd t=.pin s ety sz (xs.map e)) (hrd:rd.any (fun p => Nat.beq p.1 t)=true) (hi:0 ≤ i ∧ i < (xs.length:Int))
  (hy:cellsOf (St.ev ⟨fr,[]⟩ yo)=some (e y)) (hf:(e y).all D.flat1=true) (hl:(Nat.beq (e y).length szv && Nat.ble szv sz)=true) (hs:splice (e (Vx.rd xs i)) 0 (e y)=e y) (hn:dstB n o.dst=true) {xs':List α} (hq:xs.set i.toNat y=xs') :
  ItOk P n all o ⟨true,fr,rd,.junk,[(t,.pin s ety sz (xs'.map e))],false,[]⟩:=
 ⟨hn,by simp only [gd2,hg],fun _ σ h1 h2 _ => by
  have hlt:i.toNat < xs.length:=by omega
  have hrow:(xs.map e)[i.toNat]? =some (e (Vx.rd xs i)):=by simp [Vx.rd,hlt]
  have:=OpOk.storeP (P:=P) (n:=n) (σ:=σ) ho hz (hx ▸ ev_le (T:=[]) h1 x) ((rd_get h2 hrd).trans hb) hrow (ev_le (T:=[]) h1 yo) hy hf hl hn
  rw [hs,← List.map_set,hq] at this
  exact this,fun h => by cases h⟩
abbrev Sv:={ s:Value // s.oneCell'=true }
theorem Sv.cells (s:Sv):cellsOf (.v s.1)=some [.v s.1]:=by simp [cellsOf,s.2]
theorem ItX.appendPL {α:Type} {its0:Sv→List It2} {so x:Operand} {ty ety sz by_ t k:Nat} {s:Sv} {s1:Value} {e:α→List D} {xs ys:List α} (hg:o.guard=none) (ho:o.op=.call { callee:=.builtin .append,args:=#[so,x],argTypes:=#[ty,ty] }) (ht:P.underlying ty=some (.slice ety)) (he:Elt P ety sz by_)
  (hs:St.ev ⟨fr,[]⟩ so=.v s1) (hb:getT rd t=.pin s1 ety sz (xs.map e)) (hrd:rd.any (fun p => Nat.beq p.1 t)=true) (hx:St.ev ⟨fr,[]⟩ x=L sz e ys) (hl:(xs.length + ys.length) * by_ ≤ 140737488355328)
  (hi:∀ s:Sv,(its0 s)[k]? =some ⟨true,fr,rd,.v s.1,[(t,.pin s.1 ety sz ((xs ++ ys).map e))],true,[]⟩) (hn:dstB n o.dst=true) :
  ItX P n all its0 k s k o ⟨true,fr,rd,.v s.1,[(t,.pin s.1 ety sz ((xs ++ ys).map e))],true,[]⟩:=
 ⟨hn,by simp only [gd2,hg],fun _ σ h1 h2 _ => by
  have hx':DLe (.list sz (ys.map e)) (σ.ev x):=by have h:=ev_le (T:=[]) h1 x; rw [hx] at h; exact h
  have h:=OpX.appendP (P:=P) (n:=n) (σ:=σ) (rs:=xs.map e) (rows:=ys.map e) ho ht he (hs ▸ ev_le (T:=[]) h1 so) ((rd_get h2 hrd).trans hb) hx' (by simpa using hl) hn
  intro cx a w K Q hsim hk
  refine h cx a w K Q hsim fun σ' a' w' hσ hs' => ?_
  obtain⟨v,hv1,rfl⟩:=hσ
  refine hk _ a' w' ⟨⟨v,hv1⟩,_,hi ⟨v,hv1⟩,rfl,fun h => absurd rfl h,?_⟩ hs'
  rw [← List.map_append]
  rfl,fun h => by cases h⟩
end
section
variable {P:Program} {n:Nat} {o:Oper} {σ:St}
theorem OpOk.cutN {ty ety sz m t:Nat} {x hi:Operand} {k:IntKind} {rs:List (List D)} (u:Nat) (ho:o.op=.slice ty x none (some hi) none) (ht:P.underlying ty=some (.slice ety)) (hz:szOf P ety=some sz)
  (hx:DLe (.sref t) (σ.ev x)) (hb:getT σ.T t=.rows true ety sz rs) (hh:DLe (.v (.int k (m:Int))) (σ.ev hi)) (hm:m ≤ rs.length) (htu:Nat.beq t u=false) (hn:dstB n o.dst=true) :
  OpOk P n o σ (St.put ⟨kill u σ.fr,(u,.rows true ety sz (rs.take m)) :: (t,.none) :: killT u σ.T⟩ o.dst (.sref u)):=by
 have htu:=Nat.ne_of_beq_eq_false htu
 have hh:σ.ev hi=.v (.int k (m:Int)):=by
  generalize σ.ev hi=d at hh
  cases hh; rfl
 refine .step hn fun cx ι β a w hi' hr => ?_
 have hxx:=hx.r (hr x)
 have hrho:=hxx.ref_inv rfl
 simp only [rho,hb] at hrho
 have hob:=hi'.obj t
 rw [hb] at hob
 obtain⟨xs,⟨hxl,hown⟩,hrl,h1,hR,hι⟩:=hob
 have hlo:loI σ none=some 0:=rfl
 have hfl:=flat_take (rs:=rs) m hrl
 have hcellR:∀ (k:Nat) d y,(rs.take m).flatten[k]? =some d→(xs.take (m * sz))[k]? =some y→Pu ι w d y:=fun k d y hd hy => by
  rw [hfl] at hd
  rw [List.getElem?_take] at hd hy
  split at hd
  ·rename_i hk
   rw [if_pos hk] at hy
   exact hR k d y hd hy
  ·cases hd
 have hlt:(rs.take m).length=m:=by simp; omega
 have hms:m * sz ≤ rs.length * sz:=Nat.mul_le_mul_right _ hm
 have hne:getT σ.T t ≠ .none:=by rw [hb]; exact fun h => by cases h
 rcases hown with ⟨hβ,h0⟩ |⟨g,cap,cur,hβ,_,hw,hlc,hmx,hcs,htk⟩
 ·have hm0:m=0:=by omega
  have hbr:=run_bounds (P:=P) (a:=⟨a.eval⟩) hr true 0 0 hlo (hi:=some hi) (h:=0) (by simp [hiI,hh,hm0]) ⟨by omega,by omega,by omega⟩ w
  refine⟨.slice none 0 0,w,ι,upd β u (.slice none 0 0),?_,hi'.move t u htu (.same ι w) (fun k h => (by cases h)) ?_ (fun b h => by cases h),fun s y hy => fr_move t u htu (.same ι w) _ _ s y hy,.ref rfl rfl (by simp only [rho,getT_cons_same,upd_same])⟩
  ·simp only [Option.map_none,Option.map_some] at hbr
   simp [execOp,ho,hrho,hβ,Instr.sliceAt,Instr.slice,run_underlying ht,hbr,run_sizeOf' hz]
  ·exact⟨xs.take (m * sz),⟨by rw [List.length_take,hlt]; omega,.inl ⟨rfl,by rw [hlt]; exact hm0⟩⟩,fun r hr => hrl r (List.mem_of_mem_take hr),fun y hy => h1 y (List.mem_of_mem_take hy),hcellR,fun b h => (by cases h)⟩
 ·have hbr:=run_bounds (P:=P) (a:=⟨a.eval⟩) hr true rs.length cap hlo (hi:=some hi) (h:=(m:Int)) (by simp [hiI,hh]) ⟨by omega,by omega,by omega⟩ w
  refine⟨.slice (some ⟨g,0,none⟩) m cap,w,ι,upd β u (.slice (some ⟨g,0,none⟩) m cap),?_,hi'.move t u htu (.same ι w) (fun k h => (by cases h)) ?_ (fun b h => ?_),fun s y hy => fr_move t u htu (.same ι w) _ _ s y hy,.ref rfl rfl (by simp only [rho,getT_cons_same,upd_same])⟩
  ·simp only [Option.map_none,Option.map_some] at hbr
   simp [execOp,ho,hrho,hβ,Instr.sliceAt,Instr.slice,run_underlying ht,hbr,run_sizeOf' hz,Addr.add]
  ·refine⟨xs.take (m * sz),⟨by rw [List.length_take,hlt]; omega,.inr ⟨g,cap,cur,by rw [hlt],Nat.zero_le _,hw,by omega,hmx,hcs,?_⟩⟩,fun r hr => hrl r (List.mem_of_mem_take hr),fun y hy => h1 y (List.mem_of_mem_take hy),hcellR,fun b h => ?_⟩
   ·rw [hlt,← htk,List.take_take,Nat.min_eq_left hms]
   ·have:=hι b (by rw [hβ]; exact h)
    exact⟨fun o _ => this.2.1 rfl o,this.2.1,fun h => by cases h⟩
  ·exact .inr ⟨by rw [hβ]; exact h,hne⟩
end
section
variable {P:Program} {n:Nat} {all:Array Oper} {o:Oper} {fr:List (Nat × D)} {rd:List (Nat × Ob)}
theorem It2.cutL {α:Type} {ty ety sz m t:Nat} {x hi:Operand} {k:IntKind} {e:α→List D} {xs ys:List α} (u:Nat) (hg:o.guard=none) (ho:o.op=.slice ty x none (some hi) none) (ht:P.underlying ty=some (.slice ety)) (hz:szOf P ety=some sz)
  (hs:St.ev ⟨fr,[]⟩ x=.sref t) (hb:getT rd t=.rows true ety sz (xs.map e)) (hrd:rd.any (fun p => Nat.beq p.1 t)=true) (hh:St.ev ⟨fr,[]⟩ hi=.v (.int k (m:Int))) (hm:m ≤ xs.length) (hy:xs.take m=ys) (htu:Nat.beq t u=false) (hn:dstB n o.dst=true) :
  ItOk P n all o ⟨true,fr,rd,.sref u,[(u,.rows true ety sz (ys.map e)),(t,.none)],true,[]⟩:=
 ⟨hn,by simp only [gd2,hg],fun _ σ h1 h2 _ => by
  have:=OpOk.cutN (P:=P) (n:=n) (σ:=σ) (m:=m) u ho ht hz (hs ▸ ev_le (T:=[]) h1 x) ((rd_get h2 hrd).trans hb) (hh ▸ ev_le (T:=[]) h1 hi) (by simpa using hm) htu hn
  rw [← List.map_take,hy] at this
  exact this,fun h => by cases h⟩
end
theorem FnX.mono {P:Program} {f:Nat} {ds:List D} {T:List (Nat × Ob)} {Φ Ψ:D→List (Nat × Ob)→Prop} (h:FnX P f ds T Φ) (hq:∀ r T',Φ r T'→Ψ r T'):FnX P f ds T Ψ:=
 fun w ι β vs hi hl hr => (h w ι β vs hi hl hr).mono fun _ _ ⟨v,ι',β',r,T',h1,h2⟩ =>⟨v,ι',β',r,T',hq _ _ h1,h2⟩
end Go.Proofs.Vx
