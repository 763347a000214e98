import Derived.Test.YtjhbedgepfkdbaaVxU
namespace Go.Proofs.Vx
open Go Go.RowKit
set_option linter.unusedSectionVars false
variable [Glo]
theorem Inv.lt' {cx ι β T w} (h:Inv cx ι β T w):∀ t b,getT T t ≠ .none→blockOf (β t)=some b→b < w.heap.size:=by
 intro t b hne hb
 have ho:=h.obj t
 cases hg:getT T t with
 | none => exact absurd hg hne
 | box e c => rw [hg] at ho; obtain⟨b',c,ty,hx,hc,_⟩:=ho; rw [hx] at hb; cases hb; exact (Array.getElem?_eq_some_iff.1 hc).1
 | rows e ety sz rs =>
  rw [hg] at ho; obtain⟨xs,ho,_⟩:=ho
  rcases ho.2 with ⟨hx,_⟩ |⟨g,cap,cur,hx,_,hc,_⟩
  ·rw [hx] at hb; cases hb
  ·rw [hx] at hb; cases hb; exact (Array.getElem?_eq_some_iff.1 hc).1
 | map es => rw [hg] at ho; obtain⟨r,es,cl,hx,hc,_⟩:=ho; rw [hx] at hb; cases hb; exact (Array.getElem?_eq_some_iff.1 hc).1
 | pin s ety sz rs =>
  rw [hg] at ho; obtain⟨_,xs,ho,_⟩:=ho
  rcases ho.2 with ⟨hx,_⟩ |⟨g,cap,cur,hx,_,hc,_⟩
  ·rw [hx] at hb; cases hb
  ·rw [hx] at hb; cases hb; exact (Array.getElem?_eq_some_iff.1 hc).1
 | bytes ys => rw [hg] at ho; obtain⟨r,cap,cur,fz,ety,hx,hc,_⟩:=ho; rw [hx] at hb; cases hb; exact (Array.getElem?_eq_some_iff.1 hc).1
theorem Inv.multi {cx ι β T w} (h:Inv cx ι β T w) {w':World} {ι':Nat→Nat→Prop} {β':Nat→Value} {T':List (Nat × Ob)} (M:Nat→Prop) (W:Nat→Prop)
  (hW:∀ b,W b→∃ u,M u ∧ getT T u ≠ .none ∧ blockOf (β u)=some b)
  (hos:w'.os=w.os) (htape:w'.tape=w.tape) (hout:w'.output=w.output) (hsize:w.heap.size ≤ w'.heap.size)
  (hkept:∀ k,k < w.heap.size→¬ W k→w'.heap[k]? =w.heap[k]?)
  (hsub:∀ b o,ι b o→ι' b o) (hnew:∀ b o,ι' b o→ι b o ∨ (w.heap.size ≤ b ∧ b < w'.heap.size) ∨ W b)
  (hcell:∀ b o,ι b o→w'.cell? ⟨b,o,none⟩=w.cell? ⟨b,o,none⟩)
  (hβ:∀ u,¬ M u→β' u=β u) (hT:∀ u,¬ M u→getT T' u=.none ∨ getT T' u=getT T u)
  (hR:∀ u e cells,¬ M u→getT T u=.box e cells→getT T' u=getT T u→∀ d ∈ cells,∀ y,R ι w (rho β T) d y→R ι' w' (rho β' T') d y)
  (hob:∀ u,M u→ObOk ι' w' (rho β' T') (β' u) (getT T' u))
  (hmine:∀ u b,M u→blockOf (β' u)=some b→getT T' u=.none ∨ w.heap.size ≤ b ∨ W b)
  (hap:∀ u v b,M u→M v→u ≠ v→blockOf (β' u)=some b→blockOf (β' v)=some b→getT T' u=.none ∨ getT T' v=.none):Inv cx ι' β' T' w':=by
 have lt:=h.lt'
 refine⟨h.gl,hos.trans h.os,htape.trans h.tape,hout.trans h.output,Nat.le_trans h.size hsize,fun k hk hWk => ?_,fun b o hb => hsub _ _ (h.old b o hb),fun b o hb => ?_,fun b o hb => ?_,fun u => ?_,fun u b hb => ?_,fun u v b huv hb hb' => ?_⟩
 ·refine (hkept k (Nat.lt_of_lt_of_le hk h.size) (fun e => ?_)).trans (h.kept k hk hWk)
  obtain⟨t,_,h2,h1⟩:=hW k e
  rcases h.mine t k h1 with h' | h' | h'
  ·exact h2 h'
  ·omega
  ·exact hWk h'
 ·rcases hnew b o hb with h' | h' | h'
  ·exact h.new b o h'
  ·exact .inr (.inl (Nat.le_trans h.size h'.1))
  ·obtain⟨t,_,h2,h1⟩:=hW b h'
   exact .inr ((h.mine t b h1).resolve_left h2)
 ·rcases hnew b o hb with h' | h' | h'
  ·exact Nat.lt_of_lt_of_le (h.lt b o h') hsize
  ·exact h'.2
  ·obtain⟨t,_,h2,h1⟩:=hW b h'
   exact Nat.lt_of_lt_of_le (lt t b h2 h1) hsize
 ·by_cases hu:M u
  ·exact hob u hu
  ·rcases hT u hu with e | e
   ·rw [e]; trivial
   ·rw [e,hβ u hu]
    by_cases hn:getT T u=.none
    ·rw [hn]; trivial
    ·have hne:∀ b,blockOf (β u)=some b→¬ W b:=by
      intro b hb e
      obtain⟨t,hM,h2,h1⟩:=hW b e
      rcases h.apart u t b (fun e => hu (e ▸ hM)) hb h1 with h' | h'
      ·exact hn h'
      ·exact h2 h'
     refine (h.obj u).keep (fun b hb => hkept b (lt u b hn hb) (hne b hb)) hsub (fun b hb o ho => ?_) hcell (fun e' cells hc => hR u e' cells hu hc e)
     rcases hnew b o ho with h' | h' | h'
     ·exact h'
     ·have:=lt u b hn hb; omega
     ·exact absurd h' (hne b hb)
 ·by_cases hu:M u
  ·rcases hmine u b hu hb with h' | h' | h'
   ·exact .inl h'
   ·exact .inr (.inl (Nat.le_trans h.size h'))
   ·obtain⟨t,_,h2,h1⟩:=hW b h'
    exact .inr ((h.mine t b h1).resolve_left h2)
  ·rw [hβ u hu] at hb
   rcases hT u hu with e | e
   ·exact .inl e
   ·rw [e]; exact h.mine u b hb
 ·have one:∀ u v b,¬ M u→M v→blockOf (β' u)=some b→blockOf (β' v)=some b→getT T' u=.none ∨ getT T' v=.none:=by
   intro u v b hu hv hb hb'
   rw [hβ u hu] at hb
   rcases hT u hu with e | e
   ·exact .inl e
   ·by_cases hn:getT T u=.none
    ·exact .inl (e.trans hn)
    ·rcases hmine v b hv hb' with h' | h' | h'
     ·exact .inr h'
     ·have:=lt u b hn hb; omega
     ·obtain⟨t,hM,h2,h1⟩:=hW b h'
      rcases h.apart u t b (fun e => hu (e ▸ hM)) hb h1 with h3 | h3
      ·exact absurd h3 hn
      ·exact absurd h3 h2
  by_cases hu:M u
  ·by_cases hv:M v
   ·exact hap u v b hu hv huv hb hb'
   ·exact (one v u b hv hu hb' hb).symm
  ·by_cases hv:M v
   ·exact one u v b hu hv hb hb'
   ·rw [hβ u hu] at hb
    rw [hβ v hv] at hb'
    rcases hT u hu with e | e
    ·exact .inl e
    ·rcases hT v hv with e' | e'
     ·exact .inr e'
     ·rw [e,e']; exact h.apart u v b huv hb hb'
def rn (p q t t1:Nat):D→D
 | .bref u off => match Nat.beq u p with | true => .bref t off | false => .junk
 | .sref u => match Nat.beq u q with | true => .sref t1 | false => .junk
 | d => match d.flat1 with | true => d | false => .junk
def rnA (p t:Nat):D→D
 | .bref u off => match Nat.beq u p with | true => .bref t off | false => .junk
 | d => d
def okA (p:Nat):D→Bool
 | .bref u _ => Nat.beq u p
 | d => d.flat
section
variable {P:Program} {n:Nat} {o:Oper} {σ:St}
theorem OpOk.callB {x:Operand} {args:Array Operand} {ts:Array TypeId} {f p:Nat} {e:Ex} {caps ds ds0 cells cells':List D} {r:D} (t:Nat) (ho:o.op=.call { callee:=.value x,args:=args,argTypes:=ts }) (hx:DLe (.clo f caps) (σ.ev x))
  (hc:callable P f=true) (hf:∀ b,Fn P f ds [(p,.box (e.pinAt b) cells)] r [(p,.box (e.pinAt b) cells')]) (hd0:ds.map (rnA p t)=ds0)
  (hds:leL ds0 ((args.toList.map σ.ev) ++ caps)) (hdk:ds.all (okA p)=true) (hb:getT σ.T t=.box e cells) (he:e.own=true) (hck:(cells.all D.flat1 && cells'.all D.flat1 && r.flat)=true) (hn:dstB n o.dst=true) :
  OpOk P n o σ (St.put ⟨σ.fr,(t,.box e cells') :: σ.T⟩ o.dst r):=by
 simp only [Bool.and_eq_true] at hck
 obtain⟨⟨hc1,hc2⟩,hrf⟩:=hck
 subst hd0
 intro cx a w K Q hs hk
 obtain⟨⟨ι,β,hi,hr⟩,hsz,hdf⟩:=hs
 have hev:=sim_ev hr
 have hxx:=hx.r (hev x)
 obtain⟨vs,hv,hl,hg⟩:=hxx.clo_inv
 have hrun:(execOp a.eval o).run P w=.ok (.enter f (args.map a.eval ++ vs)) w:=by
  simp [execOp,ho,resolve,hv,Deferred.ofValue,invoke,run_callFunc hc]
 unfold Oper.wp
 rw [hrun,Oper.upon_enter]
 obtain⟨b,c,ty,hβ,hh,hlen,hone,hcl,hex,_,hat⟩:=box_at hi hb
 let β0:Nat→Value:=fun _ => β t
 let T1:List (Nat × Ob):=[(p,.box (e.pinAt b) cells)]
 have gp:getT T1 p=.box (e.pinAt b) cells:=getT_cons_same _ _ _
 have go:∀ u,u ≠ p→getT T1 u=.none:=fun u h1 => by rw [getT_cons_other h1]; rfl
 have hWof:∀ k,Wof β0 T1 k→k=b:=by
  rintro k ⟨u,hu1,hu2⟩
  simp only [β0,hβ] at hu2; cases hu2; rfl
 have hWb:Wof β0 T1 b:=⟨p,by rw [gp]; exact fun h => (by cases h),by show blockOf (β t)=some b; rw [hβ]; rfl⟩
 have hinv:Inv ⟨w,Wof β0 T1,ι⟩ ι β0 T1 w:=by
  have hgl:GlOk ⟨w,Wof β0 T1,ι⟩:=hi.glC fun k hk => by
   obtain rfl:=hWof k hk
   exact (hi.mine t _ (by rw [hβ]; rfl)).resolve_left (by rw [hb]; exact fun h => by cases h)
  refine⟨hgl,rfl,rfl,rfl,Nat.le_refl _,fun _ _ _ => rfl,fun _ _ h => h,fun _ _ h => .inl h,hi.lt,fun u => ?_,fun u b' hb' => ?_,fun u v b' huv hb1 hb2 => ?_⟩
  ·by_cases hup:u=p
   ·subst hup
    rw [gp]
    exact⟨b,c,ty,hβ,hh,hlen,hone,fun k d y hd hy => .pu ((hcl k d y hd hy).flat1 (by rw [List.all_eq_true] at hc1; exact hc1 d (List.mem_of_getElem? hd))),fun _ => hex he,fun h => (by rw [Ex.pinAt_own] at h; cases h),Ex.pinAt_in hat⟩
   ·rw [go u hup]; trivial
  ·by_cases hn:getT T1 u=.none
   ·exact .inl hn
   ·exact .inr (.inr ⟨u,hn,hb'⟩)
  ·by_cases hup:u=p
   ·by_cases hvp:v=p
    ·exact absurd (hup.trans hvp.symm) huv
    ·exact .inr (go v hvp)
   ·exact .inl (go u hup)
 have hlds:=leL_len hds
 refine (hf b w ι β0 _ hinv (by simp at hlds; simp [hl,hlds]) (fun k d y hd hy => ?_)).mono ?_
 ·have hk':k < ((args.toList.map σ.ev) ++ caps).length:=by rw [← hlds]; simpa using (List.getElem?_eq_some_iff.1 hd).1
  have hle:=leL_get hds k (rnA p t d) _ (by rw [List.getElem?_map,hd]; rfl) (List.getElem?_eq_getElem hk')
  have hd':((args.toList.map σ.ev) ++ caps)[k]? =some (((args.toList.map σ.ev) ++ caps)[k]'hk'):=List.getElem?_eq_getElem hk'
  generalize ((args.toList.map σ.ev) ++ caps)[k]'hk'=d1 at hle hd'
  have hRR:R ι w (rho β σ.T) (rnA p t d) y:=by
   refine hle.r ?_
   by_cases hk:k < args.size
   ·rw [List.getElem?_append_left (by simpa using hk),List.getElem?_map] at hd'
    rw [Array.getElem?_append_left (by simpa using hk)] at hy
    simp [hk] at hd' hy
    rw [← hd']; subst hy
    exact hev _
   ·rw [List.getElem?_append_right (by simpa using Nat.le_of_not_lt hk)] at hd'
    rw [Array.getElem?_append_right (by simpa using Nat.le_of_not_lt hk)] at hy
    simp at hd' hy
    exact hg _ _ _ hd' hy
  have hdo:okA p d=true:=by rw [List.all_eq_true] at hdk; exact hdk d (List.mem_of_getElem? hd)
  cases d with
  | bref u off =>
   cases Nat.eq_of_beq_eq_true hdo
   simp only [rnA,Nat.beq_refl] at hRR
   have hrho:=hRR.ref_inv rfl
   refine .ref rfl (hRR.ref_one rfl) ?_
   simp only [rho,hb] at hrho
   show rho β0 T1 _ _
   simp only [rho,gp]
   exact hrho
  | _ => exact .pu (hRR.flat hdo)
 ·rintro e' w' ⟨v,ι',β',rfl,hi',hres⟩
  let T2:List (Nat × Ob):=(t,.box e cells') :: σ.T
  have G0:getT T2 t=.box e cells':=getT_cons_same _ _ _
  have Go:∀ u,u ≠ t→getT T2 u=getT σ.T u:=fun u a => getT_cons_other a
  have hobp:=hi'.obj p
  rw [getT_cons_same] at hobp
  obtain⟨b2,c2,ty2,e1,e2,e3,e4,e5,e6,_,e8⟩:=hobp
  obtain⟨rfl,hat2⟩:=Ex.pinAt_out e8 hat
  have hcellι:∀ b' o',ι b' o'→w'.cell? ⟨b',o',none⟩=w.cell? ⟨b',o',none⟩:=fun b' o' h => World.cell?_of_block (w:=w) (hi'.kept b' (hi.lt b' o' h) (fun hW => hex he o' ((hWof b' hW) ▸ h)))
  have hρ:∀ d y,rho β σ.T d y→rho β T2 d y:=by
   intro d y h
   cases d with
   | bref u off =>
    by_cases hu:u=t
    ·subst hu; simp only [rho,hb] at h; simp only [rho,G0]; exact h
    ·simp only [rho,Go u hu]; exact h
   | sref u =>
    by_cases hu:u=t
    ·subst hu; simp only [rho,hb] at h
    ·simp only [rho,Go u hu]; exact h
   | eref u i off =>
    by_cases hu:u=t
    ·subst hu; simp only [rho,hb] at h; simp only [rho,G0]; exact h
    ·simp only [rho,Go u hu]; exact h
   | mref u =>
    by_cases hu:u=t
    ·subst hu; simp only [rho,hb] at h
    ·simp only [rho,Go u hu]; exact h
   | _ => exact h
  have up:∀ d y,R ι w (rho β σ.T) d y→R ι' w' (rho β T2) d y:=fun d y h => h.mono hi'.old hcellι hρ
  have hi2:Inv cx ι' β T2 w':=by
   refine hi.multi (fun u => u=t) (Wof β0 T1) (fun b' hb' =>⟨t,rfl,by rw [hb]; exact fun h => (by cases h),by rw [hWof b' hb',hβ]; rfl⟩) hi'.os hi'.tape hi'.output hi'.size (fun k' hk' hW' => hi'.kept k' hk' hW') hi'.old (fun b' o' h => ?_) hcellι
    (fun u hu => rfl) (fun u hu => .inr (Go u hu)) (fun u e2 cs hu hg2 _ d hd y hy => up d y hy) (fun u hu => ?_) (fun u b' hu hb' => ?_) (fun u v b' hu hv huv hb1 hb2 => absurd (hu.trans hv.symm) huv)
   ·rcases hi'.new b' o' h with h | h | h
    ·exact .inl h
    ·exact .inr (.inl ⟨h,hi'.lt b' o' ‹_›⟩)
    ·exact .inr (.inr h)
   ·subst hu
    rw [G0]
    exact⟨b2,c2,ty2,hβ,e2,e3,e4,fun k' d y hd hy => .pu ((e5 k' d y hd hy).flat1 (by rw [List.all_eq_true] at hc2; exact hc2 d (List.mem_of_getElem? hd))),fun _ => e6 (Ex.pinAt_own _ _),fun h => (by rw [he] at h; cases h),hat2⟩
   ·subst hu
    rw [hβ] at hb'; cases hb'
    exact .inr (.inr hWb)
  exact hk _ _ (Sim.put1 (T:=T2) hi2 (fun s => up _ _ (hr s)) hsz hdf (dstB_lt hn) (.pu (hres.flat hrf)))
end
section
variable {P:Program} {n:Nat} {all:Array Oper} {o:Oper} {fr:List (Nat × D)} {rd:List (Nat × Ob)}
end
def D.look1 (T:List (Nat × Ob)):D→D
 | .sref t => match getT T t with | .rows _ _ sz rs => .list sz rs | _ => .junk
 | .v x => .v x
 | .list sz rs => .list sz rs
 | .fp c o => .fp c o
 | _ => .junk
def D.look1a (T:List (Nat × Ob)):D→D
 | .sref t => match getT T t with | .rows _ _ sz rs => .list sz rs | _ => .junk
 | d => d
def D.look2 (T:List (Nat × Ob)):D→D
 | .sref t => match getT T t with | .rows _ _ sz rs => .list sz rs | _ => .junk
 | .bref t off => match getT T t with | .box _ cells => .fp (cells.map (D.look1 T)) off | _ => .junk
 | .agg cells => .agg (cells.map (D.look1a T))
 | d => d
section
variable {P:Program} {n:Nat} {o:Oper} {σ:St}
theorem look2_RG {cx:Cx} {ι ι1:Nat→Nat→Prop} {β:Nat→Value} {T:List (Nat × Ob)} {w:World} {ρ':D→Value→Prop} (hi:Inv cx ι β T w) (hsub:∀ b o,ι b o→ι1 b o) (hin:∀ t b,getT T t ≠ .none→blockOf (β t)=some b→b < w.heap.size→∀ o,ι1 b o)
  (hρ:∀ d x,rho β T d x→ρ' d x) {d:D} {y:Value} (h:R ι w (rho β T) d y):R ι1 w ρ' (d.look2 T) y:=by
 have hs:∀ t y,R ι w (rho β T) (.sref t) y→Pu ι1 w (match getT T t with | .rows _ _ sz rs => .list sz rs | _ => .junk) y:=by
  intro t y h
  have hrho:=h.ref_inv rfl
  simp only [rho] at hrho
  split at hrho
  ·rename_i e ety sz rs hb
   subst hrho
   simp only [hb]
   obtain⟨xs,hown,hrs,hx1,hxR,_⟩:=rows_at (σ:=⟨[],T⟩) hi hb
   rcases hown.2 with ⟨h,h0⟩ |⟨gb,cap,cur,h,_,hgb,hnc,_⟩
   ·rw [h]
    have:rs=[]:=List.eq_nil_of_length_eq_zero h0
    subst this
    exact .listNil _ none 0 (fun _ => rfl)
   ·rw [h]
    refine .list sz rs gb 0 cap (fun k => (xs[k]?).getD undef) hnc hrs (fun k hk => ?_) (fun k d hd => ?_)
    ·have hk':xs[k]? =some (xs[k]'(by rw [hown.1]; exact hk)):=List.getElem?_eq_getElem _
     have hc:=hown.cells (g:=gb) (by rw [h]; rfl) _ _ hk'
     rw [Addr.add_lit] at hc
     exact⟨by rw [hc,hk']; rfl,by rw [hk']; exact hx1 _ (List.mem_of_getElem? hk'),hin t gb (by rw [hb]; exact fun h => by cases h) (by rw [h]; rfl) (Array.getElem?_eq_some_iff.1 hgb).1 _⟩
    ·have hk:k < xs.length:=by rw [hown.1,← flatten_len hrs]; exact (List.getElem?_eq_some_iff.1 hd).1
     have hk':xs[k]? =some (xs[k]'hk):=List.getElem?_eq_getElem _
     rw [hk']
     exact (hxR _ _ _ hd hk').mono hsub (fun _ _ _ => rfl)
  ·rename_i hb; simp only [hb]; exact .junk _
  ·rename_i hb; simp only [hb]; exact .junk _
  ·rename_i hb; simp only [hb]; exact .junk _
  ·exact hrho.elim
 cases d with
 | sref t => exact .pu (hs t y h)
 | bref t off =>
  simp only [D.look2]
  have hrho:=h.ref_inv rfl
  simp only [rho] at hrho
  split at hrho
  ·rename_i e cells hb
   obtain⟨b0,hβ0,rfl⟩:=hrho
   simp only [hb]
   obtain⟨b,c,ty,hβ,hh,hl,h1,hr,_⟩:=box_at (σ:=⟨[],T⟩) hi hb
   obtain rfl:b0=b:=by rw [hβ0] at hβ; simpa using hβ
   have hf:=Pu.fp (ι:=ι1) (w:=w) (cells.map (D.look1 T)) off b0 0 (fun k => (c[k]?).getD undef) (fun k hk => by
    have hk':c[k]? =some (c[k]'(by simp at hk; omega)):=Array.getElem?_eq_getElem _
    refine⟨?_,by rw [hk']; exact h1 _ _ hk',hin t b0 (by rw [hb]; exact fun h => by cases h) (by rw [hβ]; rfl) (Array.getElem?_eq_some_iff.1 hh).1 _⟩
    simp [World.cell?,hh,hk']) (fun k d hd => by
    rw [List.getElem?_map,Option.map_eq_some_iff] at hd
    obtain⟨d0,h0,rfl⟩:=hd
    have hk:k < cells.length:=(List.getElem?_eq_some_iff.1 h0).1
    have hk':c[k]? =some (c[k]'(by omega)):=Array.getElem?_eq_getElem _
    rw [hk']
    have hc:=hr k d0 _ h0 hk'
    cases d0 with
    | sref t => exact hs t _ hc
    | v x => exact (hc.flat1 rfl).mono hsub (fun _ _ _ => rfl)
    | list sz rs => exact (hc.flat1 rfl).mono hsub (fun _ _ _ => rfl)
    | fp c o => exact (hc.flat1 rfl).mono hsub (fun _ _ _ => rfl)
    | _ => exact .junk _)
   rw [Nat.zero_add] at hf
   exact .pu hf
  ·rename_i hb; simp only [hb]; exact .junk _
  ·exact hrho.elim
 | agg cells =>
  obtain⟨cs,rfl,hl,h1,hg⟩:=h.agg_inv
  refine .agg _ cs (by simp [hl]) h1 (fun k d y hd hy => ?_)
  rw [List.getElem?_map,Option.map_eq_some_iff] at hd
  obtain⟨d0,h0,rfl⟩:=hd
  have hc:=hg k d0 y h0 hy
  cases d0 with
  | sref t => exact .pu (hs t _ hc)
  | _ => exact hc.mono hsub (fun _ _ _ => rfl) hρ
 | _ => exact h.mono hsub (fun _ _ _ => rfl) hρ
theorem look2_R {cx:Cx} {ι:Nat→Nat→Prop} {β:Nat→Value} {T:List (Nat × Ob)} {w:World} (hi:Inv cx ι β T w) {d:D} {y:Value} (h:R ι w (rho β T) d y):R (fun b o => ι b o ∨ b < w.heap.size) w (rho β []) (d.look2 T) y:=
 look2_RG hi (fun _ _ h => .inl h) (fun _ _ _ _ hb _ => .inr hb) (rho_mono fun _ => .inl rfl) h
theorem GOk.callV2 {x:Operand} {args:Array Operand} {ts:Array TypeId} {f:Nat} {caps ds:List D} {r:D} (ho:o.op=.call { callee:=.value x,args:=args,argTypes:=ts }) (hx:σ.ev x=.clo f caps)
  (hc:callable P f=true) (hds:((args.toList.map σ.ev) ++ caps).map (D.look2 σ.T)=ds) (hf:Fn P f ds [] r []) (hr:r.plainB=true):GOk P o σ r:=by
 intro cx ι β a w next Q hi hev hk
 have hxx:=hev x
 rw [hx] at hxx
 obtain⟨vs,hv,hl,hg⟩:=hxx.clo_inv
 have hrun:(execOp a.eval o).run P w=.ok (.enter f (args.map a.eval ++ vs)) w:=by
  simp [execOp,ho,resolve,hv,Deferred.ofValue,invoke,run_callFunc hc]
 unfold Oper.wp
 rw [hrun,Oper.upon_enter]
 subst hds
 let ι1:Nat→Nat→Prop:=fun b o => ι b o ∨ b < w.heap.size
 have hW:∀ b,¬ Wof β ([]:List (Nat × Ob)) b:=fun b ⟨t,h,_⟩ => h rfl
 have hinv:Inv ⟨w,Wof β [],ι1⟩ ι1 β [] w:=⟨hi.gl0 (fun _ => rfl),rfl,rfl,rfl,Nat.le_refl _,fun _ _ _ => rfl,fun _ _ h => h,fun _ _ h => .inl h,fun b o h => h.elim (hi.lt b o) id,fun _ => trivial,fun _ _ _ => .inl rfl,fun _ _ _ _ _ _ => .inl rfl⟩
 refine (hf w ι1 β _ hinv (by simp [hl]) (fun k d y hd hy => ?_)).mono ?_
 ·rw [List.getElem?_map,Option.map_eq_some_iff] at hd
  obtain⟨d0,hd,rfl⟩:=hd
  by_cases hk:k < args.size
  ·rw [List.getElem?_append_left (by simpa using hk),List.getElem?_map] at hd
   rw [Array.getElem?_append_left (by simpa using hk)] at hy
   simp [hk] at hd hy
   subst hd; subst hy
   exact look2_R hi (hev _)
  ·rw [List.getElem?_append_right (by simpa using Nat.le_of_not_lt hk)] at hd
   rw [Array.getElem?_append_right (by simpa using Nat.le_of_not_lt hk)] at hy
   simp at hd hy
   exact look2_R hi (hg _ _ _ hd hy)
 ·rintro e w' ⟨v,ι',β',rfl,hi',hres⟩
  have hi2:Inv cx ι β σ.T w':=hi.grow hi'.os hi'.tape hi'.output hi'.size (fun k hk => hi'.kept k hk (hW k)) (fun _ _ h => h) (fun _ _ h => .inl h)
  exact hk v w' ι hi2 (fun _ _ h => h) (fun b o hb => World.cell?_of_block (w:=w) (hi'.kept b (hi.lt b o hb) (hW b))) (plainB_R hres hr)
end
end Go.Proofs.Vx
