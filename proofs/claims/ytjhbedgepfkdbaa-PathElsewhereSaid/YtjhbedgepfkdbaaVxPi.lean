import Derived.Test.YtjhbedgepfkdbaaVxCg
namespace Go.Proofs.Vx
open Go Go.RowKit
set_option linter.unusedSectionVars false
variable [Glo]
def toV (s:Value):D→D
 | .sref _ => .v s
 | _ => .junk
theorem sub1_clean (s:Value) (t:Nat) (d:D):(d.sub1 t (toV s)).names1 t=false:=by
 cases d with
 | bref u off => simp only [D.sub1]; cases h:Nat.beq u t with | true => rfl | false => exact h
 | sref u => simp only [D.sub1]; cases h:Nat.beq u t with | true => rfl | false => exact h
 | eref u i off => simp only [D.sub1]; cases h:Nat.beq u t with | true => rfl | false => exact h
 | mref u => simp only [D.sub1]; cases h:Nat.beq u t with | true => rfl | false => exact h
 | _ => rfl
theorem any_map_false {α:Type} {p:α→Bool} {f:α→α} (h:∀ x,p (f x)=false):∀ l:List α,(l.map f).any p=false
 | [] => rfl
 | x :: r => by simp [h x,any_map_false h r]
theorem sub2_clean (s:Value) (t:Nat) (d:D):(d.sub2 t (toV s)).names2 t=false:=by
 cases d with
 | agg cells => exact any_map_false (sub1_clean s t) cells
 | clo f caps => exact any_map_false (sub1_clean s t) caps
 | tup ds => rfl
 | junk => rfl
 | v x => rfl
 | list sz r => rfl
 | clist sz r => rfl
 | wlist sz r q => rfl
 | fp c o => rfl
 | bref u off => simp only [D.sub2,D.sub1]; cases h:Nat.beq u t with | true => rfl | false => exact h
 | sref u => simp only [D.sub2,D.sub1]; cases h:Nat.beq u t with | true => rfl | false => exact h
 | eref u i off => simp only [D.sub2,D.sub1]; cases h:Nat.beq u t with | true => rfl | false => exact h
 | mref u => simp only [D.sub2,D.sub1]; cases h:Nat.beq u t with | true => rfl | false => exact h
theorem sub_clean (s:Value) (t:Nat) (d:D):(d.sub t (toV s)).names t=false:=by
 cases d with
 | tup ds => exact any_map_false (sub2_clean s t) ds
 | agg cells => exact sub2_clean s t (.agg cells)
 | clo f caps => exact sub2_clean s t (.clo f caps)
 | junk => rfl
 | v x => rfl
 | list sz r => rfl
 | clist sz r => rfl
 | wlist sz r q => rfl
 | fp c o => rfl
 | bref u off => simp only [D.sub,D.sub2,D.sub1]; cases h:Nat.beq u t with | true => rfl | false => exact h
 | sref u => simp only [D.sub,D.sub2,D.sub1]; cases h:Nat.beq u t with | true => rfl | false => exact h
 | eref u i off => simp only [D.sub,D.sub2,D.sub1]; cases h:Nat.beq u t with | true => rfl | false => exact h
 | mref u => simp only [D.sub,D.sub2,D.sub1]; cases h:Nat.beq u t with | true => rfl | false => exact h
theorem rho_top {β:Nat→Value} {T:List (Nat × Ob)} {t:Nat} {ob:Ob} {d:D} {x:Value} (hd:d.names1 t=false) (h:rho β T d x):rho β ((t,ob) :: T) d x:=by
 cases d with
 | bref u off => have hu:=Nat.ne_of_beq_eq_false hd; simp only [rho] at h ⊢; rw [getT_cons_other hu]; exact h
 | sref u => have hu:=Nat.ne_of_beq_eq_false hd; simp only [rho] at h ⊢; rw [getT_cons_other hu]; exact h
 | eref u i off => have hu:=Nat.ne_of_beq_eq_false hd; simp only [rho] at h ⊢; rw [getT_cons_other hu]; exact h
 | mref u => have hu:=Nat.ne_of_beq_eq_false hd; simp only [rho] at h ⊢; rw [getT_cons_other hu]; exact h
 | _ => exact h
theorem Sim.pinup {cx:Cx} {n t:Nat} {σ:St} {a:Act} {w:World} {ety sz:Nat} {rows:List (List D)} (hs:Sim cx n σ a w) (hb:getT σ.T t=.rows true ety sz rows) :
  ∃ s,Sim cx n ⟨subFr t (toV s) σ.fr,(t,.pin s ety sz rows) :: subT t (toV s) σ.T⟩ a w:=by
 obtain⟨⟨ι,β,hi,hr⟩,hsz,hdf⟩:=hs
 refine⟨β t,?_⟩
 have ht:Turns ι w β σ.T t (toV (β t)) ι:=⟨fun _ _ h => h,fun d x hd hn hx => by
  cases d with
  | sref u =>
   cases Nat.eq_of_beq_eq_true hn
   simp only [rho,hb] at hx
   rw [hx]; exact .v _
  | bref u off => exact .junk _
  | eref u i off => exact .junk _
  | mref u => exact .junk _
  | _ => simp [D.isRef] at hd⟩
 have hi1:=hi.turn ht (b0:=none) (fun b h => by cases h) (fun b o h => .inl h)
 have hr1:∀ s,R ι w (rho β (subT t (toV (β t)) σ.T)) (get (subFr t (toV (β t)) σ.fr) s) (a.tmps.getD s undef):=fun s => by rw [get_sub]; exact ht.r (hr s)
 let T1:=subT t (toV (β t)) σ.T
 have g1:getT T1 t=.none:=getT_cons_same _ _ _
 have hob:=hi.obj t
 rw [hb] at hob
 have hR:∀ u e cells,u ≠ t→getT T1 u=.box e cells→∀ d ∈ cells,∀ y,R ι w (rho β T1) d y→R ι w (rho β ((t,.pin (β t) ety sz rows) :: T1)) d y:=by
  intro u e cells hu hg d hd y hy
  refine hy.keep1 (t:=t) ?_ (fun _ _ h => h) (fun _ _ _ => rfl) (fun d x h1 h2 => rho_top h1 h2)
  rw [show getT T1 u=_ from getT_sub _ hu] at hg
  cases hg2:getT σ.T u with
  | box e2 c2 =>
   rw [hg2] at hg
   cases hg
   obtain⟨d0,_,rfl⟩:=List.mem_map.1 hd
   exact sub1_clean _ _ _
  | none => rw [hg2] at hg; cases hg
  | rows => rw [hg2] at hg; cases hg
  | map => rw [hg2] at hg; cases hg
  | bytes => rw [hg2] at hg; cases hg
  | pin => rw [hg2] at hg; cases hg
 have hnone:∀ v,getT σ.T v=.none→getT T1 v=.none:=fun v h => by
  by_cases hv:v=t
  ·subst hv; exact g1
  ·rw [show getT T1 v=_ from getT_sub _ hv,h]
 refine⟨⟨ι,β,⟨hi1.gl,hi1.os,hi1.tape,hi1.output,hi1.size,hi1.kept,hi1.old,hi1.new,hi1.lt,fun u => ?_,fun u b hb2 => ?_,fun u v b huv hb1 hb2 => ?_⟩,fun s => ?_⟩,hsz,hdf⟩
 ·by_cases hu:u=t
  ·subst hu
   rw [getT_cons_same]
   exact ObOk.pin_of rfl (ObOk.mono (ρ:=fun _ _ => False) (o:=.rows true ety sz rows) hob (fun _ _ => rfl) (fun _ _ h => h) (fun _ _ _ h => h) (fun _ _ _ => rfl) (fun _ _ h => h.elim))
  ·rw [getT_cons_other hu]
   exact (hi1.obj u).keep (fun _ _ => rfl) (fun _ _ h => h) (fun _ _ _ h => h) (fun _ _ _ => rfl) (fun e cells hc d hd y hy => hR u e cells hu hc d hd y hy)
 ·by_cases hu:u=t
  ·subst hu; exact .inr ((hi.mine u b hb2).resolve_left (by rw [hb]; exact fun h => by cases h))
  ·rw [getT_cons_other hu]; exact hi1.mine u b hb2
 ·by_cases hu:u=t
  ·subst hu
   have hv:v ≠ u:=Ne.symm huv
   rw [getT_cons_other hv]
   rcases hi.apart u v b huv hb1 hb2 with h | h
   ·rw [hb] at h; cases h
   ·exact .inr (hnone v h)
  ·by_cases hv:v=t
   ·subst hv
    rw [getT_cons_other hu]
    rcases hi.apart u v b huv hb1 hb2 with h | h
    ·exact .inl (hnone u h)
    ·rw [hb] at h; cases h
   ·rw [getT_cons_other hu,getT_cons_other hv]; exact hi1.apart u v b huv hb1 hb2
 ·refine (hr1 s).keep (t:=t) ?_ (fun _ _ h => h) (fun _ _ _ => rfl) (fun d x h1 h2 => rho_top h1 h2)
  rw [get_sub]; exact sub_clean _ _ _
section
variable {P:Program} {n:Nat} {ops:Array Oper} {l:List Oper} {σ:St} {c:Code} {Φ:Exit→St→Prop}
theorem Ok.pinup (t:Nat) {ety sz:Nat} {rows:List (List D)} (hb:getT σ.T t=.rows true ety sz rows) (h:∀ s,Ok P n c ⟨subFr t (toV s) σ.fr,(t,.pin s ety sz rows) :: subT t (toV s) σ.T⟩ Φ):Ok P n c σ Φ:=
 fun cx a w Q hs hq => by obtain⟨s,hs'⟩:=hs.pinup hb; exact h s cx a w Q hs' hq
theorem OpsC.pinup {Ψ:St→Prop} (t:Nat) {ety sz:Nat} {rows:List (List D)} (hb:getT σ.T t=.rows true ety sz rows) (h:∀ s,OpsC P n ops l ⟨subFr t (toV s) σ.fr,(t,.pin s ety sz rows) :: subT t (toV s) σ.T⟩ Ψ):OpsC P n ops l σ Ψ:=
 fun cx a w Q hs hq => by obtain⟨s,hs'⟩:=hs.pinup hb; exact h s cx a w Q hs' hq
end
theorem rho_unpin {β:Nat→Value} {T:List (Nat × Ob)} {t:Nat} {s:Value} {ety sz:Nat} {rows:List (List D)} (hb:getT T t=.pin s ety sz rows) {d:D} {x:Value} (h:rho β T d x):rho β ((t,.rows true ety sz rows) :: T) d x:=by
 cases d with
 | bref u off =>
  simp only [rho] at h ⊢
  by_cases hu:u=t
  ·subst hu; rw [hb] at h; exact h.elim
  ·rw [getT_cons_other hu]; exact h
 | sref u =>
  simp only [rho] at h ⊢
  by_cases hu:u=t
  ·subst hu; rw [getT_cons_same]; rw [hb] at h; exact h
  ·rw [getT_cons_other hu]; exact h
 | eref u i off =>
  simp only [rho] at h ⊢
  by_cases hu:u=t
  ·subst hu; rw [hb] at h; exact h.elim
  ·rw [getT_cons_other hu]; exact h
 | mref u =>
  simp only [rho] at h ⊢
  by_cases hu:u=t
  ·subst hu; rw [hb] at h; exact h.elim
  ·rw [getT_cons_other hu]; exact h
 | _ => exact h
theorem SLe.unpin {fr:List (Nat × D)} {T:List (Nat × Ob)} {s:Value} {ety sz:Nat} {rows:List (List D)} (t:Nat) (hb:getT T t=.pin s ety sz rows):SLe ⟨fr,(t,.rows true ety sz rows) :: T⟩ ⟨fr,T⟩:=by
 intro cx n a w ⟨⟨ι,β,hi,hr⟩,hsz,hdf⟩
 have hρ:∀ d x,rho β T d x→rho β ((t,.rows true ety sz rows) :: T) d x:=fun d x h => rho_unpin hb h
 have hg:∀ u,getT ((t,.rows true ety sz rows) :: T) u=.none ↔ getT T u=.none:=fun u => by
  by_cases hu:u=t
  ·subst hu; rw [getT_cons_same,hb]; constructor <;> (intro h; cases h)
  ·rw [getT_cons_other hu]
 refine⟨⟨ι,β,⟨hi.gl,hi.os,hi.tape,hi.output,hi.size,hi.kept,hi.old,hi.new,hi.lt,fun u => ?_,fun u b hb2 => ?_,fun u v b huv hb1 hb2 => ?_⟩,fun s => (hr s).mono (fun _ _ h => h) (fun _ _ _ => rfl) hρ⟩,hsz,hdf⟩
 ·by_cases hu:u=t
  ·subst hu
   rw [getT_cons_same]
   have:=hi.obj u
   rw [hb] at this
   exact ObOk.mono (ρ:=fun _ _ => False) (o:=.rows true ety sz rows) this.pin_rows.2 (fun _ _ => rfl) (fun _ _ h => h) (fun _ _ _ h => h) (fun _ _ _ => rfl) (fun _ _ h => h.elim)
  ·rw [getT_cons_other hu]; exact (hi.obj u).mono (fun _ _ => rfl) (fun _ _ h => h) (fun _ _ _ h => h) (fun _ _ _ => rfl) hρ
 ·exact (hi.mine u b hb2).imp (hg u).2 id
 ·exact (hi.apart u v b huv hb1 hb2).imp (hg u).2 (hg v).2
theorem pin_value {cx ι β T w} (hi:Inv cx ι β T w) {t:Nat} {s:Value} {ety sz:Nat} {rows:List (List D)} (hb:getT T t=.pin s ety sz rows):β t=s ∧ s.oneCell'=true:=by
 have:=hi.obj t
 rw [hb] at this
 obtain⟨h,xs,hown,_⟩:=this
 refine⟨h,?_⟩
 rw [← h]
 rcases hown.2 with ⟨h2,_⟩ |⟨g,cap,cur,h2,_⟩ <;> rw [h2] <;> rfl
theorem SLe.vref {fr:List (Nat × D)} {T:List (Nat × Ob)} {s:Value} {ety sz:Nat} {rows:List (List D)} {cells:List D} (k i t:Nat) (hk:get fr k=.agg cells) (hi:cells[i]? =some (.v s)) (hb:getT T t=.pin s ety sz rows):SLe ⟨(k,.agg (cells.set i (.sref t))) :: fr,T⟩ ⟨fr,T⟩:=by
 intro cx n a w ⟨⟨ι,β,hinv,hr⟩,hsz,hdf⟩
 refine⟨⟨ι,β,hinv,fun u => ?_⟩,hsz,hdf⟩
 show R ι w (rho β T) (get ((k,.agg (cells.set i (.sref t))) :: fr) u) _
 rw [get_cons]
 split
 ·rename_i hu
  subst hu
  have h:=hr k
  rw [show get fr k=_ from hk] at h
  obtain⟨cs,hx,hl,h1,hg⟩:=h.agg_inv
  rw [hx]
  refine .agg _ cs (by simpa using hl) h1 (fun j d y hd hy => ?_)
  by_cases hj:i=j
  ·subst hj
   rw [List.getElem?_set_self (List.getElem?_eq_some_iff.1 hi).1] at hd
   cases hd
   have:=(hg i _ y hi hy).v_inv
   subst this
   obtain⟨hv,h1'⟩:=pin_value hinv hb
   exact .ref rfl h1' (by simp only [rho,hb]; exact hv.symm)
  ·rw [List.getElem?_set_ne hj] at hd
   exact hg j d y hd hy
 ·exact hr u
theorem SLe.drop {fr:List (Nat × D)} {T:List (Nat × Ob)} (t:Nat):SLe ⟨fr,(t,.none) :: T⟩ ⟨fr,T⟩:=
 Le.s ⟨fun _ => .same _,fun u => by
  show ObLe (getT ((t,.none) :: T) u) _
  by_cases hu:u=t
  ·subst hu; rw [getT_cons_same]; exact .none _
  ·rw [getT_cons_other hu]; exact .same _⟩
theorem map_id_of {α:Type} {g:α→α}:∀ {l:List α},(∀ d ∈ l,g d=d)→l.map g=l
 | [],_ => rfl
 | d :: r,h => by rw [List.map_cons,h d List.mem_cons_self,map_id_of fun e he => h e (List.mem_cons_of_mem _ he)]
theorem rn0_pure (μ:List (Nat × Nat)) {d:D} (h:d.pure=true):rn0 μ d=d:=by
 cases d <;> first | rfl | simp [D.pure] at h
theorem rn1_pure (μ:List (Nat × Nat)) {d:D} (h:d.pure=true):rn1 μ d=d:=by
 cases d with
 | agg cells => simp only [rn1]; rw [map_id_of fun e he => rn0_pure μ (pureL_mem (by simpa only [D.pure] using h) he)]
 | clo f caps => simp only [rn1]; rw [map_id_of fun e he => rn0_pure μ (pureL_mem (by simpa only [D.pure] using h) he)]
 | _ => exact rn0_pure μ h
theorem rn2_pure (μ:List (Nat × Nat)) {d:D} (h:d.pure=true):rn2 μ d=d:=by
 cases d with
 | tup ds => simp only [rn2]; rw [map_id_of fun e he => rn1_pure μ (pureL_mem (by simpa only [D.pure] using h) he)]
 | _ => exact rn1_pure μ h
theorem ok0_pure (μ:List (Nat × Nat)) {d:D} (h:d.pure=true):ok0 μ d=true:=by
 cases d <;> first | exact h | simp [D.pure] at h
theorem ok1_pure (μ:List (Nat × Nat)) {d:D} (h:d.pure=true):ok1 μ d=true:=by
 cases d with
 | agg cells => simp only [ok1,List.all_eq_true]; exact fun e he => ok0_pure μ (pureL_mem (by simpa only [D.pure] using h) he)
 | clo f caps => simp only [ok1,List.all_eq_true]; exact fun e he => ok0_pure μ (pureL_mem (by simpa only [D.pure] using h) he)
 | _ => exact ok0_pure μ h
theorem ok2_pure (μ:List (Nat × Nat)) {d:D} (h:d.pure=true):ok2 μ d=true:=by
 cases d with
 | tup ds => simp only [ok2,List.all_eq_true]; exact fun e he => ok1_pure μ (pureL_mem (by simpa only [D.pure] using h) he)
 | _ => exact ok1_pure μ h
section
variable {P:Program} {n:Nat} {o:Oper} {σ:St}
theorem map_lookF (μ:List (Nat × Nat)) (T:List (Nat × Ob)):∀ l:List D,l.map (lookG μ false T)=l
 | [] => rfl
 | d :: r => by rw [List.map_cons,map_lookF μ T r]; rfl
theorem OpOk.callEat {x:Operand} {args:Array Operand} {ts:Array TypeId} {f ety sz:Nat} {caps ds:List D} {s:Value} {rows:List (List D)} {r:D} (t:Nat)
  (ho:o.op=.call { callee:=.value x,args:=args,argTypes:=ts }) (hx:σ.ev x=.clo f caps) (hc:callable P f=true) (hf:Fn P f ds [(0,.pin s ety sz rows)] r []) (hb:getT σ.T t=.pin s ety sz rows)
  (hds:leL ds ((args.toList.map σ.ev) ++ caps)) (hp:D.pureL ds=true) (hr:r.pure=true) (hn:dstB n o.dst=true):OpOk P n o σ (St.put ⟨σ.fr,(t,.none) :: σ.T⟩ o.dst r):=by
 have h:=OpOk.callG (σ:=σ) (T1:=[(0,.pin s ety sz rows)]) (T1':=[]) (r:=r) (ds:=ds) [(0,t)] false ho hx hc (fun _ => hf) (by rw [map_lookF,map_id_of fun d hd => rn2_pure _ (pureL_mem hp hd)]; exact hds)
  (by
   simp only [Bool.and_eq_true,List.all_eq_true]
   refine⟨?_,fun d hd => ok2_pure _ (pureL_mem hp hd)⟩
   simp [goG,injN,lkN,lkB,optIs,okOb])
  (by simp [lkN,hb,rnOb]) (by simp [backG,ok2_pure _ hr]) (fun h => by cases h) hn
 have e:postG [(0,t)] [(0,Ob.pin s ety sz rows)] [] r σ o.dst=St.put ⟨σ.fr,(t,.none) :: σ.T⟩ o.dst r:=by
  unfold postG
  rw [rn2_pure _ hr]
  rfl
 rw [e] at h
 exact h
theorem It2.callEat {all:Array Oper} {fr:List (Nat × D)} {rd:List (Nat × Ob)} {x:Operand} {args:Array Operand} {ts:Array TypeId} {f ety sz:Nat} {caps ds:List D} {s:Value} {rows:List (List D)} {r:D} (t:Nat)
  (hg:o.guard=none) (ho:o.op=.call { callee:=.value x,args:=args,argTypes:=ts }) (hx:St.ev ⟨fr,[]⟩ x=.clo f caps) (hc:callable P f=true) (hf:Fn P f ds [(0,.pin s ety sz rows)] r [])
  (hb:getT rd t=.pin s ety sz rows) (hrd:rd.any (fun p => Nat.beq p.1 t)=true) (hds:(args.toList.map (St.ev ⟨fr,[]⟩)) ++ caps=ds) (hp:D.pureL ds=true) (hr:r.pure=true) (hn:dstB n o.dst=true) :
  ItOk P n all o ⟨true,fr,rd,r,[(t,.none)],false,[]⟩:=
 ⟨hn,by simp only [gd2,hg],fun _ σ h1 h2 _ => OpOk.callEat (σ:=σ) t ho ((hx ▸ ev_le (T:=[]) h1 x:DLe (.clo f caps) (σ.ev x)).clo_eq) hc hf ((rd_get h2 hrd).trans hb) (by rw [← hds]; exact leL_map h1 caps args.toList) hp hr hn,fun h => by cases h⟩
end
end Go.Proofs.Vx
