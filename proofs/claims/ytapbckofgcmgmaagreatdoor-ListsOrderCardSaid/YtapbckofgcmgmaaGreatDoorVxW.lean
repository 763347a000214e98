import Derived.Test.YtapbckofgcmgmaaGreatDoorVxV
namespace Go.Proofs.Vx
open Go Go.RowKit
set_option linter.unusedSectionVars false
variable [Glo]
theorem rho_move {β:Nat→Value} {T:List (Nat × Ob)} {t u:Nat} (htu:t ≠ u) {y:Value} {ob:Ob} {d:D} {x:Value} (hd:d.names1 u=false) (h:rho β T d x):rho (upd β u y) ((u,ob) :: (t,.none) :: T) d x:=by
 have hTt:getT ((u,ob) :: (t,Ob.none) :: T) t=.none:=by rw [getT_cons_other htu,getT_cons_same]
 have same:∀ v,Nat.beq v u=false→v ≠ t→getT ((u,ob) :: (t,Ob.none) :: T) v=getT T v ∧ upd β u y v=β v:=fun v h1 h2 => by
  have:=Nat.ne_of_beq_eq_false h1
  rw [getT_cons_other this,getT_cons_other h2,upd_other this]; exact⟨rfl,rfl⟩
 cases d with
 | bref v off =>
  simp only [rho] at h ⊢
  by_cases hv:v=t
  ·subst hv; rw [hTt]; trivial
  ·obtain⟨e1,e2⟩:=same v hd hv; rw [e1,e2]; exact h
 | sref v =>
  simp only [rho] at h ⊢
  by_cases hv:v=t
  ·subst hv; rw [hTt]; trivial
  ·obtain⟨e1,e2⟩:=same v hd hv; rw [e1,e2]; exact h
 | eref v i off =>
  simp only [rho] at h ⊢
  by_cases hv:v=t
  ·subst hv; rw [hTt]; trivial
  ·obtain⟨e1,e2⟩:=same v hd hv; rw [e1,e2]; exact h
 | mref v =>
  simp only [rho] at h ⊢
  by_cases hv:v=t
  ·subst hv; rw [hTt]; trivial
  ·obtain⟨e1,e2⟩:=same v hd hv; rw [e1,e2]; exact h
 | _ => exact h
theorem Inv.move {cx ι β T w} (h:Inv cx ι β T w) {w' ι' tb} (t u:Nat) (htu:t ≠ u) (hg:Goes ι w ι' w' tb) {x:Value} {ob:Ob}
  (htb:∀ k,tb=some k→blockOf (β t)=some k ∧ getT T t ≠ .none)
  (hob:ObOk ι' w' (rho (upd β u x) ((u,ob) :: (t,.none) :: killT u T)) x ob)
  (hmine:∀ b,blockOf x=some b→w.heap.size ≤ b ∨ (blockOf (β t)=some b ∧ getT T t ≠ .none)):Inv cx ι' (upd β u x) ((u,ob) :: (t,.none) :: killT u T) w':=by
 have alive:getT T t ≠ .none→getT (killT u T) t ≠ .none:=fun hn he => by
  rw [getT_kill] at he
  split at he
  ·cases he
  ·exact hn he
 have hT:∀ v,v ≠ u→v ≠ t→getT ((u,ob) :: (t,.none) :: killT u T) v=getT (killT u T) v:=fun v h1 h2 => by rw [getT_cons_other h1,getT_cons_other h2]
 have hTt:getT ((u,ob) :: (t,Ob.none) :: killT u T) t=.none:=by rw [getT_cons_other htu,getT_cons_same]
 refine (h.le (Le.kill u ⟨[],T⟩).2).multi (fun v => v=t ∨ v=u) (fun b => blockOf (β t)=some b ∧ getT T t ≠ .none) (fun b hb =>⟨t,.inl rfl,alive hb.2,hb.1⟩) hg.os hg.tape hg.output hg.size
  (fun k hk hW => hg.kept k hk (fun e => hW (htb k e.symm))) hg.sub (fun b o hb => (hg.new b o hb).imp id (.imp id (fun e => htb b e.symm))) hg.cell (fun v hv => upd_other (fun e => hv (.inr e))) (fun v hv => .inr (hT v (fun e => hv (.inr e)) (fun e => hv (.inl e)))) ?_ ?_ ?_ ?_
 ·intro v e cells hv hc _ d hd y hy
  exact hy.keep1 (killT_clean u hc d hd) hg.sub hg.cell (fun d x hd h => rho_move htu hd h)
 ·rintro v (rfl | rfl)
  ·rw [hTt]; trivial
  ·rw [upd_same,getT_cons_same]; exact hob
 ·rintro v b (rfl | rfl) hb
  ·exact .inl hTt
  ·rw [upd_same] at hb; exact .inr (hmine b hb)
 ·rintro v v' b (rfl | rfl) (rfl | rfl) hvv hb hb'
  ·exact absurd rfl hvv
  ·exact .inl hTt
  ·exact .inr hTt
  ·exact absurd rfl hvv
theorem fr_move {ι:Nat→Nat→Prop} {w:World} {β:Nat→Value} {T:List (Nat × Ob)} {fr:List (Nat × D)} {w' ι' tb} (t u:Nat) (htu:t ≠ u) (hg:Goes ι w ι' w' tb) (x:Value) (ob:Ob) (s:Nat) (y:Value)
  (h:R ι w (rho β T) (get fr s) y):R ι' w' (rho (upd β u x) ((u,ob) :: (t,.none) :: killT u T)) (get (kill u fr) s) y:=by
 have h1:R ι w (rho β (killT u T)) (get (kill u fr) s) y:=((Le.kill u ⟨fr,T⟩).1 s).r (h.mono (fun _ _ h => h) (fun _ _ _ => rfl) (rho_le (Le.kill u ⟨fr,T⟩).2))
 exact h1.keep (kill_clean u fr s) hg.sub hg.cell (fun _ _ hd h => rho_move htu hd h)
section
variable {P:Program} {n:Nat} {o:Oper} {σ:St}
theorem OpOk.appendN {s x:Operand} {ty ety sz by_ t:Nat} {rs rows:List (List D)} (u:Nat) (ho:o.op=.call { callee:=.builtin .append,args:=#[s,x],argTypes:=#[ty,ty] }) (ht:P.underlying ty=some (.slice ety)) (he:Elt P ety sz by_)
  (hs:DLe (.sref t) (σ.ev s)) (hb:getT σ.T t=.rows true ety sz rs) (hx:DLe (.list sz rows) (σ.ev x)) (hl:(rs.length + rows.length) * by_ ≤ 140737488355328) (htu:Nat.beq t u=false) (hn:dstB n o.dst=true) :
  OpOk P n o σ (St.put ⟨kill u σ.fr,(u,.rows true ety sz (rs ++ rows)) :: (t,.none) :: killT u σ.T⟩ o.dst (.sref u)):=by
 have htu:=Nat.ne_of_beq_eq_false htu
 refine .step hn fun cx ι β a w hi hr => ?_
 have hss:R ι w (rho β σ.T) (.sref t) (a.eval s):=hs.r (hr s)
 have hxx:R ι w (rho β σ.T) (.list sz rows) (a.eval x):=hx.r (hr x)
 have hrho:=hss.ref_inv rfl
 simp only [rho,hb] at hrho
 obtain⟨v,w',ι',y,tb,h1,h2,h3,h4,h5,h6⟩:=append_ex (P:=P) (σ:=⟨[(0,.sref t),(1,.list sz rows)],σ.T⟩) (o:={ o with op:=.call { callee:=.builtin .append,args:=#[.tmp 0,.tmp 1],argTypes:=#[ty,ty] } }) (s:=.tmp 0) (x:=.tmp 1) (rows:=rows) rfl ht he rfl hb hl
  (list_ex rfl) (a:=⟨#[a.eval s,a.eval x],[]⟩) hi (fun q => by
   cases q with
   | tmp q =>
    match q with
    | 0 => exact hss
    | 1 => exact hxx
    | q + 2 => exact .junk _
   | const v => exact .v v
   | func f => exact .pu (.clo f [] #[] rfl (fun k d x h => by simp at h))
   | global g => exact .junk _)
 have hvy:v=y:=by
  have:=h6.ref_inv rfl
  simp only [rho,getT_cons_same,upd_same] at this
  exact this
 have hone:=h6.ref_one rfl
 subst hvy
 refine⟨v,w',ι',upd β u v,?_,hi.move t u htu h2 h3 ?_ h5,fun s y hy => fr_move t u htu h2 v _ s y hy,.ref rfl hone ?_⟩
 ·have e0:Act.eval ⟨#[a.eval s,a.eval x],[]⟩ (.tmp 0)=a.eval s:=rfl
  have e1:Act.eval ⟨#[a.eval s,a.eval x],[]⟩ (.tmp 1)=a.eval x:=rfl
  simp [execOp,resolve,e0,e1] at h1
  simp [execOp,ho,resolve]
  exact h1
 ·exact ObOk.mono (ρ:=fun _ _ => False) (o:=.rows true ety sz (rs ++ rows)) h4 (fun _ _ => rfl) (fun _ _ h => h) (fun _ _ _ h => h) (fun _ _ _ => rfl) (fun _ _ h => h.elim)
 ·simp only [rho,getT_cons_same,upd_same]
end
section
variable {P:Program} {n:Nat} {all:Array Oper} {o:Oper} {fr:List (Nat × D)} {rd:List (Nat × Ob)}
theorem It2.appendL {α:Type} {s x:Operand} {ty ety sz by_ t:Nat} {e:α→List D} {xs ys:List α} (u:Nat) (hg:o.guard=none) (ho:o.op=.call { callee:=.builtin .append,args:=#[s,x],argTypes:=#[ty,ty] }) (ht:P.underlying ty=some (.slice ety)) (he:Elt P ety sz by_)
  (hs:St.ev ⟨fr,[]⟩ s=.sref t) (hb:getT rd t=.rows true ety sz (xs.map e)) (hrd:rd.any (fun p => Nat.beq p.1 t)=true) (hx:St.ev ⟨fr,[]⟩ x=L sz e ys) (hl:(xs.length + ys.length) * by_ ≤ 140737488355328) (htu:Nat.beq t u=false) (hn:dstB n o.dst=true) :
  ItOk P n all o ⟨true,fr,rd,.sref u,[(u,.rows true ety sz ((xs ++ ys).map e)),(t,.none)],true,[]⟩:=
 ⟨hn,by simp only [gd2,hg],fun _ σ h1 h2 _ => by
  have hb':getT σ.T t=.rows true ety sz (xs.map e):=by
   rw [← hb]; exact rd_get h2 hrd
  have hx':DLe (.list sz (ys.map e)) (σ.ev x):=by have h:=ev_le (T:=[]) h1 x; rw [hx] at h; exact h
  have:=OpOk.appendN (P:=P) (n:=n) (σ:=σ) u ho ht he (hs ▸ ev_le (T:=[]) h1 s) hb' hx' (by simpa using hl) htu hn
  rwa [← List.map_append] at this,fun h => by cases h⟩
end
def toName (u:Nat):D→D
 | .bref _ off => .bref u off
 | .sref _ => .sref u
 | .eref _ i off => .eref u i off
 | .mref _ => .mref u
 | _ => .junk
theorem sub1_R {ι:Nat→Nat→Prop} {w:World} {ρ ρ':D→Value→Prop} {t u:Nat} (hsame:∀ d x,d.names1 u=false→d.names1 t=false→ρ d x→ρ' d x) (hnew:∀ d x,d.isRef=true→d.names1 t=true→ρ d x→ρ' (toName u d) x)
  {d:D} {x:Value} (hd:d.names1 u=false) (h:R ι w ρ d x):R ι w ρ' (d.sub1 t (toName u)) x:=by
 have go:∀ {d:D},d.isRef=true→d.names1 u=false→R ι w ρ d x→(d.names1 t=true→d.sub1 t (toName u)=toName u d)→(d.names1 t=false→d.sub1 t (toName u)=d)→R ι w ρ' (d.sub1 t (toName u)) x:=by
  intro d hd hu h h1 h2
  cases hn:d.names1 t with
  | true =>
   rw [h1 hn]
   refine .ref ?_ (h.ref_one hd) (hnew d x hd hn (h.ref_inv hd))
   cases d <;> first | rfl | simp [D.isRef] at hd
  | false => rw [h2 hn]; exact .ref hd (h.ref_one hd) (hsame d x hu hn (h.ref_inv hd))
 cases d with
 | bref u off => exact go rfl hd h (fun h => by simp only [D.names1] at h; simp [D.sub1,h]) (fun h => by simp only [D.names1] at h; simp [D.sub1,h])
 | sref u => exact go rfl hd h (fun h => by simp only [D.names1] at h; simp [D.sub1,h]) (fun h => by simp only [D.names1] at h; simp [D.sub1,h])
 | eref u i off => exact go rfl hd h (fun h => by simp only [D.names1] at h; simp [D.sub1,h]) (fun h => by simp only [D.names1] at h; simp [D.sub1,h])
 | mref u => exact go rfl hd h (fun h => by simp only [D.names1] at h; simp [D.sub1,h]) (fun h => by simp only [D.names1] at h; simp [D.sub1,h])
 | junk => exact .junk _
 | v y => rw [h.v_inv]; exact .v _
 | list sz r => exact .pu h.list_pu
 | fp c o => exact .pu (h.flat1 rfl)
 | clist c o => exact .pu (h.flat1 rfl)
 | wlist c o q => exact .pu (h.flat1 rfl)
 | agg c => exact .junk _
 | tup c => exact .junk _
 | clo f c => exact .junk _
theorem sub2_R {ι:Nat→Nat→Prop} {w:World} {ρ ρ':D→Value→Prop} {t u:Nat} (hsame:∀ d x,d.names1 u=false→d.names1 t=false→ρ d x→ρ' d x) (hnew:∀ d x,d.isRef=true→d.names1 t=true→ρ d x→ρ' (toName u d) x)
  {d:D} {x:Value} (hd:d.names2 u=false) (h:R ι w ρ d x):R ι w ρ' (d.sub2 t (toName u)) x:=by
 cases d with
 | agg cells =>
  obtain⟨cs,rfl,hl,h1,hg⟩:=h.agg_inv
  refine .agg _ cs (by simp [hl]) h1 (fun k d y hd' hy => ?_)
  rw [List.getElem?_map,Option.map_eq_some_iff] at hd'
  obtain⟨d0,h0,rfl⟩:=hd'
  simp only [D.names2,List.any_eq_false] at hd
  exact sub1_R hsame hnew (by simpa using hd d0 (List.mem_of_getElem? h0)) (hg k d0 y h0 hy)
 | clo f caps =>
  obtain⟨vs,rfl,hl,hg⟩:=h.clo_inv
  refine .clo f _ vs (by simp [hl]) (fun k d y hd' hy => ?_)
  rw [List.getElem?_map,Option.map_eq_some_iff] at hd'
  obtain⟨d0,h0,rfl⟩:=hd'
  simp only [D.names2,List.any_eq_false] at hd
  exact sub1_R hsame hnew (by simpa using hd d0 (List.mem_of_getElem? h0)) (hg k d0 y h0 hy)
 | _ => refine sub1_R hsame hnew ?_ h; exact hd
theorem sub_R {ι:Nat→Nat→Prop} {w:World} {ρ ρ':D→Value→Prop} {t u:Nat} (hsame:∀ d x,d.names1 u=false→d.names1 t=false→ρ d x→ρ' d x) (hnew:∀ d x,d.isRef=true→d.names1 t=true→ρ d x→ρ' (toName u d) x)
  {d:D} {x:Value} (hd:d.names u=false) (h:R ι w ρ d x):R ι w ρ' (d.sub t (toName u)) x:=by
 cases d with
 | tup ds =>
  obtain⟨vs,rfl,hl,hg⟩:=h.tup_inv
  refine .tup _ vs (by simp [hl]) (fun k d y hd' hy => ?_)
  rw [List.getElem?_map,Option.map_eq_some_iff] at hd'
  obtain⟨d0,h0,rfl⟩:=hd'
  simp only [D.names,List.any_eq_false] at hd
  exact sub2_R hsame hnew (by simpa using hd d0 (List.mem_of_getElem? h0)) (hg k d0 y h0 hy)
 | _ => refine sub2_R hsame hnew ?_ h; exact hd
theorem SLe.ren {fr:List (Nat × D)} {T:List (Nat × Ob)} {ety sz:Nat} {rs:List (List D)} (t u:Nat) (hb:getT T t=.rows true ety sz rs) (htu:Nat.beq t u=false) :
  SLe ⟨subFr t (toName u) (kill u fr),(u,.rows true ety sz rs) :: subT t (toName u) (killT u T)⟩ ⟨fr,T⟩:=by
 have htu:=Nat.ne_of_beq_eq_false htu
 intro cx n a w hs
 have hs0:=hs.le (Le.kill u ⟨fr,T⟩)
 obtain⟨⟨ι,β,hi,hr⟩,hsz,hdf⟩:=hs0
 let T0:=killT u T
 let T2:List (Nat × Ob):=(u,.rows true ety sz rs) :: subT t (toName u) T0
 have hb0:getT T0 t=.rows true ety sz rs:=by simp only [T0]; rw [getT_kill,hb]
 have gu:getT T2 u=.rows true ety sz rs:=getT_cons_same _ _ _
 have gt:getT T2 t=.none:=by
  show getT ((u,_) :: subT t (toName u) T0) t=_
  rw [getT_cons_other htu,subT,getT_cons_same]
 have go:∀ v,v ≠ u→v ≠ t→getT T2 v=match getT T0 v with | .box e cells => .box e (cells.map (D.sub1 t (toName u))) | o => o:=fun v h1 h2 => by
  show getT ((u,_) :: subT t (toName u) T0) v=_
  rw [getT_cons_other h1,getT_sub _ h2]; cases getT T0 v <;> rfl
 let β2:=upd β u (β t)
 have bu:β2 u=β t:=upd_same _ _ _
 have bo:∀ v,v ≠ u→β2 v=β v:=fun v h => upd_other h
 have sameT:∀ v,v ≠ u→v ≠ t→(∀ e cs,getT T0 v=.box e cs→getT T2 v=.box e (cs.map (D.sub1 t (toName u)))) ∧ ((∀ e cs,getT T0 v ≠ .box e cs)→getT T2 v=getT T0 v):=fun v h1 h2 => by
  rw [go v h1 h2]
  constructor
  ·intro e cs h; rw [h]
  ·intro h
   cases hg:getT T0 v with
   | box e cs => exact absurd hg (h e cs)
   | _ => rfl
 have hsame:∀ d x,d.names1 u=false→d.names1 t=false→rho β T0 d x→rho β2 T2 d x:=by
  intro d x h1 h2 h
  cases d with
  | bref v off =>
   have hu:=Nat.ne_of_beq_eq_false h1
   have ht:=Nat.ne_of_beq_eq_false h2
   simp only [rho] at h ⊢; rw [go v hu ht,bo v hu]; cases hg:getT T0 v <;> rw [hg] at h <;> exact h
  | sref v =>
   have hu:=Nat.ne_of_beq_eq_false h1
   have ht:=Nat.ne_of_beq_eq_false h2
   simp only [rho] at h ⊢; rw [go v hu ht,bo v hu]; cases hg:getT T0 v <;> rw [hg] at h <;> exact h
  | eref v i off =>
   have hu:=Nat.ne_of_beq_eq_false h1
   have ht:=Nat.ne_of_beq_eq_false h2
   simp only [rho] at h ⊢; rw [go v hu ht,bo v hu]; cases hg:getT T0 v <;> rw [hg] at h <;> exact h
  | mref v =>
   have hu:=Nat.ne_of_beq_eq_false h1
   have ht:=Nat.ne_of_beq_eq_false h2
   simp only [rho] at h ⊢; rw [go v hu ht,bo v hu]; cases hg:getT T0 v <;> rw [hg] at h <;> exact h
  | _ => exact h
 have hnew:∀ d x,d.isRef=true→d.names1 t=true→rho β T0 d x→rho β2 T2 (toName u d) x:=by
  intro d x hd h1 h
  cases d with
  | bref v off => cases Nat.eq_of_beq_eq_true h1; simp only [rho,hb0] at h
  | sref v => cases Nat.eq_of_beq_eq_true h1; simp only [rho,hb0] at h; simp only [toName,rho,gu,bu]; exact h
  | eref v i off => cases Nat.eq_of_beq_eq_true h1; simp only [rho,hb0] at h; simp only [toName,rho,gu,bu]; exact h
  | mref v => cases Nat.eq_of_beq_eq_true h1; simp only [rho,hb0] at h
  | _ => simp [D.isRef] at hd
 have live:∀ v,v ≠ u→v ≠ t→(getT T2 v=.none ↔ getT T0 v=.none):=fun v h1 h2 => by
  rw [go v h1 h2]; cases getT T0 v <;> simp
 refine⟨⟨ι,β2,⟨hi.gl,hi.os,hi.tape,hi.output,hi.size,hi.kept,hi.old,hi.new,hi.lt,fun v => ?_,fun v b hb => ?_,fun v v' b hvv hb1 hb2 => ?_⟩,fun s => ?_⟩,hsz,hdf⟩
 ·by_cases hu:v=u
  ·subst hu
   show ObOk ι w (rho β2 T2) (β2 v) (getT T2 v)
   rw [gu,bu]
   have:=hi.obj t
   rw [hb0] at this
   exact ObOk.mono (ρ:=fun _ _ => False) (o:=.rows true ety sz rs) this (fun _ _ => rfl) (fun _ _ h => h) (fun _ _ _ h => h) (fun _ _ _ => rfl) (fun _ _ h => h.elim)
  ·by_cases ht:v=t
   ·subst ht; show ObOk ι w (rho β2 T2) (β2 v) (getT T2 v); rw [gt]; trivial
   ·show ObOk ι w (rho β2 T2) (β2 v) (getT T2 v)
    rw [bo v hu,go v hu ht]
    have hob:=hi.obj v
    cases hg:getT T0 v with
    | none => trivial
    | box e cells =>
     rw [show getT (killT u T) v=_ from hg] at hob
     obtain⟨b,c,ty,hβ,hh,hl,h1,hrr,he,hnn,ha⟩:=hob
     refine⟨b,c,ty,hβ,hh,by simp [hl],h1,fun k d y hd hy => ?_,he,fun hx =>⟨fun o ho => (hnn hx).1 o (by simpa using ho),fun k d y hd hy => ?_⟩,ha⟩
     ·rw [List.getElem?_map,Option.map_eq_some_iff] at hd
      obtain⟨d0,h0,rfl⟩:=hd
      exact sub1_R hsame hnew (killT_clean u hg d0 (List.mem_of_getElem? h0)) (hrr k d0 y h0 hy)
     ·rw [List.getElem?_map,Option.map_eq_some_iff] at hd
      obtain⟨d0,h0,rfl⟩:=hd
      exact Pu.sub1 ((hnn hx).2 k d0 y h0 hy)
    | rows e ety sz rs => rw [show getT (killT u T) v=_ from hg] at hob; exact hob.keep (fun _ _ => rfl) (fun _ _ h => h) (fun _ _ _ h => h) (fun _ _ _ => rfl) (fun _ _ h => by cases h)
    | map es => rw [show getT (killT u T) v=_ from hg] at hob; exact hob.keep (fun _ _ => rfl) (fun _ _ h => h) (fun _ _ _ h => h) (fun _ _ _ => rfl) (fun _ _ h => by cases h)
    | pin s ety sz rs => rw [show getT (killT u T) v=_ from hg] at hob; exact hob.keep (fun _ _ => rfl) (fun _ _ h => h) (fun _ _ _ h => h) (fun _ _ _ => rfl) (fun _ _ h => by cases h)
    | bytes ys => rw [show getT (killT u T) v=_ from hg] at hob; exact hob.keep (fun _ _ => rfl) (fun _ _ h => h) (fun _ _ _ h => h) (fun _ _ _ => rfl) (fun _ _ h => by cases h)
 ·by_cases hu:v=u
  ·subst hu
   rw [show β2 v=_ from bu] at hb
   rcases hi.mine t b hb with h | h
   ·rw [show getT (killT v T) t=_ from hb0] at h; cases h
   ·exact .inr h
  ·by_cases ht:v=t
   ·subst ht; exact .inl gt
   ·rw [show β2 v=_ from bo v hu] at hb
    exact (hi.mine v b hb).imp (live v hu ht).2 id
 ·have key:∀ v',v' ≠ u→blockOf (β2 u)=some b→blockOf (β2 v')=some b→getT T2 u=.none ∨ getT T2 v'=.none:=by
   intro v' hv' hb1 hb2
   rw [bu] at hb1
   by_cases ht:v'=t
   ·subst ht; exact .inr gt
   ·rw [bo v' hv'] at hb2
    rcases hi.apart t v' b (Ne.symm ht) hb1 hb2 with h | h
    ·rw [show getT (killT u T) t=_ from hb0] at h; cases h
    ·exact .inr ((live v' hv' ht).2 h)
  by_cases hu:v=u
  ·subst hu; exact key v' (Ne.symm hvv) hb1 hb2
  ·by_cases hu':v'=u
   ·subst hu'; exact (key v hvv hb2 hb1).symm
   ·by_cases ht:v=t
    ·subst ht; exact .inl gt
    ·by_cases ht':v'=t
     ·subst ht'; exact .inr gt
     ·rw [show β2 v=_ from bo v hu] at hb1
      rw [show β2 v'=_ from bo v' hu'] at hb2
      exact (hi.apart v v' b hvv hb1 hb2).imp (live v hu ht).2 (live v' hu' ht').2
 ·show R ι w (rho β2 T2) (get (subFr t (toName u) (kill u fr)) s) _
  rw [get_sub]
  exact sub_R hsame hnew (kill_clean u fr s) (hr s)
theorem SLe.trans {σ1 σ2 σ3:St} (h:SLe σ1 σ2) (h':SLe σ2 σ3):SLe σ1 σ3:=fun cx n a w hs => h cx n a w (h' cx n a w hs)
end Go.Proofs.Vx
