import Derived.Test.YtapbckofgcmgmaaGreatDoorVxA
namespace Go.Proofs.Vx
open Go Go.RowKit
set_option linter.unusedSectionVars false
variable [Glo]
theorem sim_ev {ι β w} {σ:St} {a:Act} (h:∀ s,R ι w (rho β σ.T) (get σ.fr s) (a.tmps.getD s undef)) (x:Operand):R ι w (rho β σ.T) (σ.ev x) (a.eval x):=by
 cases x with
 | tmp t => exact h t
 | const v => exact .v v
 | func f => exact .clo f [] #[] rfl (fun k d x h => by simp at h)
 | global g => exact .junk _
theorem get_put (fr:List (Nat × D)) (T:List (Nat × Ob)) (s:Nat) (d:D) (u:Nat):get (St.set ⟨fr,T⟩ s d).fr u=if s=u then d else get fr u:=by
 simp only [St.set,get]
 by_cases h:s=u
 ·subst h; simp
 ·rw [if_neg h]
  have:Nat.beq s u=false:=by cases hb:Nat.beq s u with | false => rfl | true => exact absurd (Nat.eq_of_beq_eq_true hb) h
  rw [this]
theorem Sim.put1 {cx:Cx} {n:Nat} {fr:List (Nat × D)} {T:List (Nat × Ob)} {a:Act} {w:World} {ι:Nat→Nat→Prop} {β:Nat→Value} (hi:Inv cx ι β T w) (hr:∀ s,R ι w (rho β T) (get fr s) (a.tmps.getD s undef)) (hs:a.tmps.size=n) (hdf:a.defers=cx.ds)
  {dst:Option Nat} (hn:∀ s,dst=some s→s < n) {d:D} {x:Value} (hd:R ι w (rho β T) d x):Sim cx n (St.put ⟨fr,T⟩ dst d) (a.put dst x) w:=by
 cases dst with
 | none => exact⟨⟨ι,β,hi,hr⟩,hs,hdf⟩
 | some s =>
  refine⟨⟨ι,β,hi,fun u => ?_⟩,?_,hdf⟩
  ·have hlt:=hn s rfl
   show R ι w (rho β T) (get (St.set ⟨fr,T⟩ s d).fr u) ((a.tmps.setIfInBounds s x).getD u undef)
   rw [get_put]
   by_cases hu:s=u
   ·subst hu
    rw [if_pos rfl]
    have:(a.tmps.setIfInBounds s x).getD s undef=x:=by simp [Array.getD,hs,hlt]
    rw [this]
    exact hd
   ·rw [if_neg hu]
    have:(a.tmps.setIfInBounds s x).getD u undef=a.tmps.getD u undef:=by simp [hu]
    rw [this]
    exact hr u
  ·simpa [Act.put] using hs
theorem Sim.put {cx n} {σ:St} {a:Act} {w:World} (h:Sim cx n σ a w) {dst:Option Nat} (hn:∀ s,dst=some s→s < n) {d:D} {x:Value}
  (hd:∀ ι β,Inv cx ι β σ.T w→(∀ s,R ι w (rho β σ.T) (get σ.fr s) (a.tmps.getD s undef))→R ι w (rho β σ.T) d x):Sim cx n (σ.put dst d) (a.put dst x) w:=by
 obtain⟨⟨ι,β,hi,hr⟩,hs,hdf⟩:=h
 exact Sim.put1 hi hr hs hdf hn (hd ι β hi hr)
inductive DLe:D→D→Prop
 | same (d:D):DLe d d
 | junk (d:D):DLe .junk d
 | nil (sz:Nat):DLe (.list sz []) (.v (.slice none 0 0))
 | cl (sz:Nat) (rows:List (List D)):DLe (.list sz rows) (.clist sz rows)
 | nilc (sz:Nat):DLe (.clist sz []) (.v (.slice none 0 0))
 | wl (sz:Nat) (rows room:List (List D)):DLe (.list sz rows) (.wlist sz rows room)
theorem Pu.wl {ι w} {sz:Nat} {rows room:List (List D)} {x:Value} (h:Pu ι w (.wlist sz rows room) x):Pu ι w (.list sz rows) x:=by
 cases h with
 | wlist _ _ _ A h =>
  generalize hq:rows ++ room=q at h
  cases h with
  | listNil _ _ _ h0 =>
   have:rows=[]:=(List.append_eq_nil_iff.1 hq).1
   subst this
   exact .listNil _ _ _ h0
  | list _ _ b off _ f hn hsz hc hr =>
   subst hq
   refine .list sz rows b off _ f (by simp) (fun r hr => hsz r (by simp [hr])) (fun k hk => hc k ?_) (fun k d hd => hr k d ?_)
   ·rw [List.length_append,Nat.add_mul]; omega
   ·rw [List.flatten_append,List.getElem?_append_left (List.getElem?_eq_some_iff.1 hd).1]; exact hd
theorem R.wl_pu {ι w ρ} {sz:Nat} {rows room:List (List D)} {x:Value} (h:R ι w ρ (.wlist sz rows room) x):Pu ι w (.wlist sz rows room) x:=by
 cases h with
 | pu h => exact h
 | ref h _ _ => simp [D.isRef] at h
theorem DLe.r {ι w ρ} {d' d:D} {x:Value} (h:DLe d' d) (hd:R ι w ρ d x):R ι w ρ d' x:=by
 cases h with
 | same => exact hd
 | junk => exact .junk _
 | nil sz => rw [hd.v_inv]; exact .pu (.listNil sz none 0 (fun _ => rfl))
 | cl sz rows => cases hd with
  | pu h => cases h with | clist _ _ A h => exact .pu h
  | ref h _ _ => simp [D.isRef] at h
 | nilc sz => rw [hd.v_inv]; exact .pu (.clist sz [] none (.listNil sz none 0 (fun _ => rfl)))
 | wl sz rows room => exact .pu hd.wl_pu.wl
theorem DLe.p {ι w} {d' d:D} {x:Value} (h:DLe d' d) (hd:Pu ι w d x):Pu ι w d' x:=by
 cases h with
 | same => exact hd
 | junk => exact .junk _
 | nil sz => cases hd; exact .listNil sz none 0 (fun _ => rfl)
 | cl sz rows => cases hd with | clist _ _ A h => exact h
 | nilc sz => cases hd; exact .clist sz [] none (.listNil sz none 0 (fun _ => rfl))
 | wl sz rows room => exact hd.wl
inductive ObLe:Ob→Ob→Prop
 | same (o:Ob):ObLe o o
 | none (o:Ob):ObLe .none o
 | box (e:Ex) (c' c:List D) (hl:c'.length=c.length) (h:∀ (k:Nat) d' d,c'[k]? =some d'→c[k]? =some d→DLe d' d):ObLe (.box e c') (.box e c)
def Le (σ' σ:St):Prop:=(∀ s,DLe (get σ'.fr s) (get σ.fr s)) ∧ ∀ t,ObLe (getT σ'.T t) (getT σ.T t)
theorem rho_le {β:Nat→Value} {T T':List (Nat × Ob)} (h:∀ t,ObLe (getT T' t) (getT T t)):∀ d x,rho β T d x→rho β T' d x:=by
 intro d x hx
 cases d with
 | bref t off =>
  have:=h t; simp only [rho] at hx ⊢
  generalize getT T' t=o' at *; generalize getT T t=o at *
  cases this <;> first | exact hx | trivial
 | sref t =>
  have:=h t; simp only [rho] at hx ⊢
  generalize getT T' t=o' at *; generalize getT T t=o at *
  cases this <;> first | exact hx | trivial
 | eref t i off =>
  have:=h t; simp only [rho] at hx ⊢
  generalize getT T' t=o' at *; generalize getT T t=o at *
  cases this <;> first | exact hx | trivial
 | mref t =>
  have:=h t; simp only [rho] at hx ⊢
  generalize getT T' t=o' at *; generalize getT T t=o at *
  cases this <;> first | exact hx | trivial
 | _ => exact hx
theorem rho_mono {β:Nat→Value} {T T':List (Nat × Ob)} (h:∀ t,getT T' t=.none ∨ getT T' t=getT T t):∀ d x,rho β T d x→rho β T' d x:=
 rho_le fun t => by rcases h t with e | e <;> rw [e] <;> constructor
theorem ObOk.mono {ι ι':Nat→Nat→Prop} {w w':World} {ρ ρ':D→Value→Prop} {x:Value} {o:Ob} (h:ObOk ι w ρ x o)
  (hb:∀ b,blockOf x=some b→w'.heap[b]? =w.heap[b]?) (hι:∀ b o,ι b o→ι' b o) (hni:∀ b,blockOf x=some b→∀ o,ι' b o→ι b o)
  (hw:∀ b o,ι b o→w'.cell? ⟨b,o,none⟩=w.cell? ⟨b,o,none⟩) (hρ:∀ d x,ρ d x→ρ' d x):ObOk ι' w' ρ' x o:=by
 cases o with
 | none => trivial
 | box excl cells =>
  obtain⟨b,c,ty,rfl,hc,hl,h1,hr,he,hn,ha⟩:=h
  refine⟨b,c,ty,rfl,(hb b rfl).trans hc,hl,h1,fun k d y hd hy => (hr k d y hd hy).mono hι hw hρ,fun hx o ho => he hx o (hni b rfl o ho),fun hx =>⟨fun o ho => hι _ _ ((hn hx).1 o ho),fun k d y hd hy => ((hn hx).2 k d y hd hy).mono hι hw⟩,ha⟩
 | rows excl ety sz rows =>
  obtain⟨xs,ho,hs,h1,hr,hb'⟩:=h
  refine⟨xs,?_,hs,h1,fun k d y hd hy => (hr k d y hd hy).mono hι hw,fun b hbb =>⟨fun o ho hi => (hb' b hbb).1 o ho (hni b hbb o hi),fun he o hi => (hb' b hbb).2.1 he o (hni b hbb o hi),fun he o ho => hι _ _ ((hb' b hbb).2.2 he o ho)⟩⟩
  refine⟨ho.1,?_⟩
  rcases ho.2 with h |⟨g,cap,cur,rfl,hg,hh,rest⟩
  ·exact .inl h
  ·exact .inr ⟨g,cap,cur,rfl,hg,(hb g rfl).trans hh,rest⟩
 | map entries =>
  obtain⟨r,es,clock,rfl,hh,hl,hi,hr⟩:=h
  exact⟨r,es,clock,rfl,(hb r rfl).trans hh,hl,fun o ho => hi o (hni r rfl o ho),fun k p e hp he =>⟨(hr k p e hp he).1.mono hι hw,(hr k p e hp he).2.1.mono hι hw,(hr k p e hp he).2.2⟩⟩
 | pin s ety sz rows =>
  obtain⟨hs,xs,ho,hsz,h1,hr,hb'⟩:=h
  refine⟨hs,xs,?_,hsz,h1,fun k d y hd hy => (hr k d y hd hy).mono hι hw,fun b hbb =>⟨fun o ho hi => (hb' b hbb).1 o ho (hni b hbb o hi),fun he o hi => (hb' b hbb).2.1 he o (hni b hbb o hi),fun he o ho => hι _ _ ((hb' b hbb).2.2 he o ho)⟩⟩
  refine⟨ho.1,?_⟩
  rcases ho.2 with h |⟨g,cap,cur,rfl,hg,hh,rest⟩
  ·exact .inl h
  ·exact .inr ⟨g,cap,cur,rfl,hg,(hb g rfl).trans hh,rest⟩
 | bytes xs =>
  obtain⟨b,cap,cur,fz,ety,rfl,hh,hl,hc,hn⟩:=h
  exact⟨b,cap,cur,fz,ety,rfl,(hb b rfl).trans hh,hl,hc,fun o ho => hn o (hni b rfl o ho)⟩
theorem ObOk.le {ι:Nat→Nat→Prop} {w:World} {ρ ρ':D→Value→Prop} {x:Value} {o o':Ob} (h:ObOk ι w ρ x o) (hl:ObLe o' o) (hρ:∀ d x,ρ d x→ρ' d x):ObOk ι w ρ' x o':=by
 have h:ObOk ι w ρ' x o:=h.mono (fun _ _ => rfl) (fun _ _ h => h) (fun _ _ _ h => h) (fun _ _ _ => rfl) hρ
 cases hl with
 | same => exact h
 | none => trivial
 | box e c' c hlen hc =>
  obtain⟨b,cs,ty,rfl,hh,hs,h1,hr,he,hn,ha⟩:=h
  have look:∀ (k:Nat) d',c'[k]? =some d'→∃ d,c[k]? =some d ∧ DLe d' d:=fun k d' hd' => by
   have hlt:k < c.length:=by rw [← hlen]; exact (List.getElem?_eq_some_iff.1 hd').1
   exact⟨_,List.getElem?_eq_getElem hlt,hc k d' _ hd' (List.getElem?_eq_getElem hlt)⟩
  refine⟨b,cs,ty,rfl,hh,hs.trans hlen.symm,h1,fun k d y hd hy => ?_,he,fun hx =>⟨fun o ho => (hn hx).1 o (hlen ▸ ho),fun k d y hd hy => ?_⟩,ha⟩
  ·obtain⟨d0,h0,hle⟩:=look k d hd; exact hle.r (hr k d0 y h0 hy)
  ·obtain⟨d0,h0,hle⟩:=look k d hd; exact hle.p ((hn hx).2 k d0 y h0 hy)
theorem ObLe.alive {o' o:Ob} (h:ObLe o' o) (hn:o=.none):o'=.none:=by
 subst hn; cases h <;> rfl
theorem Inv.le {cx ι β T T' w} (hi:Inv cx ι β T w) (hl:∀ t,ObLe (getT T' t) (getT T t)):Inv cx ι β T' w:=
 ⟨hi.gl,hi.os,hi.tape,hi.output,hi.size,hi.kept,hi.old,hi.new,hi.lt,fun t => (hi.obj t).le (hl t) (rho_le hl),fun t b hb => (hi.mine t b hb).imp (hl t).alive id,fun t u b ht hb hu => (hi.apart t u b ht hb hu).imp (hl t).alive (hl u).alive⟩
theorem Sim.le {cx n} {σ σ':St} {a:Act} {w:World} (h:Sim cx n σ a w) (hl:Le σ' σ):Sim cx n σ' a w:=by
 obtain⟨⟨ι,β,hi,hr⟩,hs,hdf⟩:=h
 have hρ:=rho_le (β:=β) hl.2
 refine⟨⟨ι,β,⟨hi.gl,hi.os,hi.tape,hi.output,hi.size,hi.kept,hi.old,hi.new,hi.lt,fun t => (hi.obj t).le (hl.2 t) hρ,fun t b hb => (hi.mine t b hb).imp (hl.2 t).alive id,fun t u b ht hb hu => (hi.apart t u b ht hb hu).imp (hl.2 t).alive (hl.2 u).alive⟩,fun s => ?_⟩,hs,hdf⟩
 exact (hl.1 s).r ((hr s).mono (fun _ _ h => h) (fun _ _ _ => rfl) hρ)
def leFr:List (Nat × D)→List (Nat × D)→Prop
 | [],_ => True
 | p :: r,fr => DLe p.2 (get fr p.1) ∧ leFr r fr
def leT:List (Nat × Ob)→List (Nat × Ob)→Prop
 | [],_ => True
 | p :: r,T => ObLe p.2 (getT T p.1) ∧ leT r T
theorem leFr_get:∀ {fr' fr:List (Nat × D)},leFr fr' fr→∀ s,DLe (get fr' s) (get fr s)
 | [],_,_,_ => .junk _
 | (t,d) :: r,fr,⟨h,hr⟩,s => by
  simp only [get]
  cases hb:Nat.beq t s with
  | false => exact leFr_get hr s
  | true => cases Nat.eq_of_beq_eq_true hb; exact h
theorem leT_get:∀ {T' T:List (Nat × Ob)},leT T' T→∀ s,ObLe (getT T' s) (getT T s)
 | [],_,_,_ => .none _
 | (t,d) :: r,T,⟨h,hr⟩,s => by
  simp only [getT]
  cases hb:Nat.beq t s with
  | false => exact leT_get hr s
  | true => cases Nat.eq_of_beq_eq_true hb; exact h
theorem Le.mk {fr fr':List (Nat × D)} {T T':List (Nat × Ob)} (h:leFr fr' fr) (hT:leT T' T):Le ⟨fr',T'⟩ ⟨fr,T⟩:=⟨leFr_get h,leT_get hT⟩
theorem Le.fr {fr fr':List (Nat × D)} {T:List (Nat × Ob)} (h:leFr fr' fr):Le ⟨fr',T⟩ ⟨fr,T⟩:=⟨leFr_get h,fun _ => .same _⟩
theorem Le.refl (σ:St):Le σ σ:=⟨fun _ => .same _,fun _ => .same _⟩
def kill (t:Nat) (fr:List (Nat × D)):List (Nat × D):=fr.map fun p => (p.1,match p.2.names t with | true => .junk | false => p.2)
def killT (t:Nat) (T:List (Nat × Ob)):List (Nat × Ob):=T.map fun p => (p.1,match p.2 with
 | .box e cells => .box e (cells.map fun d => match d.names1 t with | true => .junk | false => d)
 | o => o)
theorem get_kill (t:Nat):∀ (fr:List (Nat × D)) (s:Nat),get (kill t fr) s=match (get fr s).names t with | true => .junk | false => get fr s
 | [],s => rfl
 | (u,d) :: r,s => by
  simp only [kill,List.map_cons,get]
  cases Nat.beq u s with
  | true => rfl
  | false => exact get_kill t r s
theorem getT_kill (t:Nat):∀ (T:List (Nat × Ob)) (s:Nat),getT (killT t T) s=match getT T s with
  | .box e cells => .box e (cells.map fun d => match d.names1 t with | true => .junk | false => d)
  | o => o
 | [],s => rfl
 | (u,o) :: r,s => by
  simp only [killT,List.map_cons,getT]
  cases Nat.beq u s with
  | true => rfl
  | false => exact getT_kill t r s
theorem kill_clean (t:Nat) (fr:List (Nat × D)) (s:Nat):(get (kill t fr) s).names t=false:=by
 rw [get_kill]
 cases h:(get fr s).names t with
 | true => rfl
 | false => exact h
theorem killT_clean (t:Nat) {T:List (Nat × Ob)} {u:Nat} {e:Ex} {cells:List D} (h:getT (killT t T) u=.box e cells):∀ d ∈ cells,d.names1 t=false:=by
 rw [getT_kill] at h
 split at h
 ·cases h
  intro d hd
  obtain⟨d0,_,rfl⟩:=List.mem_map.1 hd
  cases h:d0.names1 t with
  | true => rfl
  | false => exact h
 ·rename_i hne; exact absurd h (hne _ _)
theorem Le.kill (t:Nat) (σ:St):Le ⟨kill t σ.fr,killT t σ.T⟩ σ:=by
 refine⟨fun s => ?_,fun u => ?_⟩
 ·show DLe (get (Vx.kill t σ.fr) s) _
  rw [get_kill]
  cases (get σ.fr s).names t with
  | true => exact .junk _
  | false => exact .same _
 ·show ObLe (getT (killT t σ.T) u) _
  rw [getT_kill]
  split
  ·rename_i e cells hb
   rw [hb]
   refine .box e _ _ (by simp) (fun k d' d hd' hd => ?_)
   rw [List.getElem?_map,hd] at hd'
   cases hd'
   have:∀ b:Bool,DLe (match b with | true => .junk | false => d) d:=fun b => by cases b <;> constructor
   exact this _
  ·exact .same _
def OpOk (P:Program) (n:Nat) (o:Oper) (σ σ':St):Prop:=
 ∀ cx a w (K:Act→World→Prop) Q,Sim cx n σ a w→(∀ a' w',Sim cx n σ' a' w'→K a' w')→o.wp P a w K Q
def OpsOk (P:Program) (n:Nat) (ops:Array Oper) (l:List Oper) (σ σ':St):Prop:=
 ∀ cx a w Q,Sim cx n σ a w→(∀ a' w',Sim cx n σ' a' w'→Q Exit.normal a' w')→wpList P ops Q l a w
def Ok (P:Program) (n:Nat) (c:Code) (σ:St) (Φ:Exit→St→Prop):Prop:=
 ∀ cx a w Q,Sim cx n σ a w→(∀ e σ' a' w',Φ e σ'→Sim cx n σ' a' w'→Q e a' w')→c.wp P Q a w
section
variable {P:Program} {n:Nat} {σ:St} {Φ:Exit→St→Prop}
theorem Ok.le {σ':St} {c:Code} (hl:Le σ' σ) (h:Ok P n c σ' Φ):Ok P n c σ Φ:=fun cx a w Q hs hq => h cx a w Q (hs.le hl) hq
theorem Ok.mono {c:Code} {Ψ:Exit→St→Prop} (h:Ok P n c σ Ψ) (hq:∀ e σ',Ψ e σ'→Φ e σ'):Ok P n c σ Φ:=
 fun cx a w Q hs hk => h cx a w Q hs fun e σ' a' w' hp => hk e σ' a' w' (hq e σ' hp)
theorem Ok.skip (h:Φ .normal σ):Ok P n .skip σ Φ:=fun _ _ _ _ hs hq => wp_skip (hq _ _ _ _ h hs)
theorem Ok.label {l:Nat} (h:Φ .normal σ):Ok P n (.label l) σ Φ:=fun _ _ _ _ hs hq => wp_label (hq _ _ _ _ h hs)
theorem Ok.exit {id:Nat} (h:Φ (.exit id) σ):Ok P n (.exit id) σ Φ:=fun _ _ _ _ hs hq => wp_exit (hq _ _ _ _ h hs)
theorem Ok.goto {id:Nat} (h:Φ (.goto id) σ):Ok P n (.goto id) σ Φ:=fun _ _ _ _ hs hq => wp_goto (hq _ _ _ _ h hs)
theorem Ok.ret (h:Φ .ret σ):Ok P n .ret σ Φ:=fun _ _ _ _ hs hq => wp_ret (hq _ _ _ _ h hs)
def thn (P:Program) (n:Nat) (c:Code) (Φ:Exit→St→Prop):Exit→St→Prop
 | .normal,σ => Ok P n c σ Φ
 | e,σ => Φ e σ
theorem Ok.seq {x y:Code} (h:Ok P n x σ (thn P n y Φ)):Ok P n (.seq x y) σ Φ:=fun cx a w Q hs hq =>
 wp_seq (h cx a w _ hs fun e σ' a' w' he hs' => by cases e <;> first | exact he cx a' w' Q hs' hq | exact hq _ _ _ _ he hs')
theorem Ok.meet {x y:Code} (Ψ:St→Prop) (h:Ok P n x σ (fun e σ' => match e with | .normal => Ψ σ' | e => Φ e σ')) (hy:∀ σ',Ψ σ'→Ok P n y σ' Φ):Ok P n (.seq x y) σ Φ:=
 Ok.seq (h.mono fun e σ' he => by cases e <;> first | exact hy σ' he | exact he)
theorem Ok.cond {c:Operand} {x y:Code} {b:Bool} (hc:σ.ev c=.v (.bool b)) (h:Ok P n (if b then x else y) σ Φ):Ok P n (.cond c x y) σ Φ:=fun cx a w Q hs hq => by
 obtain⟨ι,β,hi,hr⟩:=hs.ex
 have he:=sim_ev hr c
 rw [hc] at he
 exact wp_cond he.v_inv (h cx a w Q hs hq)
theorem Ok.condT {c:Operand} {x y:Code} (hc:σ.ev c=.v (.bool true)) (h:Ok P n x σ Φ):Ok P n (.cond c x y) σ Φ:=Ok.cond hc h
theorem Ok.condF {c:Operand} {x y:Code} (hc:σ.ev c=.v (.bool false)) (h:Ok P n y σ Φ):Ok P n (.cond c x y) σ Φ:=Ok.cond hc h
theorem Ok.test {c:Operand} {x y:Code} {b:Bool} (hc:σ.ev c=.v (.bool b)) (ht:b=true→Ok P n x σ Φ) (hf:b=false→Ok P n y σ Φ):Ok P n (.cond c x y) σ Φ:=by
 cases b
 ·exact Ok.cond hc (hf rfl)
 ·exact Ok.cond hc (ht rfl)
def blk (id:Nat) (Φ:Exit→St→Prop):Exit→St→Prop
 | .exit id',σ => match Nat.beq id' id with | true => Φ .normal σ | false => Φ (.exit id') σ
 | e,σ => Φ e σ
theorem Ok.block {id:Nat} {c:Code} (h:Ok P n c σ (blk id Φ)):Ok P n (.block id c) σ Φ:=fun cx a w Q hs hq =>
 wp_block (h cx a w _ hs fun e σ' a' w' he hs' => by
  cases e with
  | exit id' =>
   simp only [blk] at he
   simp only [Exit.inBlock]
   cases hb:Nat.beq id' id with
   | true => rw [hb] at he; rw [if_pos (Nat.eq_of_beq_eq_true hb)]; exact hq _ _ _ _ he hs'
   | false => rw [hb] at he; rw [if_neg (Nat.ne_of_beq_eq_false hb)]; exact hq _ _ _ _ he hs'
  | _ => exact hq _ _ _ _ he hs')
def lp (I:Nat→St→Prop) (m:Nat) (Φ:Exit→St→Prop):Exit→St→Prop
 | .normal,σ => ∃ m',m' < m ∧ I m' σ
 | e,σ => Φ e σ
theorem wp_loop_rel {P:Program} {c:Code} {Q:Exit→Act→World→Prop} (I:Nat→Act→World→Prop)
  (round:∀ m a w,I m a w→c.wp P (Exit.then (fun a' w' => ∃ m',m' < m ∧ I m' a' w') Q) a w) (m:Nat) (a:Act) (w:World) (h₀:I m a w):(Code.loop c).wp P Q a w:=by
 intro b k cs
 have key:∀ n a w,I n a w→
   ∃ e a' w',Q e a' w' ∧ Arrives P (lone (b.at a (.code c :: .inLoop c :: k)) cs w) b k cs e a' w':=by
  intro n
  induction n using Nat.strongRecOn with
  | _ n ih =>
   intro a w hI
   obtain⟨e,a₁,w₁,hq,harr⟩:=round n a w hI b (.inLoop c :: k) cs
   cases e with
   | normal =>
    obtain⟨m',hlt,hI₁⟩:=hq
    obtain⟨e₂,a₂,w₂,hq₂,harr₂⟩:=ih m' hlt a₁ w₁ hI₁
    exact⟨e₂,a₂,w₂,hq₂,.of_steps (Steps.trans harr (.one step_inLoop)) harr₂⟩
   | exit id => exact⟨_,a₁,w₁,hq,.pass (x:=.inLoop c) rfl (fun _ _ => .inl (by simp)) harr⟩
   | goto l => exact⟨_,a₁,w₁,hq,.pass (x:=.inLoop c) rfl (fun _ _ => .inl (by simp)) harr⟩
   | ret => exact⟨_,a₁,w₁,hq,.pass (x:=.inLoop c) rfl (fun _ _ => .inl (by simp)) harr⟩
   | panic ch => exact⟨_,a₁,w₁,hq,.pass (x:=.inLoop c) rfl (fun _ _ => .inl (by simp)) harr⟩
   | outgrown => exact⟨_,a₁,w₁,hq,.pass (x:=.inLoop c) rfl (fun _ _ => .inl (by simp)) harr⟩
 obtain⟨e,a',w',hq,harr⟩:=key m a w h₀
 exact⟨e,a',w',hq,.of_steps (.one step_loop) harr⟩
theorem Ok.loop {c:Code} (I:Nat→St→Prop) (m:Nat) (h0:I m σ) (h:∀ m σ,I m σ→Ok P n c σ (lp I m Φ)):Ok P n (.loop c) σ Φ:=fun cx a w Q hs hq =>
 wp_loop_rel (fun m a w => ∃ σ,I m σ ∧ Sim cx n σ a w) (fun m a w ⟨σ1,h1,hs1⟩ => h m σ1 h1 cx a w _ hs1 fun e σ' a' w' he hs' => by
  cases e with
  | normal => obtain⟨m',hm,hi⟩:=he; exact⟨m',hm,σ',hi,hs'⟩
  | _ => exact hq _ _ _ _ he hs') m a w ⟨σ,h0,hs⟩
theorem Ok.region {id:Nat} {ops:Array Oper} {σ':St} (h:OpsOk P n ops ops.toList σ σ') (hk:Φ .normal σ'):Ok P n (.region id ops false) σ Φ:=fun cx a w Q hs hq =>
 wp_region_list (h cx a w Q hs fun _ _ hs' => hq _ _ _ _ hk hs')
variable {ops:Array Oper} {l:List Oper} {σ₁ σ':St} {o:Oper}
theorem OpsOk.nil:OpsOk P n ops [] σ σ:=fun _ _ _ _ hs hq => hq _ _ hs
theorem OpsOk.cons (hg:o.guard=none) (h:OpOk P n o σ σ₁) (hl:OpsOk P n ops l σ₁ σ'):OpsOk P n ops (o :: l) σ σ':=fun cx a w Q hs hq => by
 unfold wpList
 rw [if_pos (by simp [Region.wanted,hg])]
 exact .inl (h cx a w _ _ hs fun a' w' hs' => hl cx a' w' Q hs' hq)
theorem OpsOk.le {σ'':St} (h:OpsOk P n ops l σ σ'') (hl:Le σ' σ''):OpsOk P n ops l σ σ':=fun cx a w Q hs hq => h cx a w Q hs fun a' w' hs' => hq a' w' (hs'.le hl)
end
theorem sim_yield {cx n} {σ:St} {a:Act} {w:World} {ops:Array Oper} {j t:Nat} {b:Bool} (hs:Sim cx n σ a w) (hj:((ops[j]?).bind (·.dst))=some t) (ht:t < n)
  (hb:get σ.fr t=.v (.bool b)):yielded ops a.tmps j=some b:=by
 obtain⟨ι,β,hi,hr⟩:=hs.ex
 have h:=hr t
 rw [hb] at h
 have h:=h.v_inv
 have hlt:t < a.tmps.size:=by rw [hs.size]; exact ht
 have:a.tmps[t]? =some (.bool b):=by
  rw [Array.getElem?_eq_getElem hlt]
  simp [Array.getD,hlt] at h
  rw [h]
 simp [yielded,hj,this]
theorem OpsOk.consN {P n} {ops:Array Oper} {l:List Oper} {σ σ':St} {o:Oper} {j t:Nat} {b:Bool} (hg:o.guard=some (j,b)) (hj:((ops[j]?).bind (·.dst))=some t) (ht:t < n)
  (hb:get σ.fr t=.v (.bool (!b))) (hd:∀ s,o.dst=some s→s < n) (hl:OpsOk P n ops l (σ.put o.dst .junk) σ'):OpsOk P n ops (o :: l) σ σ':=fun cx a w Q hs hq => by
 unfold wpList
 rw [if_neg (by simp [Region.wanted,hg,sim_yield hs hj ht hb])]
 exact hl cx _ w Q (hs.put hd fun _ _ _ _ => .junk _) hq
def Gd (fr:List (Nat × D)) (t:Nat) (want g:Bool):Prop:=(g=true→get fr t=.v (.bool want)) ∧ (g=false→get fr t=.v (.bool (!want)) ∨ get fr t=.v undef)
theorem Gd.one {fr:List (Nat × D)} {t:Nat} {b want:Bool} (h:get fr t=.v (.bool b)):Gd fr t want (b == want):=by
 rw [Gd,h]; cases b <;> cases want <;> simp
theorem Gd.two {fr:List (Nat × D)} {t:Nat} {c b want:Bool} (h:get fr t=bif c then .v (.bool b) else .v undef):Gd fr t want (c && (b == want)):=by
 rw [Gd,h]; cases c <;> cases b <;> cases want <;> simp
theorem sim_wanted {cx n} {σ:St} {a:Act} {w:World} {ops:Array Oper} {o:Oper} {j t:Nat} {want g:Bool} (hs:Sim cx n σ a w) (hg:o.guard=some (j,want)) (hj:((ops[j]?).bind (·.dst))=some t) (ht:t < n) (hG:Gd σ.fr t want g):Region.wanted o (yielded ops a.tmps)=g:=by
 cases g with
 | true => simp [Region.wanted,hg,sim_yield hs hj ht (hG.1 rfl)]
 | false =>
  rcases hG.2 rfl with h | h
  ·simp only [Region.wanted,hg,sim_yield hs hj ht h]; cases want <;> rfl
  ·obtain⟨ι,β,hi,hr⟩:=hs.ex
   have h1:=hr t
   rw [h] at h1
   have h1:=h1.v_inv
   have hlt:t < a.tmps.size:=by rw [hs.size]; exact ht
   have:a.tmps[t]? =some undef:=by
    rw [Array.getElem?_eq_getElem hlt]
    simp [Array.getD,hlt] at h1
    rw [h1]
   simp only [Region.wanted,hg,yielded,hj,Option.bind_some,this,undef]; rfl
def Wof (β:Nat→Value) (T:List (Nat × Ob)):Nat→Prop:=fun b => ∃ t,getT T t ≠ .none ∧ blockOf (β t)=some b
def Fn (P:Program) (f:Nat) (ds:List D) (T:List (Nat × Ob)) (r:D) (T':List (Nat × Ob)):Prop:=
 ∀ (w:World) (ι:Nat→Nat→Prop) (β:Nat→Value) (vs:Array Value),Inv ⟨w,Wof β T,ι,[]⟩ ι β T w→vs.size=ds.length→
  (∀ (k:Nat) d x,ds[k]? =some d→vs[k]? =some x→R ι w (rho β T) d x)→
  Calls P f vs w fun e w' => ∃ v ι' β',e=.returned v ∧ Inv ⟨w,Wof β T,ι,[]⟩ ι' β' T' w' ∧ R ι' w' (rho β' T') r v
def params (ds:List D):Nat→List (Nat × D):=fun k => match ds with | [] => [] | d :: r => (k,d) :: params r (k + 1)
theorem get_params:∀ (ds:List D) (k s:Nat),get (params ds k) s=if k ≤ s then (ds[s - k]?).getD .junk else .junk
 | [],k,s => by simp [params,get]
 | d :: r,k,s => by
  simp only [params,get]
  cases hb:Nat.beq k s with
  | true => cases Nat.eq_of_beq_eq_true hb; simp
  | false =>
   have hne:=Nat.ne_of_beq_eq_false hb
   simp only []
   rw [get_params r (k + 1) s]
   by_cases h:k ≤ s
   ·rw [if_pos (by omega),if_pos h]
    have:s - k=(s - (k + 1)) + 1:=by omega
    rw [this,List.getElem?_cons_succ]
   ·rw [if_neg (by omega),if_neg h]
end Go.Proofs.Vx
