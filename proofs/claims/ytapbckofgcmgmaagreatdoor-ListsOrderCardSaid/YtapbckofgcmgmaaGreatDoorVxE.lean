import Derived.Test.YtapbckofgcmgmaaGreatDoorVxD
import Derived.Laws.AppendOwn
namespace Go.Proofs.Vx
open Go Go.RowKit
set_option linter.unusedSectionVars false
variable [Glo]
theorem OpOk.step {P:Program} {n:Nat} {o:Oper} {σ:St} {fr':List (Nat × D)} {T':List (Nat × Ob)} {d:D} (hn:dstB n o.dst=true)
  (h:∀ (cx:Cx) (ι:Nat→Nat→Prop) (β:Nat→Value) (a:Act) (w:World),Inv cx ι β σ.T w→(∀ x:Operand,R ι w (rho β σ.T) (σ.ev x) (a.eval x))→
   ∃ v w' ι' β',(execOp a.eval o).run P w=.ok (.value v) w' ∧ Inv cx ι' β' T' w' ∧
    (∀ s x,R ι w (rho β σ.T) (get σ.fr s) x→R ι' w' (rho β' T') (get fr' s) x) ∧ R ι' w' (rho β' T') d v):OpOk P n o σ (St.put ⟨fr',T'⟩ o.dst d):=by
 intro cx a w K Q hs hk
 obtain⟨⟨ι,β,hi,hr⟩,hsz,hdf⟩:=hs
 obtain⟨v,w',ι',β',hv,hi',hf,hd⟩:=h cx ι β a w hi (sim_ev hr)
 unfold Oper.wp
 rw [hv]
 exact hk _ _ (Sim.put1 hi' (fun s => hf s _ (hr s)) hsz hdf (dstB_lt hn) hd)
theorem OpOk.stepU {P:Program} {n:Nat} {o:Oper} {σ:St} {fr':List (Nat × D)} {T':List (Nat × Ob)} (hn:dstB n o.dst=true)
  (h:∀ (cx:Cx) (ι:Nat→Nat→Prop) (β:Nat→Value) (a:Act) (w:World),Inv cx ι β σ.T w→(∀ x:Operand,R ι w (rho β σ.T) (σ.ev x) (a.eval x))→
   ∃ w' ι' β',(execOp a.eval o).run P w=.ok .skip w' ∧ Inv cx ι' β' T' w' ∧
    (∀ s x,R ι w (rho β σ.T) (get σ.fr s) x→R ι' w' (rho β' T') (get fr' s) x)):OpOk P n o σ (St.put ⟨fr',T'⟩ o.dst .junk):=by
 intro cx a w K Q hs hk
 obtain⟨⟨ι,β,hi,hr⟩,hsz,hdf⟩:=hs
 obtain⟨w',ι',β',hv,hi',hf⟩:=h cx ι β a w hi (sim_ev hr)
 unfold Oper.wp
 rw [hv]
 refine hk _ _ (Sim.put (σ:=⟨fr',T'⟩) (a:=a) (w:=w') ⟨⟨ι',β',hi',fun s => hf s _ (hr s)⟩,hsz,hdf⟩ (dstB_lt hn) fun _ _ _ _ => .junk _)
theorem ObOk.keep {ι ι':Nat→Nat→Prop} {w w':World} {ρ ρ':D→Value→Prop} {x:Value} {o:Ob} (h:ObOk ι w ρ x o)
  (hb:∀ b,blockOf x=some b→w'.heap[b]? =w.heap[b]?) (hι:∀ b o,ι b o→ι' b o) (hni:∀ b,blockOf x=some b→∀ o,ι' b o→ι b o)
  (hw:∀ b o,ι b o→w'.cell? ⟨b,o,none⟩=w.cell? ⟨b,o,none⟩) (hR:∀ e cells,o=.box e cells→∀ d ∈ cells,∀ y,R ι w ρ d y→R ι' w' ρ' d y):ObOk ι' w' ρ' x o:=by
 cases o with
 | none => trivial
 | box excl cells =>
  obtain⟨b,c,ty,rfl,hc,hl,h1,hr,he,hn,ha⟩:=h
  exact⟨b,c,ty,rfl,(hb b rfl).trans hc,hl,h1,fun k d y hd hy => hR excl cells rfl d (List.mem_of_getElem? hd) y (hr k d y hd hy),fun hx o ho => he hx o (hni b rfl o ho),fun hx =>⟨fun o ho => hι _ _ ((hn hx).1 o ho),fun k d y hd hy => ((hn hx).2 k d y hd hy).mono hι hw⟩,ha⟩
 | rows excl ety sz rows => exact (ObOk.mono (ρ:=fun _ _ => False) (ρ':=ρ') (o:=.rows excl ety sz rows) h hb hι hni hw (fun _ _ h => h.elim))
 | map entries => exact (ObOk.mono (ρ:=fun _ _ => False) (ρ':=ρ') (o:=.map entries) h hb hι hni hw (fun _ _ h => h.elim))
 | pin s ety sz rows => exact (ObOk.mono (ρ:=fun _ _ => False) (ρ':=ρ') (o:=.pin s ety sz rows) h hb hι hni hw (fun _ _ h => h.elim))
 | bytes xs => exact (ObOk.mono (ρ:=fun _ _ => False) (ρ':=ρ') (o:=.bytes xs) h hb hι hni hw (fun _ _ h => h.elim))
theorem Inv.step {cx ι β T w} (h:Inv cx ι β T w) {w':World} {ι':Nat→Nat→Prop} {β':Nat→Value} {T':List (Nat × Ob)} (t:Nat) (tb:Option Nat)
  (hos:w'.os=w.os) (htape:w'.tape=w.tape) (hout:w'.output=w.output) (hsize:w.heap.size ≤ w'.heap.size)
  (hkept:∀ k,k < w.heap.size→some k ≠ tb→w'.heap[k]? =w.heap[k]?)
  (htb:∀ k,tb=some k→blockOf (β t)=some k ∧ getT T t ≠ .none)
  (hsub:∀ b o,ι b o→ι' b o) (hnew:∀ b o,ι' b o→ι b o ∨ (w.heap.size ≤ b ∧ b < w'.heap.size) ∨ some b=tb)
  (hcell:∀ b o,ι b o→w'.cell? ⟨b,o,none⟩=w.cell? ⟨b,o,none⟩)
  (hβ:∀ u,u ≠ t→β' u=β u) (hT:∀ u,u ≠ t→getT T' u=.none ∨ getT T' u=getT T u)
  (hR:∀ u e cells,u ≠ t→getT T u=.box e cells→getT T' u=getT T u→∀ d ∈ cells,∀ y,R ι w (rho β T) d y→R ι' w' (rho β' T') d y)
  (hob:ObOk ι' w' (rho β' T') (β' t) (getT T' t))
  (hmine:∀ b,blockOf (β' t)=some b→getT T' t=.none ∨ w.heap.size ≤ b ∨ (blockOf (β t)=some b ∧ getT T t ≠ .none)):Inv cx ι' β' T' w':=by
 have lt:∀ t b,getT T t ≠ .none→blockOf (β t)=some b→b < w.heap.size:=by
  intro t b hne hb
  have ho:=h.obj t
  cases hg:getT T t with
  | none => exact absurd hg hne
  | box e c => rw [hg] at ho; obtain⟨b',c,ty,hx,hc,_⟩:=ho; rw [hx] at hb; cases hb; exact (Array.getElem?_eq_some_iff.1 hc).1
  | rows e ety sz rs =>
   rw [hg] at ho; obtain⟨xs,ho,_⟩:=ho
   rcases ho.2 with ⟨hx,_⟩ |⟨g,cap,cur,hx,_,hc,_⟩
   ·rw [hx] at hb; cases hb
   ·rw [hx] at hb; cases hb; exact (Array.getElem?_eq_some_iff.1 hc).1
  | map es => rw [hg] at ho; obtain⟨r,es,cl,hx,hc,_⟩:=ho; rw [hx] at hb; cases hb; exact (Array.getElem?_eq_some_iff.1 hc).1
  | pin s ety sz rs =>
   rw [hg] at ho; obtain⟨_,xs,ho,_⟩:=ho
   rcases ho.2 with ⟨hx,_⟩ |⟨g,cap,cur,hx,_,hc,_⟩
   ·rw [hx] at hb; cases hb
   ·rw [hx] at hb; cases hb; exact (Array.getElem?_eq_some_iff.1 hc).1
  | bytes ys => rw [hg] at ho; obtain⟨r,cap,cur,fz,ety,hx,hc,_⟩:=ho; rw [hx] at hb; cases hb; exact (Array.getElem?_eq_some_iff.1 hc).1
 refine⟨h.gl,hos.trans h.os,htape.trans h.tape,hout.trans h.output,Nat.le_trans h.size hsize,fun k hk hW => ?_,fun b o hb => hsub _ _ (h.old b o hb),fun b o hb => ?_,fun b o hb => ?_,fun u => ?_,fun u b hb => ?_,fun u v b huv hb hb' => ?_⟩
 ·refine (hkept k (Nat.lt_of_lt_of_le hk h.size) (fun e => ?_)).trans (h.kept k hk hW)
  obtain⟨h1,h2⟩:=htb k e.symm
  rcases h.mine t k h1 with h' | h' | h'
  ·exact h2 h'
  ·omega
  ·exact hW h'
 ·rcases hnew b o hb with h' | h' | h'
  ·exact h.new b o h'
  ·exact .inr (.inl (Nat.le_trans h.size h'.1))
  ·obtain⟨h1,h2⟩:=htb b h'.symm
   exact .inr ((h.mine t b h1).resolve_left h2)
 ·rcases hnew b o hb with h' | h' | h'
  ·exact Nat.lt_of_lt_of_le (h.lt b o h') hsize
  ·exact h'.2
  ·obtain⟨h1,h2⟩:=htb b h'.symm
   exact Nat.lt_of_lt_of_le (lt t b h2 h1) hsize
 ·by_cases hu:u=t
  ·subst hu; exact hob
  ·rcases hT u hu with e | e
   ·rw [e]; trivial
   ·rw [e,hβ u hu]
    by_cases hn:getT T u=.none
    ·rw [hn]; trivial
    ·have hne:∀ b,blockOf (β u)=some b→some b ≠ tb:=by
      intro b hb e
      obtain⟨h1,h2⟩:=htb b e.symm
      rcases h.apart u t b hu hb h1 with h' | h'
      ·exact hn h'
      ·exact h2 h'
     refine (h.obj u).keep (fun b hb => hkept b (lt u b hn hb) (hne b hb)) hsub (fun b hb o ho => ?_) hcell (fun e' cells hc => hR u e' cells hu hc e)
     rcases hnew b o ho with h' | h' | h'
     ·exact h'
     ·have:=lt u b hn hb; omega
     ·exact absurd h' (hne b hb)
 ·by_cases hu:u=t
  ·subst hu
   rcases hmine b hb with h' | h' |⟨h',h2⟩
   ·exact .inl h'
   ·exact .inr (.inl (Nat.le_trans h.size h'))
   ·exact .inr ((h.mine u b h').resolve_left h2)
  ·rw [hβ u hu] at hb
   rcases hT u hu with e | e
   ·exact .inl e
   ·rw [e]; exact h.mine u b hb
 ·have one:∀ u b,u ≠ t→blockOf (β' u)=some b→blockOf (β' t)=some b→getT T' u=.none ∨ getT T' t=.none:=by
   intro u b hu hb hb'
   rw [hβ u hu] at hb
   rcases hT u hu with e | e
   ·exact .inl e
   ·by_cases hn:getT T u=.none
    ·exact .inl (e.trans hn)
    ·rcases hmine b hb' with h' | h' |⟨h',h2⟩
     ·exact .inr h'
     ·have:=lt u b hn hb; omega
     ·rcases h.apart u t b hu hb h' with h3 | h3
      ·exact absurd h3 hn
      ·exact absurd h3 h2
  by_cases hu:u=t
  ·subst hu
   exact (one v b (Ne.symm huv) hb' hb).symm
  ·by_cases hv:v=t
   ·subst hv; exact one u b hu hb hb'
   ·rw [hβ u hu] at hb
    rw [hβ v hv] at hb'
    rcases hT u hu with e | e
    ·exact .inl e
    ·rcases hT v hv with e' | e'
     ·exact .inr e'
     ·rw [e,e']; exact h.apart u v b huv hb hb'
theorem Inv.grow {cx ι β T w} (h:Inv cx ι β T w) {w':World} {ι':Nat→Nat→Prop}
  (hos:w'.os=w.os) (htape:w'.tape=w.tape) (hout:w'.output=w.output) (hsize:w.heap.size ≤ w'.heap.size)
  (hkept:∀ k,k < w.heap.size→w'.heap[k]? =w.heap[k]?) (hsub:∀ b o,ι b o→ι' b o) (hnew:∀ b o,ι' b o→ι b o ∨ (w.heap.size ≤ b ∧ b < w'.heap.size)):Inv cx ι' β T w':=by
 have hcell:∀ b o,ι b o→w'.cell? ⟨b,o,none⟩=w.cell? ⟨b,o,none⟩:=fun b o hb => World.cell?_of_block (w:=w) (hkept b (h.lt b o hb))
 have hR:∀ d y,R ι w (rho β T) d y→R ι' w' (rho β T) d y:=fun d y hd => hd.mono hsub hcell (fun _ _ h => h)
 have lt:∀ t b,getT T t ≠ .none→blockOf (β t)=some b→b < w.heap.size:=by
  intro t b hne hb
  have ho:=h.obj t
  cases hg:getT T t with
  | none => exact absurd hg hne
  | box e c => rw [hg] at ho; obtain⟨b',c,ty,hx,hc,_⟩:=ho; rw [hx] at hb; cases hb; exact (Array.getElem?_eq_some_iff.1 hc).1
  | rows e ety sz rs =>
   rw [hg] at ho; obtain⟨xs,ho,_⟩:=ho
   rcases ho.2 with ⟨hx,_⟩ |⟨g,cap,cur,hx,_,hc,_⟩
   ·rw [hx] at hb; cases hb
   ·rw [hx] at hb; cases hb; exact (Array.getElem?_eq_some_iff.1 hc).1
  | map es => rw [hg] at ho; obtain⟨r,es,cl,hx,hc,_⟩:=ho; rw [hx] at hb; cases hb; exact (Array.getElem?_eq_some_iff.1 hc).1
  | pin s ety sz rs =>
   rw [hg] at ho; obtain⟨_,xs,ho,_⟩:=ho
   rcases ho.2 with ⟨hx,_⟩ |⟨g,cap,cur,hx,_,hc,_⟩
   ·rw [hx] at hb; cases hb
   ·rw [hx] at hb; cases hb; exact (Array.getElem?_eq_some_iff.1 hc).1
  | bytes ys => rw [hg] at ho; obtain⟨r,cap,cur,fz,ety,hx,hc,_⟩:=ho; rw [hx] at hb; cases hb; exact (Array.getElem?_eq_some_iff.1 hc).1
 refine⟨h.gl,hos.trans h.os,htape.trans h.tape,hout.trans h.output,Nat.le_trans h.size hsize,fun k hk hW => (hkept k (Nat.lt_of_lt_of_le hk h.size)).trans (h.kept k hk hW),fun b o hb => hsub _ _ (h.old b o hb),
  fun b o hb => ?_,fun b o hb => ?_,fun u => ?_,h.mine,h.apart⟩
 ·rcases hnew b o hb with h' | h'
  ·exact h.new b o h'
  ·exact .inr (.inl (Nat.le_trans h.size h'.1))
 ·rcases hnew b o hb with h' | h'
  ·exact Nat.lt_of_lt_of_le (h.lt b o h') hsize
  ·exact h'.2
 ·by_cases hn:getT T u=.none
  ·rw [hn]; trivial
  ·exact (h.obj u).keep (fun b hb => hkept b (lt u b hn hb)) hsub (fun b hb o ho => (hnew b o ho).resolve_right (fun h' => by have:=lt u b hn hb; omega)) hcell (fun _ _ _ d _ y hd => hR d y hd)
section
variable {P:Program} {n:Nat} {o:Oper} {σ:St}
def callable (P:Program) (f:Nat):Bool:=
 match P.funcs[f]? with
 | some fn => fn.name != "runtime.NumGoroutine" && fn.body.isSome
 | none => false
theorem run_callFunc {f:Nat} (h:callable P f=true) (args:Array Value) (w:World):(callFunc f args).run P w=.ok (.enter f args) w:=by
 unfold callable at h
 cases hf:P.funcs[f]? with
 | none => simp [hf] at h
 | some fn =>
  simp [hf] at h
  obtain⟨b,hb⟩:=Option.isSome_iff_exists.1 h.2
  simp [callFunc,hf,hb,h.1]
theorem GOk.call {x:Operand} {args:Array Operand} {ts:Array TypeId} {f:Nat} {caps ds:List D} {r:D} (ho:o.op=.call { callee:=.value x,args:=args,argTypes:=ts }) (hx:σ.ev x=.clo f caps)
  (hc:callable P f=true) (hds:(args.toList.map σ.ev) ++ caps=ds) (hf:Fn P f ds [] r []) (hr:r.flat=true):GOk P o σ r:=by
 intro cx ι β a w next Q hi hev hk
 have hxx:=hev x
 rw [hx] at hxx
 obtain⟨vs,hv,hl,hg⟩:=hxx.clo_inv
 have hrun:(execOp a.eval o).run P w=.ok (.enter f (args.map a.eval ++ vs)) w:=by
  simp [execOp,ho,resolve,hv,Deferred.ofValue,invoke,run_callFunc hc]
 unfold Oper.wp
 rw [hrun,Oper.upon_enter]
 subst hds
 have hW:∀ b,¬ Wof β ([]:List (Nat × Ob)) b:=fun b ⟨t,h,_⟩ => h rfl
 have hinv:Inv ⟨w,Wof β [],ι,[]⟩ ι β [] w:=⟨hi.gl0 (fun _ => rfl),rfl,rfl,rfl,Nat.le_refl _,fun _ _ _ => rfl,fun _ _ h => h,fun _ _ h => .inl h,hi.lt,fun _ => trivial,fun _ _ _ => .inl rfl,fun _ _ _ _ _ _ => .inl rfl⟩
 have hρ:∀ d x,rho β σ.T d x→rho β [] d x:=rho_mono fun t => .inl rfl
 refine (hf w ι β _ hinv (by simp [hl]) (fun k d y hd hy => ?_)).mono ?_
 ·by_cases hk:k < args.size
  ·rw [List.getElem?_append_left (by simpa using hk),List.getElem?_map] at hd
   rw [Array.getElem?_append_left (by simpa using hk)] at hy
   simp [hk] at hd hy
   subst hd; subst hy
   exact (hev _).mono (fun _ _ h => h) (fun _ _ _ => rfl) hρ
  ·rw [List.getElem?_append_right (by simpa using Nat.le_of_not_lt hk)] at hd
   rw [Array.getElem?_append_right (by simpa using Nat.le_of_not_lt hk)] at hy
   simp at hd hy
   exact (hg _ _ _ hd hy).mono (fun _ _ h => h) (fun _ _ _ => rfl) hρ
 ·rintro e w' ⟨v,ι',β',rfl,hi',hres⟩
  have hlt:∀ b o,ι' b o→ι b o ∨ (w.heap.size ≤ b ∧ b < w'.heap.size):=fun b o hb => by
   rcases hi'.new b o hb with h | h | h
   ·exact .inl h
   ·exact .inr ⟨h,hi'.lt b o hb⟩
   ·exact absurd h (hW b)
  have hi2:Inv cx ι' β σ.T w':=hi.grow hi'.os hi'.tape hi'.output hi'.size (fun k hk => hi'.kept k hk (hW k)) hi'.old hlt
  exact hk v w' ι' hi2 hi'.old (fun b o hb => World.cell?_of_block (w:=w) (hi'.kept b (hi.lt b o hb) (hW b))) (.pu (hres.flat hr))
def upd (β:Nat→Value) (t:Nat) (x:Value):Nat→Value:=fun u => match Nat.beq u t with | true => x | false => β u
theorem upd_same (β:Nat→Value) (t:Nat) (x:Value):upd β t x t=x:=by simp [upd]
theorem upd_other {β:Nat→Value} {t u:Nat} {x:Value} (h:u ≠ t):upd β t x u=β u:=by
 have:Nat.beq u t=false:=by cases hb:Nat.beq u t with | false => rfl | true => exact absurd (Nat.eq_of_beq_eq_true hb) h
 simp [upd,this]
theorem getT_cons_same (t:Nat) (ob:Ob) (T:List (Nat × Ob)):getT ((t,ob) :: T) t=ob:=by simp [getT]
theorem getT_cons_other {t u:Nat} {ob:Ob} {T:List (Nat × Ob)} (h:u ≠ t):getT ((t,ob) :: T) u=getT T u:=by
 have:Nat.beq t u=false:=by cases hb:Nat.beq t u with | false => rfl | true => exact absurd (Nat.eq_of_beq_eq_true hb).symm h
 simp [getT,this]
theorem rho_other {β:Nat→Value} {T:List (Nat × Ob)} {t:Nat} {y:Value} {ob:Ob} {d:D} {x:Value} (hd:d.names1 t=false) (h:rho β T d x):rho (upd β t y) ((t,ob) :: T) d x:=by
 cases d <;> first | exact h | skip
 all_goals
  simp only [D.names1] at hd
  simp only [rho] at h ⊢
  rw [getT_cons_other (Nat.ne_of_beq_eq_false hd),upd_other (Nat.ne_of_beq_eq_false hd)]
  exact h
structure Goes (ι:Nat→Nat→Prop) (w:World) (ι':Nat→Nat→Prop) (w':World) (tb:Option Nat):Prop where
 os:w'.os=w.os
 tape:w'.tape=w.tape
 output:w'.output=w.output
 size:w.heap.size ≤ w'.heap.size
 kept:∀ k,k < w.heap.size→some k ≠ tb→w'.heap[k]? =w.heap[k]?
 sub:∀ b o,ι b o→ι' b o
 new:∀ b o,ι' b o→ι b o ∨ (w.heap.size ≤ b ∧ b < w'.heap.size) ∨ some b=tb
 cell:∀ b o,ι b o→w'.cell? ⟨b,o,none⟩=w.cell? ⟨b,o,none⟩
theorem Inv.ob {cx ι β T w} (h:Inv cx ι β T w) {w' ι' tb} (t:Nat) (hg:Goes ι w ι' w' tb) {x:Value} {ob:Ob}
  (htb:∀ k,tb=some k→blockOf (β t)=some k ∧ getT T t ≠ .none)
  (hob:ObOk ι' w' (rho (upd β t x) ((t,ob) :: killT t T)) x ob)
  (hmine:∀ b,blockOf x=some b→w.heap.size ≤ b ∨ (blockOf (β t)=some b ∧ getT T t ≠ .none)):Inv cx ι' (upd β t x) ((t,ob) :: killT t T) w':=by
 have alive:getT T t ≠ .none→getT (killT t T) t ≠ .none:=fun hn he => by
  rw [getT_kill] at he
  split at he
  ·cases he
  ·exact hn he
 refine (h.le (Le.kill t ⟨[],T⟩).2).step t tb hg.os hg.tape hg.output hg.size hg.kept (fun k hk =>⟨(htb k hk).1,alive (htb k hk).2⟩) hg.sub hg.new hg.cell (fun u hu => upd_other hu) (fun u hu => .inr (getT_cons_other hu)) ?_ ?_ ?_
 ·intro u e cells hu hc _ d hd y hy
  exact hy.keep1 (killT_clean t hc d hd) hg.sub hg.cell (fun _ _ hd h => rho_other hd h)
 ·rw [upd_same,getT_cons_same]; exact hob
 ·intro b hb
  rw [upd_same] at hb
  rcases hmine b hb with h' |⟨h',h2⟩
  ·exact .inr (.inl h')
  ·exact .inr (.inr ⟨h',alive h2⟩)
theorem fr_ob {ι:Nat→Nat→Prop} {w:World} {β:Nat→Value} {T:List (Nat × Ob)} {fr:List (Nat × D)} {w' ι' tb} (t:Nat) (hg:Goes ι w ι' w' tb) (x:Value) (ob:Ob) (s:Nat) (y:Value)
  (h:R ι w (rho β T) (get fr s) y):R ι' w' (rho (upd β t x) ((t,ob) :: killT t T)) (get (kill t fr) s) y:=by
 have h1:R ι w (rho β (killT t T)) (get (kill t fr) s) y:=((Le.kill t ⟨fr,T⟩).1 s).r (h.mono (fun _ _ h => h) (fun _ _ _ => rfl) (rho_le (Le.kill t ⟨fr,T⟩).2))
 exact h1.keep (kill_clean t fr s) hg.sub hg.cell (fun _ _ hd h => rho_other hd h)
theorem r_ob {ι:Nat→Nat→Prop} {w:World} {β:Nat→Value} {T:List (Nat × Ob)} {w' ι' tb} (t:Nat) (hg:Goes ι w ι' w' tb) (x:Value) (ob:Ob) {d:D} {y:Value}
  (h:R ι w (rho β T) d y) (hd:d.names t=false):R ι' w' (rho (upd β t x) ((t,ob) :: killT t T)) d y:=
 (h.mono (fun _ _ h => h) (fun _ _ _ => rfl) (rho_le (Le.kill t ⟨[],T⟩).2):R ι w (rho β (killT t T)) d y).keep hd hg.sub hg.cell (fun _ _ hd h => rho_other hd h)
def obSt (σ:St) (t:Nat) (ob:Ob):St:=⟨kill t σ.fr,(t,ob) :: killT t σ.T⟩
theorem OpOk.ob {t:Nat} {ob:Ob} {d:D} (hn:dstB n o.dst=true)
  (h:∀ (cx:Cx) (ι:Nat→Nat→Prop) (β:Nat→Value) (a:Act) (w:World),Inv cx ι β σ.T w→(∀ x:Operand,R ι w (rho β σ.T) (σ.ev x) (a.eval x))→
   ∃ v w' ι' x tb,(execOp a.eval o).run P w=.ok (.value v) w' ∧ Goes ι w ι' w' tb ∧ (∀ k,tb=some k→blockOf (β t)=some k ∧ getT σ.T t ≠ .none) ∧
    ObOk ι' w' (rho (upd β t x) ((t,ob) :: killT t σ.T)) x ob ∧ (∀ b,blockOf x=some b→w.heap.size ≤ b ∨ (blockOf (β t)=some b ∧ getT σ.T t ≠ .none)) ∧
    R ι' w' (rho (upd β t x) ((t,ob) :: killT t σ.T)) d v):OpOk P n o σ ((obSt σ t ob).put o.dst d):=
 .step hn fun cx ι β a w hi hr => by
  obtain⟨v,w',ι',x,tb,hv,hg,htb,hob,hm,hd⟩:=h cx ι β a w hi hr
  exact⟨v,w',ι',upd β t x,hv,hi.ob t hg htb hob hm,fun s y hy => fr_ob t hg x ob s y hy,hd⟩
def cellsOf:D→Option (List D)
 | .agg cs => some cs
 | .v x => match x.oneCell' with | true => some [.v x] | false => none
 | .junk | .tup _ => none
 | d => some [d]
theorem R.cells {ι w ρ} {d:D} {x:Value} {cs:List D} (h:R ι w ρ d x) (hc:cellsOf d=some cs) :
  x.cells.size=cs.length ∧ (∀ (k:Nat) y,x.cells[k]? =some y→y.oneCell'=true) ∧ ∀ (k:Nat) d y,cs[k]? =some d→x.cells[k]? =some y→R ι w ρ d y:=by
 have one:∀ {d:D} {x:Value},x.oneCell'=true→R ι w ρ d x→x.cells.size=[d].length ∧ (∀ (k:Nat) y,x.cells[k]? =some y→y.oneCell'=true) ∧ ∀ (k:Nat) d' y,[d][k]? =some d'→x.cells[k]? =some y→R ι w ρ d' y:=by
  intro d x h1 h
  have hx:x.cells=#[x]:=by cases x <;> first | rfl | simp [Value.oneCell'] at h1
  rw [hx]
  refine⟨rfl,fun k y hy => ?_,fun k d' y hd hy => ?_⟩
  ·match k,hy with | 0,hy => cases hy; exact h1
  ·match k,hd,hy with | 0,hd,hy => cases hd; cases hy; exact h
 cases d with
 | agg cells =>
  cases hc
  obtain⟨c,rfl,hl,h1,hg⟩:=h.agg_inv
  exact⟨hl,h1,hg⟩
 | v y =>
  have hy:=h.v_inv
  subst hy
  simp only [cellsOf] at hc
  split at hc
  ·rename_i h1; cases hc; exact one h1 h
  ·cases hc
 | junk => cases hc
 | tup => cases hc
 | list sz rows => cases hc; obtain⟨A,cap,rfl,_⟩:=h.list_inv; exact one rfl h
 | fp c off => cases hc; obtain⟨b,o,f,rfl,_⟩:=h.fp_inv; exact one rfl h
 | clo f caps => cases hc; obtain⟨vs,rfl,_⟩:=h.clo_inv; exact one rfl h
 | clist sz rows => cases hc; cases h with
  | pu h => cases h with | clist _ _ A h => exact one rfl (.pu (.clist _ _ A h))
  | ref h _ _ => simp [D.isRef] at h
 | wlist sz rows room => cases hc; cases h.wl_pu with | wlist _ _ _ A h2 => exact one rfl (.pu (.wlist _ _ _ A h2))
 | _ => cases hc; exact one (h.ref_one rfl) h
theorem OpOk.box {elem:TypeId} {x:Operand} {cells:List D} (t:Nat) (ho:o.op=.box elem x) (hx:cellsOf (σ.ev x)=some cells) (hnm:cells.any (D.names1 t)=false) (hn:dstB n o.dst=true) :
  OpOk P n o σ ((obSt σ t (.box .ex cells)).put o.dst (.bref t 0)):=
 .ob hn fun cx ι β a w hi hr => by
  obtain⟨hl,h1,hg⟩:=(hr x).cells hx
  have hgo:Goes ι w ι (w.alloc (.cells (a.eval x).cells elem)) none:=
   ⟨rfl,rfl,rfl,by simp,fun k hk _ => Below.heap_alloc w _ k hk,fun _ _ h => h,fun _ _ h => .inl h,fun b o hb => World.cell?_alloc_lt w _ _ (hi.lt b o hb)⟩
  refine⟨.pointer (some ⟨w.heap.size,0,none⟩),_,ι,.pointer (some ⟨w.heap.size,0,none⟩),none,by simp [execOp,ho,Instr.box,newVar,newRow],hgo,fun _ h => (by cases h),?_,fun b hb => ?_,?_⟩
  ·refine⟨_,(a.eval x).cells,elem,rfl,heap_alloc_new w _,hl,h1,fun k d y hd hy => ?_,fun _ o ho => by have:=hi.lt _ _ ho; omega,fun h => (by cases h),trivial⟩
   refine r_ob t hgo _ _ (hg k d y hd hy) ?_
   have:d.names1 t=false:=by simp at hnm; exact hnm d (List.mem_of_getElem? hd)
   cases d <;> first | exact this | simp [D.names1] at this
  ·cases hb; exact .inl (Nat.le_refl _)
  ·exact .ref rfl rfl (by simp only [rho,getT_cons_same,upd_same]; exact⟨_,rfl,rfl⟩)
theorem VOk.fieldB {s ft:TypeId} {x:Operand} {f fo m t off:Nat} {e:Ex} {cells:List D} {fs:Array Field} (ho:o.op=.fieldAddr s x f) (ht:P.underlying s=some (.struct fs)) (hf:(fs[f]?).map (fun f => (f.type,f.offset))=some (ft,fo))
  (hz:szOf P ft=some (m + 1)) (hx:σ.ev x=.bref t off) (hb:getT σ.T t=.box e cells):VOk P o σ (.bref t (off + fo)):=
 fun _ _ β ac w _ hr => by
  have hxx:=hr x
  rw [hx] at hxx
  have hrho:=hxx.ref_inv rfl
  simp only [rho,hb] at hrho
  obtain⟨b,hβ,hv⟩:=hrho
  cases hfd:fs[f]? with
  | none => simp [hfd] at hf
  | some fd =>
   rw [hfd] at hf
   simp at hf
   obtain⟨rfl,rfl⟩:=hf
   refine⟨.pointer (some ⟨b,off + fd.offset,none⟩),?_,.ref rfl rfl (by simp only [rho,hb]; exact⟨b,hβ,rfl⟩)⟩
   simp [execOp,ho,hv,Instr.fieldAt,run_underlying ht,hfd,Instr.sureAddr,fieldPlace,run_sizeOf' hz,Addr.add_lit]
theorem box_at {cx ι β w} (hi:Inv cx ι β σ.T w) {t:Nat} {e:Ex} {cells:List D} (hb:getT σ.T t=.box e cells) :
  ∃ b c ty,β t=.pointer (some ⟨b,0,none⟩) ∧ w.heap[b]? =some (.cells c ty (0,0)) ∧ c.size=cells.length ∧
   (∀ (k:Nat) y,c[k]? =some y→y.oneCell'=true) ∧ (∀ (k:Nat) d y,cells[k]? =some d→c[k]? =some y→R ι w (rho β σ.T) d y) ∧
   (e.own=true→∀ o,¬ ι b o) ∧ (e.own=false→(∀ o,o < cells.length→ι b o) ∧ (∀ (k:Nat) d y,cells[k]? =some d→c[k]? =some y→Pu ι w d y)) ∧ e.pin b ty c:=by
 have:=hi.obj t; rw [hb] at this; exact this
theorem VOk.loadB {ty:TypeId} {x:Operand} {t off:Nat} {e:Ex} {cells:List D} {d:D} {dc:TypeDesc} (ho:o.op=.load ty x) (ht:P.underlying ty=some dc) (ha:aggB dc=false) (hx:σ.ev x=.bref t off) (hb:getT σ.T t=.box e cells) (hd:cells[off]? =some d):VOk P o σ d:=
 fun cx ι β ac w hi hr => by
  have hxx:=hr x
  rw [hx] at hxx
  have hrho:=hxx.ref_inv rfl
  simp only [rho,hb] at hrho
  obtain⟨b,hβ,hv⟩:=hrho
  obtain⟨b',c,ty',hβ',hh,hl,_,hg,_⟩:=box_at hi hb
  obtain rfl:b=b':=by rw [hβ] at hβ'; simpa using hβ'
  have hlt:=(List.getElem?_eq_some_iff.1 hd).1
  have hc:c[off]? =some (c[off]'(by omega)):=Array.getElem?_eq_getElem _
  refine⟨_,?_,hg _ _ _ hd hc⟩
  have:w.cell? ⟨b,off,none⟩=some (c[off]'(by omega)):=by simp [World.cell?,hh,hc]
  simp [execOp,ho,hv,Instr.loadAt,Instr.sureAddr,loadVar,run_isAgg' ht,ha,this]
theorem VOk.loadBAgg {ty:TypeId} {x:Operand} {t off sz:Nat} {e:Ex} {cells:List D} {dc:TypeDesc} (ho:o.op=.load ty x) (ht:P.underlying ty=some dc) (ha:aggB dc=true) (hz:szOf P ty=some sz) (hx:σ.ev x=.bref t off) (hb:getT σ.T t=.box e cells)
  (hl:Nat.ble (off + sz) cells.length=true):VOk P o σ (.agg ((cells.drop off).take sz)):=
 fun cx ι β ac w hi hr => by
  have hxx:=hr x
  rw [hx] at hxx
  have hrho:=hxx.ref_inv rfl
  simp only [rho,hb] at hrho
  obtain⟨b,hβ,hv⟩:=hrho
  obtain⟨b',c,ty',hβ',hh,hlen,h1,hg,_⟩:=box_at hi hb
  obtain rfl:b=b':=by rw [hβ] at hβ'; simpa using hβ'
  have hlt:=Nat.le_of_ble_eq_true hl
  have hcell:∀ j,j < sz→w.cell? ⟨b,off + j,none⟩=c[off + j]?:=fun j hj => by simp [World.cell?,hh]
  have hrun:=run_loadCells (P:=P) (w:=w) ⟨b,off,none⟩ sz (fun j => (c[off + j]?).getD undef) (fun j hj => by
   rw [Addr.add_lit,hcell j hj,Array.getElem?_eq_getElem (by omega)]; rfl)
  refine⟨.agg ((Array.range sz).map fun j => (c[off + j]?).getD undef),?_,?_⟩
  ·simp [execOp,ho,hv,Instr.loadAt,Instr.sureAddr,loadVar,run_isAgg' ht,ha,run_sizeOf' hz,hrun]
   rw [← Array.toList_inj]; simp [Array.toList_range]
  ·have at_:∀ k,k < sz→∃ y,c[off + k]? =some y:=fun k hk =>⟨_,Array.getElem?_eq_getElem (by omega)⟩
   refine .agg _ _ (by simp; omega) (fun k y hy => ?_) (fun k d y hk hy => ?_)
   ·simp only [Array.getElem?_map,Array.getElem?_range] at hy
    split at hy
    ·rename_i h2; obtain⟨z,hz⟩:=at_ k h2; simp [hz] at hy; subst hy; exact h1 _ _ hz
    ·simp at hy
   ·simp only [Array.getElem?_map,Array.getElem?_range] at hy
    split at hy
    ·rename_i h2
     obtain⟨z,hz⟩:=at_ k h2
     simp [hz] at hy; subst hy
     rw [List.getElem?_take,if_pos h2,List.getElem?_drop] at hk
     exact hg _ _ _ hk hz
    ·simp at hy
theorem VOk.nilCheckB {x:Operand} {t off:Nat} {e:Ex} {cells:List D} (ho:o.op=.nilCheck x) (hx:σ.ev x=.bref t off) (hb:getT σ.T t=.box e cells):VOk P o σ (.bref t off):=
 fun _ _ β ac w _ hr => by
  have hxx:=hr x
  rw [hx] at hxx
  have hrho:=hxx.ref_inv rfl
  have h2:=hrho
  simp only [rho,hb] at hrho
  obtain⟨b,hβ,hv⟩:=hrho
  exact⟨.pointer (some ⟨b,off,none⟩),by simp [execOp,ho,hv],.ref rfl rfl (hv ▸ h2)⟩
end
end Go.Proofs.Vx
