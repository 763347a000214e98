import Derived.Test.YtapbckofgcmgmaaGreatDoorVxTa
import Derived.Test.YtapbckofgcmgmaaGreatDoorVxN
import Derived.Lib.SplitLaws
import Derived.Shelf.Vars
import Derived.HandedShaped
import Derived.Lib.LaidTab
import Derived.Sort.Grow
import Derived.Deep.Draws
set_option linter.unusedVariables false
namespace Go.Proofs.Vx
open Go Go.RowKit
@[reducible] def Glo.vars (P:Program) (l:List Nat) (tabs:List (Nat × String × IntKind × List Int)):Glo where
 holds w:=(∀ g ∈ l,∃ m,w.cell? ⟨g,0,none⟩=some (.int .i64 m)) ∧ ∀ t ∈ tabs,P.globalNamed t.2.1=some t.1 ∧ Lib.TabIs P w t.2.1 t.2.2.1 t.2.2.2
 bl b:=b ∈ l ∨ ∃ t ∈ tabs,t.1=b
 keep w w' h hh:=⟨fun g hg => let ⟨m,hm⟩:=hh.1 g hg; ⟨m,(World.cell?_of_block (w:=w) (h g (.inl hg))).trans hm⟩,fun t ht =>⟨(hh.2 t ht).1,by
  have h2:=(hh.2 t ht).2
  unfold Lib.TabIs World.var? at h2 ⊢
  rw [(hh.2 t ht).1] at h2 ⊢
  simp only [Option.bind_some] at h2 ⊢
  rw [h t.1 (.inr ⟨t,ht,rfl⟩)]
  exact h2⟩⟩
theorem Glo.vars_lt {P:Program} {l:List Nat} {tabs:List (Nat × String × IntKind × List Int)} {w:World} (h:(Glo.vars P l tabs).holds w):∀ b,(Glo.vars P l tabs).bl b→b < w.heap.size:=by
 rintro b (hb |⟨t,ht,rfl⟩)
 ·obtain⟨_,hm⟩:=h.1 b hb; exact World.block_lt_of_cell? _ _ hm
 ·obtain⟨h1,h2⟩:=h.2 t ht
  unfold Lib.TabIs World.var? at h2
  rw [h1] at h2
  simp only [Option.bind_some] at h2
  rcases Nat.lt_or_ge t.1 w.heap.size with h' | h'
  ·exact h'
  ·rw [Array.getElem?_eq_none h'] at h2; cases h2
theorem below_drewN (w:World) (k:Nat):Below w.heap.size w (w.drewN k):=⟨rfl,rfl,rfl,Nat.le_refl _,fun _ _ => rfl⟩
theorem handed_and_shaped {H:Type} {enc:TypeId × Value→H} {a:Assume} {C:Checked} {os:Os} {f:FuncId} {fn:Func} {s:ChangeSpec} {conds:List PathCond} {apart fresh handsOn again:Bool} {X:World→Array Value→Prop}
  (hX:∀ (w w':World) (args:Array Value),w.heap=w'.heap→X w args→X w' args)
  (own:ownKnob C.prog.godebug=none) (started:os.Started) (noInit:C.prog.inits.idxOf? f=none) (hfn:C.prog.funcs[f]? =some fn)
  (witness:∃ (w:World) (tape:Tape) (i:Input),w.os=os ∧ (w.forCall tape i).Shaped C.prog ∧ i.vars=[] ∧ Input.okWide C.prog (w.forCall tape i) .any w.heap.size f i ∧
   ((s.pre enc C.prog fn conds apart (w.forCall tape i).memory i.args ∧ X (w.forCall tape i).memory i.args) ∧ sizedMet enc C.prog fn (OpenSpec.ofChange s) apart (w.forCall tape i).memory i.args) ∧ a.holds C.prog (lone (Frame.enter C.prog f i.args .normal) [] (w.forCall tape i)))
  (contract:∀ (W:World) (base:Nat) (args:Array Value) (ds gs:List (DataW H)) (before:List MemPlace),
   (∀ (j:Nat) t v,fn.params[j]? =some t→args[j]? =some v→Value.okWide C.prog W .any base t v)→
   DataW.Whole enc C.prog fn.params.toList s.vars apart W args.toList ds gs before→
   conds.all (PathCond.test C.prog ⟨fn.params.toList,ds,s.plain.varTypes C.prog,gs⟩)=true→
   (DataW.weightsEach C.prog (fn.params.toList ++ s.plain.varTypes C.prog) (ds ++ gs)).all (· ≤ reachBytes)=true→X W args→W.ShapedOpen C.prog→
   a.holds C.prog (lone (Frame.enter C.prog f args .normal) [] W)→
   Calls C.prog f args W fun e W' => ∃ v,e=.returned v ∧ s.post enc C.prog fn apart fresh handsOn again W args v W') :
  ReturnsInHanded a C os f .any (fun w args => (s.pre enc C.prog fn conds apart w args ∧ X w args) ∧ sizedMet enc C.prog fn (OpenSpec.ofChange s) apart w args) (s.post enc C.prog fn apart fresh handsOn again):=by
 refine returnsInHanded_of_calls own started noInit witness ?_
 intro w tape i _ hsh _ hok hpre hholds
 obtain⟨_,_,_,fn',hfn',_,_,_,_,hval⟩:=hok
 have e:fn'=fn:=Option.some.inj (hfn'.symm.trans hfn)
 subst e
 obtain⟨⟨⟨ds,gs,before,hw,hc⟩,hx⟩,hz⟩:=hpre
 have hw':=DataW.Whole.of_heap (w':=w.forCall tape i) (by rfl) hw
 refine (contract (w.forCall tape i) w.heap.size i.args ds gs before hval hw' hc (hz.weights hw) (hX _ _ _ (by rfl) hx) hsh hholds).mono fun e W' ⟨v,he,hp⟩ => ?_
 subst he
 exact ChangeSpec.post_blind hp
set_option linter.unusedSectionVars false
variable [Glo]
section
variable {P:Program} {n:Nat} {o:Oper} {σ:St}
theorem run_ext {x:Operand} {args:Array Operand} {ts:Array TypeId} {f:Nat} {us:List Value} (ho:o.op=.call { callee:=.value x,args:=args,argTypes:=ts }) (hx:σ.ev x=.clo f []) (hc:callable P f=true) (ha:args.toList.map σ.ev=us.map .v)
  {ι:Nat→Nat→Prop} {w:World} {ρ:D→Value→Prop} {a:Act} (hev:∀ x:Operand,R ι w ρ (σ.ev x) (a.eval x)):(execOp a.eval o).run P w=.ok (.enter f us.toArray) w:=by
 have hxx:=hev x
 rw [hx] at hxx
 obtain⟨vs,hv,hl,_⟩:=hxx.clo_inv
 obtain rfl:vs=#[]:=Array.eq_empty_of_size_eq_zero (by simpa using hl)
 have harg:args.map a.eval=us.toArray:=by
  have hl2:args.size=us.length:=by have:=congrArg List.length ha; simpa using this
  apply Array.ext
  ·simpa using hl2
  ·intro i h1 h2
   have h3:(args.toList.map σ.ev)[i]? =(us.map D.v)[i]?:=by rw [ha]
   have hi1:i < args.size:=by simpa using h1
   have hi2:i < us.length:=by simpa using h2
   simp only [List.getElem?_map,Array.getElem?_toList,Array.getElem?_eq_getElem hi1,List.getElem?_eq_getElem hi2,Option.map_some,Option.some.injEq] at h3
   have h4:=hev args[i]
   rw [h3] at h4
   simp [h4.v_inv]
 simp [execOp,ho,resolve,hv,Deferred.ofValue,invoke,run_callFunc hc,harg]
theorem GOk.extB {x:Operand} {args:Array Operand} {ts:Array TypeId} {f:Nat} {us:List Value} {v:Value} {d:D} (ho:o.op=.call { callee:=.value x,args:=args,argTypes:=ts }) (hx:σ.ev x=.clo f []) (hc:callable P f=true) (ha:args.toList.map σ.ev=us.map .v)
  (hd:∀ ι w,Pu ι w d v) (hs:∀ w:World,Glo.holds w→Calls P f us.toArray w fun e w' => e=.returned v ∧ Below w.heap.size w w'):GOk P o σ d:=by
 intro cx ι β a w next Q hi hev hk
 unfold Oper.wp
 rw [run_ext ho hx hc ha hev,Oper.upon_enter]
 refine (hs w hi.glW).mono ?_
 rintro e w' ⟨rfl,hb⟩
 exact hk v _ ι (hi.grow hb.os hb.tape hb.output hb.size (fun k hk => hb.block k hk) (fun _ _ h => h) (fun _ _ h => .inl h)) (fun _ _ h => h) (fun b o h => World.cell?_of_block (w:=w) (hb.block b (hi.lt b o h))) (.pu (hd _ _))
theorem cut_pu (a b:Str) (c:Bool) {ι:Nat→Nat→Prop} {w:World}:Pu ι w (.tup [S a,S b,.v (.bool c)]) (.tuple #[.string (ba a),.string (ba b),.bool c]):=
 .tup _ _ rfl fun k d x hd hx => by
  match k,hd,hx with
  | 0,hd,hx => cases hd; cases hx; exact .v _
  | 1,hd,hx => cases hd; cases hx; exact .v _
  | 2,hd,hx => cases hd; cases hx; exact .v _
end
end Go.Proofs.Vx
