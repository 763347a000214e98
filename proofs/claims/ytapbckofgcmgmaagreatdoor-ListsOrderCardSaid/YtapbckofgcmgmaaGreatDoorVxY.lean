import Derived.Test.YtapbckofgcmgmaaGreatDoorVxX
namespace Go.Proofs.Vx
open Go Go.RowKit
set_option linter.unusedSectionVars false
variable [Glo]
def OpsC (P:Program) (n:Nat) (ops:Array Oper) (l:List Oper) (σ:St) (Φ:St→Prop):Prop:=
 ∀ cx a w Q,Sim cx n σ a w→(∀ σ' a' w',Φ σ'→Sim cx n σ' a' w'→Q Exit.normal a' w')→wpList P ops Q l a w
section
variable {P:Program} {n:Nat} {ops:Array Oper} {l:List Oper} {σ σ₁ σ':St} {o:Oper} {Φ:St→Prop}
theorem OpsC.cons (hg:o.guard=none) (h:OpOk P n o σ σ₁) (hl:OpsC P n ops l σ₁ Φ):OpsC P n ops (o :: l) σ Φ:=fun cx a w Q hs hq => by
 unfold wpList
 rw [if_pos (by simp [Region.wanted,hg])]
 exact .inl (h cx a w _ _ hs fun a' w' hs' => hl cx a' w' Q hs' hq)
theorem OpsC.sle (hl:SLe σ' σ) (h:OpsC P n ops l σ' Φ):OpsC P n ops l σ Φ:=fun cx a w Q hs hq => h cx a w Q (hl _ _ _ _ hs) hq
theorem OpsC.cut (hl:Le σ σ') (h:OpsC P n ops l σ Φ):OpsC P n ops l σ' Φ:=.sle hl.s h
theorem OpsC.frzL {α:Type} (t:Nat) {ety sz:Nat} {e:α→List D} {xs:List α} (hb:getT σ.T t=.rows true ety sz (xs.map e)) (h:OpsC P n ops l ⟨subFr t (toList sz (xs.map e)) σ.fr,subT t (toList sz (xs.map e)) σ.T⟩ Φ):OpsC P n ops l σ Φ:=
 fun cx a w Q hs hq => h cx a w Q (hs.frzRows hb) hq
theorem OpsC.done (hl:Le σ' σ) (h:Φ σ'):OpsC P n ops [] σ Φ:=fun _ _ _ _ hs hq => hq _ _ _ h (hs.le hl)
theorem OpsC.doneS (hl:SLe σ' σ) (h:Φ σ'):OpsC P n ops [] σ Φ:=fun _ _ _ _ hs hq => hq _ _ _ h (hl _ _ _ _ hs)
theorem Ok.regionC {Ψ:Exit→St→Prop} {id:Nat} (h:OpsC P n ops ops.toList σ (Ψ .normal)):Ok P n (.region id ops false) σ Ψ:=fun cx a w Q hs hq =>
 wp_region_list (h cx a w Q hs fun _ _ _ hk hs' => hq _ _ _ _ hk hs')
theorem Ok.sle {c:Code} {Ψ:Exit→St→Prop} (hl:SLe σ' σ) (h:Ok P n c σ' Ψ):Ok P n c σ Ψ:=fun cx a w Q hs hq => h cx a w Q (hl _ _ _ _ hs) hq
theorem OpsOk.sle {σ2:St} (hl:SLe σ' σ) (h:OpsOk P n ops l σ' σ2):OpsOk P n ops l σ σ2:=fun cx a w Q hs hq => h cx a w Q (hl _ _ _ _ hs) hq
theorem VOk.pickF {c x y:Operand} {b:Bool} {d:D} (ho:o.op=.pick c x y) (hc:σ.ev c=.v (.bool b)) (hb:b=false) (hy:σ.ev y=d):VOk P o σ d:=
 fun _ _ _ a _ _ hr =>⟨a.eval y,by subst hb; simp [execOp,ho,ev_v hr hc,asBool],hy ▸ hr y⟩
end
theorem SLe.adopt {fr:List (Nat × D)} {T:List (Nat × Ob)} {e:Ex} {cells:List D} (t u i ety sz:Nat) (hb:getT T t=.box e cells) (hi:cells[i]? =some (.v (.slice none 0 0))) (he:e.own=true) (htu:Nat.beq t u=false) (hcl:cells.all (fun d => !d.names1 u)=true) :
  SLe ⟨kill u fr,(t,.box e (cells.set i (.sref u))) :: (u,.rows true ety sz []) :: killT u T⟩ ⟨fr,T⟩:=by
 have htu:=Nat.ne_of_beq_eq_false htu
 intro cx n a w hs
 have hs0:=hs.le (Le.kill u ⟨fr,T⟩)
 obtain⟨⟨ι,β,hinv,hr⟩,hsz,hdf⟩:=hs0
 let T0:=killT u T
 let T2:List (Nat × Ob):=(t,.box e (cells.set i (.sref u))) :: (u,.rows true ety sz []) :: T0
 have hb0:getT T0 t=.box e cells:=by
  have hk:=getT_kill u T t
  rw [hb] at hk
  have:(cells.map fun d => match d.names1 u with | true => D.junk | false => d)=cells:=by
   conv => rhs; rw [← List.map_id cells]
   refine List.map_congr_left fun d hd => ?_
   have:=List.all_eq_true.1 hcl d hd
   simp only [Bool.not_eq_true'] at this
   rw [this]; rfl
  exact hk.trans (congrArg (Ob.box e) this)
 let β2:=upd β u (.slice none 0 0)
 have gt:getT T2 t=.box e (cells.set i (.sref u)):=getT_cons_same _ _ _
 have gu:getT T2 u=.rows true ety sz []:=by
  show getT ((t,_) :: (u,_) :: T0) u=_
  rw [getT_cons_other (Ne.symm htu),getT_cons_same]
 have go:∀ v,v ≠ t→v ≠ u→getT T2 v=getT T0 v:=fun v h1 h2 => by
  show getT ((t,_) :: (u,_) :: T0) v=_
  rw [getT_cons_other h1,getT_cons_other h2]
 have bu:β2 u=.slice none 0 0:=upd_same _ _ _
 have bo:∀ v,v ≠ u→β2 v=β v:=fun v h => upd_other h
 have hρ:∀ d x,d.names1 u=false→rho β T0 d x→rho β2 T2 d x:=by
  intro d x hd h
  cases d with
  | bref v off =>
   have hv:=Nat.ne_of_beq_eq_false hd
   by_cases ht:v=t
   ·subst ht; simp only [rho,hb0] at h; simp only [rho,gt,bo v hv]; exact h
   ·simp only [rho,go v ht hv,bo v hv]; exact h
  | sref v =>
   have hv:=Nat.ne_of_beq_eq_false hd
   by_cases ht:v=t
   ·subst ht; simp only [rho,hb0] at h
   ·simp only [rho,go v ht hv,bo v hv]; exact h
  | eref v j off =>
   have hv:=Nat.ne_of_beq_eq_false hd
   by_cases ht:v=t
   ·subst ht; simp only [rho,hb0] at h; simp only [rho,gt,bo v hv]; exact h
   ·simp only [rho,go v ht hv,bo v hv]; exact h
  | mref v =>
   have hv:=Nat.ne_of_beq_eq_false hd
   by_cases ht:v=t
   ·subst ht; simp only [rho,hb0] at h
   ·simp only [rho,go v ht hv,bo v hv]; exact h
  | _ => exact h
 obtain⟨b,c,ty,hβ,hh,hl,h1,hrr,hex,hsh,hat⟩:=box_at (σ:=⟨[],T0⟩) hinv hb0
 have hi2:Inv cx ι β2 T2 w:=by
  refine hinv.multi (fun v => v=t ∨ v=u) (fun b' => b'=b) (fun b' hb' =>⟨t,.inl rfl,by rw [hb0]; exact fun h => (by cases h),by rw [hβ,hb']; rfl⟩) rfl rfl rfl (Nat.le_refl _) (fun _ _ _ => rfl) (fun _ _ h => h) (fun _ _ h => .inl h) (fun _ _ _ => rfl)
   (fun v hv => bo v (fun h => hv (.inr h))) (fun v hv => .inr (go v (fun h => hv (.inl h)) (fun h => hv (.inr h)))) (fun v e2 cs hv hg _ d hd y hy => hy.keep1 (killT_clean u hg d hd) (fun _ _ h => h) (fun _ _ _ => rfl) hρ) (fun v hv => ?_) (fun v b' hv hb' => ?_) (fun v v' b' hv hv' hvv hb1 hb2 => ?_)
  ·rcases hv with rfl | rfl
   ·rw [gt,bo v htu]
    refine⟨b,c,ty,hβ,hh,by simp [hl],h1,fun k d y hd hy => ?_,hex,fun h => (by rw [he] at h; cases h),hat⟩
    by_cases hk:i=k
    ·subst hk
     have hlt:i < cells.length:=(List.getElem?_eq_some_iff.1 hi).1
     rw [List.getElem?_set_self hlt] at hd
     cases hd
     have hy0:=(hrr i _ y hi hy).v_inv
     subst hy0
     exact .ref rfl rfl (by simp only [rho,gu,bu])
    ·rw [List.getElem?_set_ne hk] at hd
     have hnd:=List.all_eq_true.1 hcl d (List.mem_of_getElem? hd)
     simp only [Bool.not_eq_true'] at hnd
     exact (hrr k d y hd hy).keep1 hnd (fun _ _ h => h) (fun _ _ _ => rfl) hρ
   ·rw [gu,bu]
    exact⟨[],World.ownsRow_nil w 0 ety sz,fun r hr => (by cases hr),fun y hy => (by cases hy),fun k d y hd => (by simp at hd),fun b hb => (by cases hb)⟩
  ·rcases hv with rfl | rfl
   ·rw [bo v htu,hβ] at hb'; cases hb'; exact .inr (.inr rfl)
   ·rw [bu] at hb'; cases hb'
  ·rcases hv with rfl | rfl
   ·rcases hv' with rfl | rfl
    ·exact absurd rfl hvv
    ·rw [bu] at hb2; cases hb2
   ·rw [bu] at hb1; cases hb1
 exact⟨⟨ι,β2,hi2,fun s => (hr s).keep (kill_clean u fr s) (fun _ _ h => h) (fun _ _ _ => rfl) hρ⟩,hsz,hdf⟩
section
variable {P:Program} {n:Nat} {o:Oper} {σ:St}
end
end Go.Proofs.Vx
