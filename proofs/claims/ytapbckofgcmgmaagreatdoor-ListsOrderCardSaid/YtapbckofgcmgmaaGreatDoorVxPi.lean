import Derived.Test.YtapbckofgcmgmaaGreatDoorVxCg
namespace Go.Proofs.Vx
open Go Go.RowKit
set_option linter.unusedSectionVars false
variable [Glo]
section
variable {P:Program} {n:Nat} {ops:Array Oper} {l:List Oper} {σ:St} {c:Code} {Φ:Exit→St→Prop}
end
theorem rho_unpin {β:Nat→Value} {T:List (Nat × Ob)} {t:Nat} {s:Value} {ety sz:Nat} {rows:List (List D)} (hb:getT T t=.pin s ety sz rows) {d:D} {x:Value} (h:rho β T d x):rho β ((t,.rows true ety sz rows) :: T) d x:=by
 cases d with
 | bref u off =>
  simp only [rho] at h ⊢
  by_cases hu:u=t
  ·subst hu; rw [hb] at h; exact h.elim
  ·rw [getT_cons_other hu]; exact h
 | sref u =>
  simp only [rho] at h ⊢
  by_cases hu:u=t
  ·subst hu; rw [getT_cons_same]; rw [hb] at h; exact h
  ·rw [getT_cons_other hu]; exact h
 | eref u i off =>
  simp only [rho] at h ⊢
  by_cases hu:u=t
  ·subst hu; rw [hb] at h; exact h.elim
  ·rw [getT_cons_other hu]; exact h
 | mref u =>
  simp only [rho] at h ⊢
  by_cases hu:u=t
  ·subst hu; rw [hb] at h; exact h.elim
  ·rw [getT_cons_other hu]; exact h
 | _ => exact h
theorem SLe.unpin {fr:List (Nat × D)} {T:List (Nat × Ob)} {s:Value} {ety sz:Nat} {rows:List (List D)} (t:Nat) (hb:getT T t=.pin s ety sz rows):SLe ⟨fr,(t,.rows true ety sz rows) :: T⟩ ⟨fr,T⟩:=by
 intro cx n a w ⟨⟨ι,β,hi,hr⟩,hsz,hdf⟩
 have hρ:∀ d x,rho β T d x→rho β ((t,.rows true ety sz rows) :: T) d x:=fun d x h => rho_unpin hb h
 have hg:∀ u,getT ((t,.rows true ety sz rows) :: T) u=.none ↔ getT T u=.none:=fun u => by
  by_cases hu:u=t
  ·subst hu; rw [getT_cons_same,hb]; constructor <;> (intro h; cases h)
  ·rw [getT_cons_other hu]
 refine⟨⟨ι,β,⟨hi.gl,hi.os,hi.tape,hi.output,hi.size,hi.kept,hi.old,hi.new,hi.lt,fun u => ?_,fun u b hb2 => ?_,fun u v b huv hb1 hb2 => ?_⟩,fun s => (hr s).mono (fun _ _ h => h) (fun _ _ _ => rfl) hρ⟩,hsz,hdf⟩
 ·by_cases hu:u=t
  ·subst hu
   rw [getT_cons_same]
   have:=hi.obj u
   rw [hb] at this
   exact ObOk.mono (ρ:=fun _ _ => False) (o:=.rows true ety sz rows) this.pin_rows.2 (fun _ _ => rfl) (fun _ _ h => h) (fun _ _ _ h => h) (fun _ _ _ => rfl) (fun _ _ h => h.elim)
  ·rw [getT_cons_other hu]; exact (hi.obj u).mono (fun _ _ => rfl) (fun _ _ h => h) (fun _ _ _ h => h) (fun _ _ _ => rfl) hρ
 ·exact (hi.mine u b hb2).imp (hg u).2 id
 ·exact (hi.apart u v b huv hb1 hb2).imp (hg u).2 (hg v).2
theorem pin_value {cx ι β T w} (hi:Inv cx ι β T w) {t:Nat} {s:Value} {ety sz:Nat} {rows:List (List D)} (hb:getT T t=.pin s ety sz rows):β t=s ∧ s.oneCell'=true:=by
 have:=hi.obj t
 rw [hb] at this
 obtain⟨h,xs,hown,_⟩:=this
 refine⟨h,?_⟩
 rw [← h]
 rcases hown.2 with ⟨h2,_⟩ |⟨g,cap,cur,h2,_⟩ <;> rw [h2] <;> rfl
theorem SLe.vref {fr:List (Nat × D)} {T:List (Nat × Ob)} {s:Value} {ety sz:Nat} {rows:List (List D)} {cells:List D} (k i t:Nat) (hk:get fr k=.agg cells) (hi:cells[i]? =some (.v s)) (hb:getT T t=.pin s ety sz rows):SLe ⟨(k,.agg (cells.set i (.sref t))) :: fr,T⟩ ⟨fr,T⟩:=by
 intro cx n a w ⟨⟨ι,β,hinv,hr⟩,hsz,hdf⟩
 refine⟨⟨ι,β,hinv,fun u => ?_⟩,hsz,hdf⟩
 show R ι w (rho β T) (get ((k,.agg (cells.set i (.sref t))) :: fr) u) _
 rw [get_cons]
 split
 ·rename_i hu
  subst hu
  have h:=hr k
  rw [show get fr k=_ from hk] at h
  obtain⟨cs,hx,hl,h1,hg⟩:=h.agg_inv
  rw [hx]
  refine .agg _ cs (by simpa using hl) h1 (fun j d y hd hy => ?_)
  by_cases hj:i=j
  ·subst hj
   rw [List.getElem?_set_self (List.getElem?_eq_some_iff.1 hi).1] at hd
   cases hd
   have:=(hg i _ y hi hy).v_inv
   subst this
   obtain⟨hv,h1'⟩:=pin_value hinv hb
   exact .ref rfl h1' (by simp only [rho,hb]; exact hv.symm)
  ·rw [List.getElem?_set_ne hj] at hd
   exact hg j d y hd hy
 ·exact hr u
theorem SLe.drop {fr:List (Nat × D)} {T:List (Nat × Ob)} (t:Nat):SLe ⟨fr,(t,.none) :: T⟩ ⟨fr,T⟩:=
 Le.s ⟨fun _ => .same _,fun u => by
  show ObLe (getT ((t,.none) :: T) u) _
  by_cases hu:u=t
  ·subst hu; rw [getT_cons_same]; exact .none _
  ·rw [getT_cons_other hu]; exact .same _⟩
section
variable {P:Program} {n:Nat} {o:Oper} {σ:St}
end
end Go.Proofs.Vx
