import Derived.Test.YtapbckofgcmgmaaGreatDoorVxH
namespace Go.Proofs.Vx
open Go Go.RowKit
set_option linter.unusedSectionVars false
variable [Glo]
def D.sub1 (t:Nat) (g:D→D):D→D
 | .bref u off => match Nat.beq u t with | true => g (.bref u off) | false => .bref u off
 | .sref u => match Nat.beq u t with | true => g (.sref u) | false => .sref u
 | .eref u i off => match Nat.beq u t with | true => g (.eref u i off) | false => .eref u i off
 | .mref u => match Nat.beq u t with | true => g (.mref u) | false => .mref u
 | .junk => .junk
 | .v x => .v x
 | .list sz r => .list sz r
 | .fp c o => .fp c o
 | .clist sz r => .clist sz r
 | .wlist sz r q => .wlist sz r q
 | _ => .junk
def D.sub2 (t:Nat) (g:D→D):D→D
 | .agg cells => .agg (cells.map (D.sub1 t g))
 | .clo f caps => .clo f (caps.map (D.sub1 t g))
 | d => d.sub1 t g
def D.sub (t:Nat) (g:D→D):D→D
 | .tup ds => .tup (ds.map (D.sub2 t g))
 | d => d.sub2 t g
def subFr (t:Nat) (g:D→D) (fr:List (Nat × D)):List (Nat × D):=fr.map fun p => (p.1,p.2.sub t g)
def subT (t:Nat) (g:D→D) (T:List (Nat × Ob)):List (Nat × Ob):=(t,.none) :: T.map fun p => (p.1,match p.2 with
 | .box e cells => .box e (cells.map (D.sub1 t g))
 | o => o)
theorem get_sub (t:Nat) (g:D→D):∀ (fr:List (Nat × D)) (s:Nat),get (subFr t g fr) s=(get fr s).sub t g
 | [],s => rfl
 | (u,d) :: r,s => by
  simp only [subFr,List.map_cons,get]
  cases Nat.beq u s with
  | true => rfl
  | false => exact get_sub t g r s
theorem getT_sub {t u:Nat} (g:D→D) {T:List (Nat × Ob)} (h:u ≠ t):getT (subT t g T) u=match getT T u with | .box e cells => .box e (cells.map (D.sub1 t g)) | o => o:=by
 rw [subT,getT_cons_other h]
 induction T with
 | nil => rfl
 | cons p T ih =>
  obtain⟨v,o⟩:=p
  simp only [List.map_cons,getT]
  cases Nat.beq v u with
  | true => rfl
  | false => exact ih
section
variable {ι ι':Nat→Nat→Prop} {w:World} {β:Nat→Value} {T:List (Nat × Ob)} {t:Nat} {g:D→D}
structure Turns (ι:Nat→Nat→Prop) (w:World) (β:Nat→Value) (T:List (Nat × Ob)) (t:Nat) (g:D→D) (ι':Nat→Nat→Prop):Prop where
 sub:∀ b o,ι b o→ι' b o
 ref:∀ d x,d.isRef=true→d.names1 t=true→rho β T d x→Pu ι' w (g d) x
theorem rho_sub (d:D) (x:Value) (hd:d.names1 t=false) (h:rho β T d x):rho β (subT t g T) d x:=by
 cases d with
 | bref u off =>
  have hu:=Nat.ne_of_beq_eq_false hd
  simp only [rho] at h ⊢; rw [getT_sub g hu]; cases hg:getT T u <;> rw [hg] at h <;> exact h
 | sref u =>
  have hu:=Nat.ne_of_beq_eq_false hd
  simp only [rho] at h ⊢; rw [getT_sub g hu]; cases hg:getT T u <;> rw [hg] at h <;> exact h
 | eref u i off =>
  have hu:=Nat.ne_of_beq_eq_false hd
  simp only [rho] at h ⊢; rw [getT_sub g hu]; cases hg:getT T u <;> rw [hg] at h <;> exact h
 | mref u =>
  have hu:=Nat.ne_of_beq_eq_false hd
  simp only [rho] at h ⊢; rw [getT_sub g hu]; cases hg:getT T u <;> rw [hg] at h <;> exact h
 | _ => exact h
theorem Turns.r1 (ht:Turns ι w β T t g ι') {d:D} {x:Value} (h:R ι w (rho β T) d x):R ι' w (rho β (subT t g T)) (d.sub1 t g) x:=by
 have go:∀ {d:D},d.isRef=true→R ι w (rho β T) d x→(d.names1 t=true→d.sub1 t g=g d)→(d.names1 t=false→d.sub1 t g=d)→R ι' w (rho β (subT t g T)) (d.sub1 t g) x:=by
  intro d hd h h1 h2
  cases hn:d.names1 t with
  | true => rw [h1 hn]; exact .pu (ht.ref d x hd hn (h.ref_inv hd))
  | false => rw [h2 hn]; exact .ref hd (h.ref_one hd) (rho_sub d x hn (h.ref_inv hd))
 cases d with
 | bref u off => exact go rfl h (fun h => by simp only [D.names1] at h; simp [D.sub1,h]) (fun h => by simp only [D.names1] at h; simp [D.sub1,h])
 | sref u => exact go rfl h (fun h => by simp only [D.names1] at h; simp [D.sub1,h]) (fun h => by simp only [D.names1] at h; simp [D.sub1,h])
 | eref u i off => exact go rfl h (fun h => by simp only [D.names1] at h; simp [D.sub1,h]) (fun h => by simp only [D.names1] at h; simp [D.sub1,h])
 | mref u => exact go rfl h (fun h => by simp only [D.names1] at h; simp [D.sub1,h]) (fun h => by simp only [D.names1] at h; simp [D.sub1,h])
 | junk => exact .junk _
 | v y => rw [h.v_inv]; exact .v _
 | list sz r => exact .pu (h.list_pu.mono ht.sub (fun _ _ _ => rfl))
 | fp c o => exact .pu ((h.flat1 rfl).mono ht.sub (fun _ _ _ => rfl))
 | clist c o => exact .pu ((h.flat1 rfl).mono ht.sub (fun _ _ _ => rfl))
 | wlist c o q => exact .pu ((h.flat1 rfl).mono ht.sub (fun _ _ _ => rfl))
 | agg c => exact .junk _
 | tup c => exact .junk _
 | clo f c => exact .junk _
theorem Turns.r2 (ht:Turns ι w β T t g ι') {d:D} {x:Value} (h:R ι w (rho β T) d x):R ι' w (rho β (subT t g T)) (d.sub2 t g) x:=by
 cases d with
 | agg cells =>
  obtain⟨cs,rfl,hl,h1,hg⟩:=h.agg_inv
  refine .agg _ cs (by simp [hl]) h1 (fun k d y hd hy => ?_)
  rw [List.getElem?_map,Option.map_eq_some_iff] at hd
  obtain⟨d0,h0,rfl⟩:=hd
  exact ht.r1 (hg k d0 y h0 hy)
 | clo f caps =>
  obtain⟨vs,rfl,hl,hg⟩:=h.clo_inv
  refine .clo f _ vs (by simp [hl]) (fun k d y hd hy => ?_)
  rw [List.getElem?_map,Option.map_eq_some_iff] at hd
  obtain⟨d0,h0,rfl⟩:=hd
  exact ht.r1 (hg k d0 y h0 hy)
 | _ => exact ht.r1 h
theorem Turns.r (ht:Turns ι w β T t g ι') {d:D} {x:Value} (h:R ι w (rho β T) d x):R ι' w (rho β (subT t g T)) (d.sub t g) x:=by
 cases d with
 | tup ds =>
  obtain⟨vs,rfl,hl,hg⟩:=h.tup_inv
  refine .tup _ vs (by simp [hl]) (fun k d y hd hy => ?_)
  rw [List.getElem?_map,Option.map_eq_some_iff] at hd
  obtain⟨d0,h0,rfl⟩:=hd
  exact ht.r2 (hg k d0 y h0 hy)
 | _ => exact ht.r2 h
theorem Pu.sub1 {d:D} {x:Value} (h:Pu ι w d x):Pu ι w (d.sub1 t g) x:=by
 cases h <;> first | exact .junk _ | exact .v _ | (exact .listNil _ _ _ ‹_›) | (exact .clist _ _ _ ‹_›) | (exact .wlist _ _ _ _ ‹_›) | (exact .list _ _ _ _ _ _ ‹_› ‹_› ‹_› ‹_›) | (exact .fp _ _ _ _ _ ‹_› ‹_›)
theorem Inv.turn {cx:Cx} (h:Inv cx ι β T w) (ht:Turns ι w β T t g ι') {b0:Option Nat} (hb0:∀ b,b0=some b→blockOf (β t)=some b ∧ getT T t ≠ .none) (hnew:∀ b o,ι' b o→ι b o ∨ (some b=b0 ∧ b < w.heap.size)):Inv cx ι' β (subT t g T) w:=by
 refine⟨h.gl,h.os,h.tape,h.output,h.size,h.kept,fun b o hb => ht.sub _ _ (h.old b o hb),fun b o hb => ?_,fun b o hb => ?_,fun u => ?_,fun u b hb => ?_,fun u v b huv hb hv => ?_⟩
 ·rcases hnew b o hb with h' | h'
  ·exact h.new b o h'
  ·obtain⟨h1,h2⟩:=hb0 b h'.1.symm
   exact .inr ((h.mine t b h1).resolve_left h2)
 ·rcases hnew b o hb with h' | h'
  ·exact h.lt b o h'
  ·exact h'.2
 ·by_cases hu:u=t
  ·subst hu; rw [subT,getT_cons_same]; trivial
  ·by_cases hn:getT T u=.none
   ·rw [getT_sub g hu,hn]; trivial
   ·have hne:∀ b,blockOf (β u)=some b→some b ≠ b0:=fun b hb e => by
     obtain⟨h1,h2⟩:=hb0 b e.symm
     rcases h.apart u t b hu hb h1 with h' | h'
     ·exact hn h'
     ·exact h2 h'
    have hob:=h.obj u
    have hni:∀ b,blockOf (β u)=some b→∀ o,ι' b o→ι b o:=fun b hb o ho => (hnew b o ho).resolve_right fun h' => hne b hb h'.1
    rw [getT_sub g hu]
    cases hg:getT T u with
    | none => trivial
    | box e cells =>
     rw [hg] at hob
     obtain⟨b,c,ty,hβ,hh,hl,h1,hr,he,hnn,ha⟩:=hob
     refine⟨b,c,ty,hβ,hh,by simp [hl],h1,fun k d y hd hy => ?_,fun hx o ho => he hx o (hni b (by rw [hβ]; rfl) o ho),fun hx =>⟨fun o ho => ht.sub _ _ ((hnn hx).1 o (by simpa using ho)),fun k d y hd hy => ?_⟩,ha⟩
     ·rw [List.getElem?_map,Option.map_eq_some_iff] at hd
      obtain⟨d0,h0,rfl⟩:=hd
      exact ht.r1 (hr k d0 y h0 hy)
     ·rw [List.getElem?_map,Option.map_eq_some_iff] at hd
      obtain⟨d0,h0,rfl⟩:=hd
      exact Pu.sub1 (((hnn hx).2 k d0 y h0 hy).mono ht.sub (fun _ _ _ => rfl))
    | rows e ety sz rs => rw [hg] at hob; exact hob.keep (fun _ _ => rfl) ht.sub hni (fun _ _ _ => rfl) (fun _ _ h => by cases h)
    | map es => rw [hg] at hob; exact hob.keep (fun _ _ => rfl) ht.sub hni (fun _ _ _ => rfl) (fun _ _ h => by cases h)
    | pin s ety sz rs => rw [hg] at hob; exact hob.keep (fun _ _ => rfl) ht.sub hni (fun _ _ _ => rfl) (fun _ _ h => by cases h)
    | bytes ys => rw [hg] at hob; exact hob.keep (fun _ _ => rfl) ht.sub hni (fun _ _ _ => rfl) (fun _ _ h => by cases h)
 ·by_cases hu:u=t
  ·subst hu; exact .inl (by rw [subT,getT_cons_same])
  ·rcases h.mine u b hb with h' | h'
   ·exact .inl (by rw [getT_sub g hu,h'])
   ·exact .inr h'
 ·by_cases hu:u=t
  ·subst hu; exact .inl (by rw [subT,getT_cons_same])
  ·by_cases hv':v=t
   ·subst hv'; exact .inr (by rw [subT,getT_cons_same])
   ·rcases h.apart u v b huv hb hv with h' | h'
    ·exact .inl (by rw [getT_sub g hu,h'])
    ·exact .inr (by rw [getT_sub g hv',h'])
end
theorem Sim.turn {cx:Cx} {n t:Nat} {σ:St} {a:Act} {w:World} (hs:Sim cx n σ a w) (g:D→D)
  (h:∀ ι β,Inv cx ι β σ.T w→∃ ι' b0,Turns ι w β σ.T t g ι' ∧ (∀ b,b0=some b→blockOf (β t)=some b ∧ getT σ.T t ≠ .none) ∧ (∀ b o,ι' b o→ι b o ∨ (some b=b0 ∧ b < w.heap.size))):Sim cx n ⟨subFr t g σ.fr,subT t g σ.T⟩ a w:=by
 obtain⟨⟨ι,β,hi,hr⟩,hsz,hdf⟩:=hs
 obtain⟨ι',b0,ht,hb,hn⟩:=h ι β hi
 exact⟨⟨ι',β,hi.turn ht hb hn,fun s => by show R ι' w _ (get (subFr t g σ.fr) s) _; rw [get_sub]; exact ht.r (hr s)⟩,hsz,hdf⟩
def toList (sz:Nat) (rows:List (List D)):D→D
 | .sref _ => .list sz rows
 | _ => .junk
theorem Sim.frzRows {cx:Cx} {n t:Nat} {σ:St} {a:Act} {w:World} {ety sz:Nat} {rows:List (List D)} (hs:Sim cx n σ a w) (hb:getT σ.T t=.rows true ety sz rows):Sim cx n ⟨subFr t (toList sz rows) σ.fr,subT t (toList sz rows) σ.T⟩ a w:=by
 refine hs.turn _ fun ι β hi => ?_
 obtain⟨xs,hown,hrs,hx1,hxR,hfree⟩:=rows_at hi hb
 have halive:getT σ.T t ≠ .none:=by rw [hb]; exact fun h => by cases h
 refine⟨fun b o => ι b o ∨ (blockOf (β t)=some b ∧ o < rows.length * sz),blockOf (β t),⟨fun _ _ h => .inl h,fun d x hd hn hx => ?_⟩,fun b h =>⟨h,halive⟩,fun b o h => ?_⟩
 ·have eq:∀ u,Nat.beq u t=true→u=t:=fun u h => Nat.eq_of_beq_eq_true h
  cases d with
  | sref u =>
   cases eq u hn
   simp only [rho,hb] at hx
   subst hx
   simp only [toList]
   rcases hown.2 with ⟨h,h0⟩ |⟨gb,cap,cur,h,_,hg,hnc,_⟩
   ·rw [h]
    have:rows=[]:=List.eq_nil_of_length_eq_zero h0
    subst this
    exact .listNil _ none 0 (fun _ => rfl)
   ·rw [h]
    refine .list sz rows gb 0 cap (fun k => (xs[k]?).getD undef) hnc hrs (fun k hk => ?_) (fun k d hd => ?_)
    ·have hk':xs[k]? =some (xs[k]'(by rw [hown.1]; exact hk)):=List.getElem?_eq_getElem _
     have hc:=hown.cells (g:=gb) (by rw [h]; rfl) _ _ hk'
     rw [Addr.add_lit] at hc
     exact⟨by rw [hc,hk']; rfl,by rw [hk']; exact hx1 _ (List.mem_of_getElem? hk'),.inr ⟨rfl,by omega⟩⟩
    ·have hk:k < xs.length:=by rw [hown.1,← flatten_len hrs]; exact (List.getElem?_eq_some_iff.1 hd).1
     have hk':xs[k]? =some (xs[k]'hk):=List.getElem?_eq_getElem _
     rw [hk']
     exact (hxR _ _ _ hd hk').mono (fun _ _ h => .inl h) (fun _ _ _ => rfl)
  | bref u off => exact .junk _
  | eref u i off => exact .junk _
  | mref u => exact .junk _
  | _ => simp [D.isRef] at hd
 ·rcases h with h |⟨h,_⟩
  ·exact .inl h
  ·refine .inr ⟨h.symm,?_⟩
   exact (hown.lt b (by
    rcases hown.2 with ⟨h',_⟩ |⟨gb,cap,cur,h',_⟩
    ·rw [h'] at h; cases h
    ·rw [h'] at h ⊢; exact h)).2
theorem Ok.frzRows {P:Program} {n:Nat} {c:Code} {σ:St} {Φ:Exit→St→Prop} (t:Nat) {ety sz:Nat} {rows:List (List D)} (hb:getT σ.T t=.rows true ety sz rows) (h:Ok P n c ⟨subFr t (toList sz rows) σ.fr,subT t (toList sz rows) σ.T⟩ Φ):Ok P n c σ Φ:=
 fun cx a w Q hs hq => h cx a w Q (hs.frzRows hb) hq
end Go.Proofs.Vx
