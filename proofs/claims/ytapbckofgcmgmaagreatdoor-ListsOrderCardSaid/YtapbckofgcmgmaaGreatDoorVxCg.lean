import Derived.Test.YtapbckofgcmgmaaGreatDoorVxY
namespace Go.Proofs.Vx
open Go Go.RowKit
set_option linter.unusedSectionVars false
variable [Glo]
mutual
def D.pure:D→Bool
 | .bref _ _ => false
 | .sref _ => false
 | .eref _ _ _ => false
 | .mref _ => false
 | .agg cs => D.pureL cs
 | .tup ds => D.pureL ds
 | .clo _ caps => D.pureL caps
 | _ => true
def D.pureL:List D→Bool
 | [] => true
 | d :: r => D.pure d && D.pureL r
end
theorem pureL_mem:∀ {l:List D} {d:D},D.pureL l=true→d ∈ l→d.pure=true
 | x :: r,d,h,hd => by
  simp only [D.pureL,Bool.and_eq_true] at h
  rcases List.mem_cons.1 hd with rfl | hd
  ·exact h.1
  ·exact pureL_mem h.2 hd
theorem R.pure {ι w ρ} {d:D} {x:Value} (h:R ι w ρ d x) (hd:d.pure=true):Pu ι w d x:=by
 induction h with
 | pu h => exact h
 | ref h1 _ _ => cases ‹D› <;> simp [D.isRef,D.pure] at h1 hd
 | agg cells cs hl h1 _ ih => exact .agg cells cs hl h1 fun k d y hk hy => ih k d y hk hy (pureL_mem (by simpa only [D.pure] using hd) (List.mem_of_getElem? hk))
 | tup ds vs hl _ ih => exact .tup ds vs hl fun k d y hk hy => ih k d y hk hy (pureL_mem (by simpa only [D.pure] using hd) (List.mem_of_getElem? hk))
 | clo f caps vs hl _ ih => exact .clo f caps vs hl fun k d y hk hy => ih k d y hk hy (pureL_mem (by simpa only [D.pure] using hd) (List.mem_of_getElem? hk))
mutual
def D.dry:D→Bool
 | .list _ _ => false
 | .clist _ _ => false
 | .wlist _ _ _ => false
 | .fp _ _ => false
 | .agg cs => D.dryL cs
 | .tup ds => D.dryL ds
 | .clo _ caps => D.dryL caps
 | _ => true
def D.dryL:List D→Bool
 | [] => true
 | d :: r => D.dry d && D.dryL r
end
theorem dryL_mem:∀ {l:List D} {d:D},D.dryL l=true→d ∈ l→d.dry=true
 | x :: r,d,h,hd => by
  simp only [D.dryL,Bool.and_eq_true] at h
  rcases List.mem_cons.1 hd with rfl | hd
  ·exact h.1
  ·exact dryL_mem h.2 hd
theorem Pu.dry {ι ι':Nat→Nat→Prop} {w w':World} {d:D} {x:Value} (h:Pu ι w d x) (hd:d.dry=true):Pu ι' w' d x:=by
 induction h with
 | junk x => exact .junk x
 | v x => exact .v x
 | agg cells cs hl h1 _ ih => exact .agg cells cs hl h1 fun k d y hk hy => ih k d y hk hy (dryL_mem (by simpa only [D.dry] using hd) (List.mem_of_getElem? hk))
 | tup ds vs hl _ ih => exact .tup ds vs hl fun k d y hk hy => ih k d y hk hy (dryL_mem (by simpa only [D.dry] using hd) (List.mem_of_getElem? hk))
 | clo f caps vs hl _ ih => exact .clo f caps vs hl fun k d y hk hy => ih k d y hk hy (dryL_mem (by simpa only [D.dry] using hd) (List.mem_of_getElem? hk))
 | _ => simp [D.dry] at hd
theorem R.dry {ι ι':Nat→Nat→Prop} {w w':World} {ρ:D→Value→Prop} {d:D} {x:Value} (h:R ι w ρ d x) (hd:d.dry=true):R ι' w' ρ d x:=by
 induction h with
 | pu h => exact .pu (h.dry hd)
 | ref h1 ho h => exact .ref h1 ho h
 | agg cells cs hl h1 _ ih => exact .agg cells cs hl h1 fun k d y hk hy => ih k d y hk hy (dryL_mem (by simpa only [D.dry] using hd) (List.mem_of_getElem? hk))
 | tup ds vs hl _ ih => exact .tup ds vs hl fun k d y hk hy => ih k d y hk hy (dryL_mem (by simpa only [D.dry] using hd) (List.mem_of_getElem? hk))
 | clo f caps vs hl _ ih => exact .clo f caps vs hl fun k d y hk hy => ih k d y hk hy (dryL_mem (by simpa only [D.dry] using hd) (List.mem_of_getElem? hk))
def lkN:List (Nat × Nat)→Nat→Option Nat
 | [],_ => none
 | p :: r,u => match Nat.beq p.1 u with | true => some p.2 | false => lkN r u
def lkB:List (Nat × Nat)→Nat→Option Nat
 | [],_ => none
 | p :: r,u => match Nat.beq p.2 u with | true => some p.1 | false => lkB r u
def optIs:Option Nat→Nat→Bool
 | some a,b => Nat.beq a b
 | none,_ => false
theorem optIs_eq {a:Option Nat} {b:Nat} (h:optIs a b=true):a=some b:=by
 cases a with
 | none => cases h
 | some a => exact congrArg some (Nat.eq_of_beq_eq_true h)
def injN (μ:List (Nat × Nat)):Bool:=μ.all fun p => optIs (lkN μ p.1) p.2 && optIs (lkB μ p.2) p.1
theorem lkN_mem {u t:Nat}:∀ {μ:List (Nat × Nat)},lkN μ u=some t→(u,t) ∈ μ
 | p :: r,h => by
  simp only [lkN] at h
  cases hb:Nat.beq p.1 u with
  | true => rw [hb] at h; cases h; cases Nat.eq_of_beq_eq_true hb; exact List.mem_cons_self
  | false => rw [hb] at h; exact List.mem_cons_of_mem _ (lkN_mem h)
theorem lkB_mem {u t:Nat}:∀ {μ:List (Nat × Nat)},lkB μ t=some u→(u,t) ∈ μ
 | p :: r,h => by
  simp only [lkB] at h
  cases hb:Nat.beq p.2 t with
  | true => rw [hb] at h; cases h; cases Nat.eq_of_beq_eq_true hb; exact List.mem_cons_self
  | false => rw [hb] at h; exact List.mem_cons_of_mem _ (lkB_mem h)
theorem inj_of {μ:List (Nat × Nat)} (h:injN μ=true) {u t:Nat} (hm:(u,t) ∈ μ):lkN μ u=some t ∧ lkB μ t=some u:=by
 simp only [injN,List.all_eq_true,Bool.and_eq_true] at h
 exact⟨optIs_eq (h _ hm).1,optIs_eq (h _ hm).2⟩
def rn0 (μ:List (Nat × Nat)):D→D
 | .bref u off => match lkN μ u with | some t => .bref t off | none => .junk
 | .sref u => match lkN μ u with | some t => .sref t | none => .junk
 | .eref u i off => match lkN μ u with | some t => .eref t i off | none => .junk
 | .mref u => match lkN μ u with | some t => .mref t | none => .junk
 | d => d
def ok0 (μ:List (Nat × Nat)):D→Bool
 | .bref u _ => (lkN μ u).isSome
 | .sref u => (lkN μ u).isSome
 | .eref u _ _ => (lkN μ u).isSome
 | .mref u => (lkN μ u).isSome
 | d => d.pure
def rn1 (μ:List (Nat × Nat)):D→D
 | .agg cells => .agg (cells.map (rn0 μ))
 | .clo f caps => .clo f (caps.map (rn0 μ))
 | d => rn0 μ d
def ok1 (μ:List (Nat × Nat)):D→Bool
 | .agg cells => cells.all (ok0 μ)
 | .clo _ caps => caps.all (ok0 μ)
 | d => ok0 μ d
def rn2 (μ:List (Nat × Nat)):D→D
 | .tup ds => .tup (ds.map (rn1 μ))
 | d => rn1 μ d
def ok2 (μ:List (Nat × Nat)):D→Bool
 | .tup ds => ds.all (ok1 μ)
 | d => ok1 μ d
inductive Alike:Ob→Ob→Prop
 | none:Alike .none .none
 | box (e e':Ex) (c c':List D):Alike (.box e c) (.box e' c')
 | rows (x x':Bool) (ety sz:Nat) (rs:List (List D)):Alike (.rows x ety sz rs) (.rows x' ety sz rs)
 | map (es:List (D × D)):Alike (.map es) (.map es)
 | bytes (xs:List Int):Alike (.bytes xs) (.bytes xs)
 | pin (s:Value) (ety sz:Nat) (rs:List (List D)):Alike (.pin s ety sz rs) (.pin s ety sz rs)
theorem Alike.symm {a b:Ob} (h:Alike a b):Alike b a:=by cases h <;> constructor
def Same (μ:List (Nat × Nat)) (β1:Nat→Value) (T1:List (Nat × Ob)) (β2:Nat→Value) (T2:List (Nat × Ob)):Prop:=
 ∀ u t,lkN μ u=some t→β2 t=β1 u ∧ Alike (getT T1 u) (getT T2 t)
section
variable {μ:List (Nat × Nat)} {β1 β2:Nat→Value} {T1 T2:List (Nat × Ob)} {ι:Nat→Nat→Prop} {w:World}
theorem rn0_rho (h:Same μ β1 T1 β2 T2) {d:D} {x:Value} (hd:d.isRef=true) (hok:ok0 μ d=true):(rn0 μ d).isRef=true ∧ (rho β1 T1 d x ↔ rho β2 T2 (rn0 μ d) x):=by
 cases d with
 | bref u off =>
  simp only [ok0] at hok
  obtain⟨t,ht⟩:=Option.isSome_iff_exists.1 hok
  obtain⟨hβ,ha⟩:=h u t ht
  simp only [rn0,ht]
  refine⟨rfl,?_⟩
  simp only [rho,hβ]
  generalize getT T1 u=o1 at ha; generalize getT T2 t=o2 at ha
  cases ha <;> exact Iff.rfl
 | sref u =>
  simp only [ok0] at hok
  obtain⟨t,ht⟩:=Option.isSome_iff_exists.1 hok
  obtain⟨hβ,ha⟩:=h u t ht
  simp only [rn0,ht]
  refine⟨rfl,?_⟩
  simp only [rho,hβ]
  generalize getT T1 u=o1 at ha; generalize getT T2 t=o2 at ha
  cases ha <;> exact Iff.rfl
 | eref u i off =>
  simp only [ok0] at hok
  obtain⟨t,ht⟩:=Option.isSome_iff_exists.1 hok
  obtain⟨hβ,ha⟩:=h u t ht
  simp only [rn0,ht]
  refine⟨rfl,?_⟩
  simp only [rho,hβ]
  generalize getT T1 u=o1 at ha; generalize getT T2 t=o2 at ha
  cases ha <;> exact Iff.rfl
 | mref u =>
  simp only [ok0] at hok
  obtain⟨t,ht⟩:=Option.isSome_iff_exists.1 hok
  obtain⟨hβ,ha⟩:=h u t ht
  simp only [rn0,ht]
  refine⟨rfl,?_⟩
  simp only [rho,hβ]
  generalize getT T1 u=o1 at ha; generalize getT T2 t=o2 at ha
  cases ha <;> exact Iff.rfl
 | _ => simp [D.isRef] at hd
theorem ok0_cases (μ:List (Nat × Nat)) (d:D) (h:ok0 μ d=true):d.isRef=true ∨ (d.pure=true ∧ rn0 μ d=d):=by
 cases d <;> first | exact .inl rfl | exact .inr ⟨h,rfl⟩
theorem R.rn0 (h:Same μ β1 T1 β2 T2) {d:D} {x:Value} (hok:ok0 μ d=true):R ι w (rho β1 T1) d x ↔ R ι w (rho β2 T2) (rn0 μ d) x:=by
 rcases ok0_cases μ d hok with hd |⟨hp,he⟩
 ·obtain⟨h1,h2⟩:=rn0_rho (x:=x) h hd hok
  exact⟨fun hR => .ref h1 (hR.ref_one hd) (h2.1 (hR.ref_inv hd)),fun hR => .ref hd (hR.ref_one h1) (h2.2 (hR.ref_inv h1))⟩
 ·rw [he]; exact⟨fun hR => .pu (hR.pure hp),fun hR => .pu (hR.pure hp)⟩
theorem R.rnL (h:Same μ β1 T1 β2 T2) {l:List D} (hok:l.all (ok0 μ)=true) {k:Nat} {y:Value}:(∀ d,l[k]? =some d→R ι w (rho β1 T1) d y) ↔ (∀ d,(l.map (Vx.rn0 μ))[k]? =some d→R ι w (rho β2 T2) d y):=by
 rw [List.all_eq_true] at hok
 constructor
 ·intro hh d hd
  rw [List.getElem?_map,Option.map_eq_some_iff] at hd
  obtain⟨d0,h0,rfl⟩:=hd
  exact (R.rn0 h (hok _ (List.mem_of_getElem? h0))).1 (hh d0 h0)
 ·intro hh d hd
  exact (R.rn0 h (hok _ (List.mem_of_getElem? hd))).2 (hh _ (by rw [List.getElem?_map,hd]; rfl))
theorem R.rn1 (h:Same μ β1 T1 β2 T2) {d:D} {x:Value} (hok:ok1 μ d=true):R ι w (rho β1 T1) d x ↔ R ι w (rho β2 T2) (rn1 μ d) x:=by
 cases d with
 | agg cells =>
  simp only [Vx.rn1]
  simp only [ok1] at hok
  constructor
  ·intro hR
   obtain⟨cs,rfl,hl,h1,hg⟩:=hR.agg_inv
   exact .agg _ cs (by simp [hl]) h1 fun k d y hd hy => (R.rnL h hok).1 (fun d hd => hg k d y hd hy) d hd
  ·intro hR
   obtain⟨cs,rfl,hl,h1,hg⟩:=hR.agg_inv
   exact .agg _ cs (by simpa using hl) h1 fun k d y hd hy => (R.rnL h hok).2 (fun d hd => hg k d y hd hy) d hd
 | clo f caps =>
  simp only [Vx.rn1]
  simp only [ok1] at hok
  constructor
  ·intro hR
   obtain⟨vs,rfl,hl,hg⟩:=hR.clo_inv
   exact .clo _ _ vs (by simp [hl]) fun k d y hd hy => (R.rnL h hok).1 (fun d hd => hg k d y hd hy) d hd
  ·intro hR
   obtain⟨vs,rfl,hl,hg⟩:=hR.clo_inv
   exact .clo _ _ vs (by simpa using hl) fun k d y hd hy => (R.rnL h hok).2 (fun d hd => hg k d y hd hy) d hd
 | _ => exact R.rn0 h hok
theorem R.rn2 (h:Same μ β1 T1 β2 T2) {d:D} {x:Value} (hok:ok2 μ d=true):R ι w (rho β1 T1) d x ↔ R ι w (rho β2 T2) (rn2 μ d) x:=by
 cases d with
 | tup ds =>
  simp only [Vx.rn2]
  simp only [ok2,List.all_eq_true] at hok
  constructor
  ·intro hR
   obtain⟨vs,rfl,hl,hg⟩:=hR.tup_inv
   refine .tup _ vs (by simp [hl]) fun k d y hd hy => ?_
   rw [List.getElem?_map,Option.map_eq_some_iff] at hd
   obtain⟨d0,h0,rfl⟩:=hd
   exact (R.rn1 h (hok _ (List.mem_of_getElem? h0))).1 (hg k d0 y h0 hy)
  ·intro hR
   obtain⟨vs,rfl,hl,hg⟩:=hR.tup_inv
   refine .tup _ vs (by simpa using hl) fun k d y hd hy => ?_
   exact (R.rn1 h (hok _ (List.mem_of_getElem? hd))).2 (hg k _ y (by rw [List.getElem?_map,hd]; rfl) hy)
 | _ => exact R.rn1 h hok
end
theorem rn0_dry {μ:List (Nat × Nat)} {d:D} (h:d.dry=true):(rn0 μ d).dry=true:=by
 cases d with
 | bref u _ => simp only [rn0]; cases lkN μ u <;> rfl
 | sref u => simp only [rn0]; cases lkN μ u <;> rfl
 | eref u _ _ => simp only [rn0]; cases lkN μ u <;> rfl
 | mref u => simp only [rn0]; cases lkN μ u <;> rfl
 | _ => exact h
theorem map_dry {g:D→D} (hg:∀ d,d.dry=true→(g d).dry=true):∀ {l:List D},D.dryL l=true→D.dryL (l.map g)=true
 | [],_ => rfl
 | d :: r,h => by
  simp only [D.dryL,Bool.and_eq_true] at h
  simp only [List.map_cons,D.dryL,Bool.and_eq_true]
  exact⟨hg d h.1,map_dry hg h.2⟩
theorem rn1_dry {μ:List (Nat × Nat)} {d:D} (h:d.dry=true):(rn1 μ d).dry=true:=by
 cases d with
 | agg cells => simp only [D.dry] at h; simp only [rn1,D.dry]; exact map_dry (fun _ h => rn0_dry h) h
 | clo f caps => simp only [D.dry] at h; simp only [rn1,D.dry]; exact map_dry (fun _ h => rn0_dry h) h
 | _ => exact rn0_dry (μ:=μ) h
theorem rn2_dry {μ:List (Nat × Nat)} {d:D} (h:d.dry=true):(rn2 μ d).dry=true:=by
 cases d with
 | tup ds => simp only [D.dry] at h; simp only [rn2,D.dry]; exact map_dry (fun _ h => rn1_dry h) h
 | _ => exact rn1_dry (μ:=μ) h
def rnOb (μ:List (Nat × Nat)):Ob→Ob
 | .box e cells => .box e (cells.map (rn0 μ))
 | o => o
def okOb (μ:List (Nat × Nat)):Ob→Bool
 | .box e cells => e.own && cells.all (ok0 μ)
 | .rows b _ _ _ => b
 | _ => true
def dryOb:Ob→Bool
 | .box _ cells => D.dryL cells
 | _ => true
def dryOP:Ob→Prop
 | .rows _ _ _ rs => ∀ q ∈ rs,D.dryL q=true
 | .pin _ _ _ rs => ∀ q ∈ rs,D.dryL q=true
 | .map es => ∀ p ∈ es,p.1.dry=true ∧ p.2.dry=true
 | _ => True
def dryRT:List (Nat × Ob)→Prop
 | [] => True
 | p :: r => dryOP p.2 ∧ dryRT r
theorem dryRT_mem:∀ {T:List (Nat × Ob)} {p:Nat × Ob},dryRT T→p ∈ T→dryOP p.2
 | _ :: r,p,h,hp => by
  rcases List.mem_cons.1 hp with rfl | hp
  ·exact h.1
  ·exact dryRT_mem h.2 hp
def isBox:Ob→Bool
 | .box _ _ => true
 | _ => false
def pinOb (b:Nat):Ob→Ob
 | .box e cells => .box (e.pinAt b) cells
 | o => o
def bkPin (b:Nat):Ob→Ob→Ob
 | .box e _,.box _ c => .box (e.pinAt b) c
 | _,o => o
def bkOb:Ob→Ob→Ob
 | .box e _,.box _ c => .box e c
 | _,o => o
def okBk:Ob→Ob→Bool
 | .box _ _,.box _ _ => true
 | .box _ _,.none => true
 | .box _ _,_ => false
 | _,_ => true
def pinT (bs:Nat→Nat) (T1:List (Nat × Ob)):List (Nat × Ob):=T1.map fun p => (p.1,pinOb (bs p.1) p.2)
def bkT (bs:Nat→Nat) (T1 T1':List (Nat × Ob)):List (Nat × Ob):=T1'.map fun p => (p.1,bkPin (bs p.1) (getT T1 p.1) p.2)
theorem getT_mapF (F:Nat→Ob→Ob) (hF:∀ u,F u .none=.none) (u:Nat):∀ T:List (Nat × Ob),getT (T.map fun p => (p.1,F p.1 p.2)) u=F u (getT T u)
 | [] => (hF u).symm
 | (t,o) :: r => by
  simp only [List.map_cons,getT]
  cases hb:Nat.beq t u with
  | true => cases Nat.eq_of_beq_eq_true hb; rfl
  | false => exact getT_mapF F hF u r
theorem getT_pin (bs:Nat→Nat) (T1:List (Nat × Ob)) (u:Nat):getT (pinT bs T1) u=pinOb (bs u) (getT T1 u):=getT_mapF (fun u o => pinOb (bs u) o) (fun _ => rfl) u T1
theorem getT_bk (bs:Nat→Nat) (T1 T1':List (Nat × Ob)) (u:Nat):getT (bkT bs T1 T1') u=bkPin (bs u) (getT T1 u) (getT T1' u):=
 getT_mapF (fun u o => bkPin (bs u) (getT T1 u) o) (fun v => by show bkPin _ _ _=_; cases getT T1 v <;> rfl) u T1'
theorem getT_mem:∀ {T:List (Nat × Ob)} {u:Nat},getT T u ≠ .none→(u,getT T u) ∈ T
 | [],u,h => absurd rfl h
 | (t,o) :: r,u,h => by
  simp only [getT] at h ⊢
  cases hb:Nat.beq t u with
  | true => cases Nat.eq_of_beq_eq_true hb; exact List.mem_cons_self
  | false => rw [hb] at h; exact List.mem_cons_of_mem _ (getT_mem h)
theorem getT_mu (F:Nat→Ob) (T:List (Nat × Ob)) (t:Nat):∀ μ:List (Nat × Nat),getT ((μ.map fun q => (q.2,F q.1)) ++ T) t=match lkB μ t with | some p => F p | none => getT T t
 | [] => rfl
 | q :: r => by
  simp only [List.map_cons,List.cons_append,getT,lkB]
  cases hb:Nat.beq q.2 t with
  | true => rfl
  | false => exact getT_mu F T t r
def killAll (K:List Nat) (fr:List (Nat × D)):List (Nat × D):=match K with | [] => fr | t :: r => kill t (killAll r fr)
def killTs (K:List Nat) (T:List (Nat × Ob)):List (Nat × Ob):=match K with | [] => T | t :: r => killT t (killTs r T)
theorem killAll_clean (fr:List (Nat × D)) (s:Nat):∀ (K:List Nat) (t:Nat),t ∈ K→(get (killAll K fr) s).names t=false
 | u :: r,t,h => by
  show (get (kill u (killAll r fr)) s).names t=false
  rcases List.mem_cons.1 h with rfl | h
  ·exact kill_clean _ _ _
  ·rw [get_kill]
   cases (get (killAll r fr) s).names u with
   | true => rfl
   | false => exact killAll_clean fr s r t h
theorem killTs_clean (T:List (Nat × Ob)) (u:Nat):∀ (K:List Nat) (t:Nat),t ∈ K→∀ {e:Ex} {cells:List D},getT (killTs K T) u=.box e cells→∀ d ∈ cells,d.names1 t=false
 | v :: r,t,h,e,cells,hg,d,hd => by
  have hg:getT (killT v (killTs r T)) u=.box e cells:=hg
  rcases List.mem_cons.1 h with rfl | h
  ·exact killT_clean _ hg d hd
  ·rw [getT_kill] at hg
   split at hg
   ·rename_i e3 cs3 hb3
    cases hg
    obtain⟨d0,hd0,rfl⟩:=List.mem_map.1 hd
    have:=killTs_clean T u r t h hb3 d0 hd0
    cases d0.names1 v with
    | true => rfl
    | false => exact this
   ·rename_i hne; exact absurd hg (hne _ _)
theorem killTs_alike (T:List (Nat × Ob)) (u:Nat):∀ (K:List Nat),getT (killTs K T) u=getT T u ∨ ∃ e c c',getT T u=.box e c ∧ getT (killTs K T) u=.box e c'
 | [] => .inl rfl
 | v :: r => by
  show getT (killT v (killTs r T)) u=getT T u ∨ ∃ e c c',getT T u=.box e c ∧ getT (killT v (killTs r T)) u=.box e c'
  rw [getT_kill]
  rcases killTs_alike T u r with h |⟨e,c,c',h1,h2⟩
  ·rw [h]
   cases hg:getT T u with
   | box e c => exact .inr ⟨e,c,_,rfl,rfl⟩
   | _ => exact .inl rfl
  ·rw [h2]; exact .inr ⟨e,c,_,h1,rfl⟩
theorem R.keepK {ι:Nat→Nat→Prop} {w:World} {ρ:D→Value→Prop} {d:D} {x:Value} (h:R ι w ρ d x):∀ (K:List Nat),(∀ t ∈ K,d.names t=false)→R ι w (fun d x => (∀ t ∈ K,d.names1 t=false) ∧ ρ d x) d x
 | [],_ => h.mono (fun _ _ h => h) (fun _ _ _ => rfl) (fun _ _ h =>⟨fun t ht => (by cases ht),h⟩)
 | u :: r,hd => by
  have ih:=R.keepK h r (fun t ht => hd t (List.mem_cons_of_mem _ ht))
  exact ih.keep (t:=u) (hd u List.mem_cons_self) (fun _ _ h => h) (fun _ _ _ => rfl) (fun d x h1 h2 =>⟨fun t ht => by
   rcases List.mem_cons.1 ht with rfl | ht
   ·exact h1
   ·exact h2.1 t ht,h2.2⟩)
theorem R.keepK1 {ι:Nat→Nat→Prop} {w:World} {ρ:D→Value→Prop} {d:D} {x:Value} (h:R ι w ρ d x):∀ (K:List Nat),(∀ t ∈ K,d.names1 t=false)→R ι w (fun d x => (∀ t ∈ K,d.names1 t=false) ∧ ρ d x) d x
 | [],_ => h.mono (fun _ _ h => h) (fun _ _ _ => rfl) (fun _ _ h =>⟨fun t ht => (by cases ht),h⟩)
 | u :: r,hd => by
  have ih:=R.keepK1 h r (fun t ht => hd t (List.mem_cons_of_mem _ ht))
  exact ih.keep1 (t:=u) (hd u List.mem_cons_self) (fun _ _ h => h) (fun _ _ _ => rfl) (fun d x h1 h2 =>⟨fun t ht => by
   rcases List.mem_cons.1 ht with rfl | ht
   ·exact h1
   ·exact h2.1 t ht,h2.2⟩)
section
theorem killAll_inv {cx ι β w} {fr:List (Nat × D)} {T:List (Nat × Ob)} {a:Nat→Value} (hi:Inv cx ι β T w) (hr:∀ s,R ι w (rho β T) (get fr s) (a s)):∀ K:List Nat,Inv cx ι β (killTs K T) w ∧ ∀ s,R ι w (rho β (killTs K T)) (get (killAll K fr) s) (a s)
 | [] =>⟨hi,hr⟩
 | t :: r => by
  obtain⟨h1,h2⟩:=killAll_inv hi hr r
  have hl:=Le.kill t ⟨killAll r fr,killTs r T⟩
  exact⟨h1.le hl.2,fun s => (hl.1 s).r ((h2 s).mono (fun _ _ h => h) (fun _ _ _ => rfl) (rho_le hl.2))⟩
def FnX (P:Program) (f:Nat) (ds:List D) (T:List (Nat × Ob)) (Φ:D→List (Nat × Ob)→Prop):Prop:=
 ∀ (w:World) (ι:Nat→Nat→Prop) (β:Nat→Value) (vs:Array Value),Inv ⟨w,Wof β T,ι,[]⟩ ι β T w→vs.size=ds.length→
  (∀ (k:Nat) d x,ds[k]? =some d→vs[k]? =some x→R ι w (rho β T) d x)→
  Calls P f vs w fun e w' => ∃ v ι' β' r T',Φ r T' ∧ e=.returned v ∧ Inv ⟨w,Wof β T,ι,[]⟩ ι' β' T' w' ∧ R ι' w' (rho β' T') r v
theorem Fn.x {P:Program} {f:Nat} {ds:List D} {T T':List (Nat × Ob)} {r:D} (h:Fn P f ds T r T'):FnX P f ds T fun r' T'' => r'=r ∧ T''=T':=
 fun w ι β vs hi hl hr => (h w ι β vs hi hl hr).mono fun _ _ ⟨v,ι',β',he,hi',hR⟩ =>⟨v,ι',β',r,T',⟨rfl,rfl⟩,he,hi',hR⟩
def OpX (P:Program) (n:Nat) (o:Oper) (σ:St) (Φ:St→Prop):Prop:=
 ∀ cx a w (K:Act→World→Prop) Q,Sim cx n σ a w→(∀ σ' a' w',Φ σ'→Sim cx n σ' a' w'→K a' w')→o.wp P a w K Q
theorem OpX.ok {P:Program} {n:Nat} {o:Oper} {σ σ':St} (h:OpX P n o σ fun σ1 => σ1=σ'):OpOk P n o σ σ':=
 fun cx a w K Q hs hk => h cx a w K Q hs fun _ a' w' he hs' => hk a' w' (he ▸ hs')
theorem OpsC.consX {P:Program} {n:Nat} {ops:Array Oper} {l:List Oper} {σ:St} {o:Oper} {Φ1 Φ:St→Prop} (hg:o.guard=none) (h:OpX P n o σ Φ1) (hl:∀ σ1,Φ1 σ1→OpsC P n ops l σ1 Φ):OpsC P n ops (o :: l) σ Φ:=fun cx a w Q hs hq => by
 unfold wpList
 rw [if_pos (by simp [Region.wanted,hg])]
 exact .inl (h cx a w _ _ hs fun σ1 a' w' h1 hs' => hl σ1 h1 cx a' w' Q hs' hq)
def isNo:Ob→Bool
 | .none => true
 | _ => false
def keptN (μ:List (Nat × Nat)) (T1 T1':List (Nat × Ob)):List Nat:=(μ.filter fun q => !isBox (getT T1 q.1) && !isNo (getT T1' q.1)).map (·.2)
def postG (μ:List (Nat × Nat)) (T1 T1':List (Nat × Ob)) (r:D) (σ:St) (dst:Option Nat):St:=
 St.put ⟨killAll (keptN μ T1 T1') σ.fr,(μ.map fun q => (q.2,rnOb μ (bkOb (getT T1 q.1) (getT T1' q.1)))) ++ killTs (keptN μ T1 T1') σ.T⟩ dst (rn2 μ r)
def goG (μ:List (Nat × Nat)) (T1:List (Nat × Ob)):Bool:=injN μ && T1.all fun p => okOb μ p.2 && (lkN μ p.1).isSome
def backG (μ:List (Nat × Nat)) (lk:Bool) (T1 T1':List (Nat × Ob)) (r:D):Bool:=
 ok2 μ r && (T1'.all fun p => okOb μ p.2 && (lkN μ p.1).isSome && okBk (getT T1 p.1) p.2) && (!lk || (r.dry && T1'.all fun p => dryOb p.2))
def dropMu (μ:List (Nat × Nat)) (T:List (Nat × Ob)):List (Nat × Ob):=(μ.map fun q => (q.2,Ob.none)) ++ T
def look0 (μ:List (Nat × Nat)) (T:List (Nat × Ob)):D→D
 | .sref u => match lkB μ u with | some _ => .sref u | none => (D.sref u).look2 (dropMu μ T)
 | d => d
def lookD (μ:List (Nat × Nat)) (T:List (Nat × Ob)):D→D
 | .bref u off => match lkB μ u with | some _ => .bref u off | none => (D.bref u off).look2 (dropMu μ T)
 | .agg cells => .agg (cells.map (look0 μ T))
 | d => look0 μ T d
def lookG (μ:List (Nat × Nat)) (lk:Bool) (T:List (Nat × Ob)) (d:D):D:=match lk with | true => lookD μ T d | false => d
theorem look2_pure (T:List (Nat × Ob)) (u:Nat):((D.sref u).look2 T).pure=true:=by simp only [D.look2]; cases getT T u <;> rfl
theorem look2_pureB (T:List (Nat × Ob)) (u off:Nat):((D.bref u off).look2 T).pure=true:=by simp only [D.look2]; cases getT T u <;> rfl
theorem OpX.callG {P:Program} {n:Nat} {o:Oper} {σ:St} {x:Operand} {args:Array Operand} {ts:Array TypeId} {f:Nat} {caps ds:List D} {T1:List (Nat × Ob)} {Res:D→List (Nat × Ob)→Prop} (μ:List (Nat × Nat)) (lk:Bool)
  (ho:o.op=.call { callee:=.value x,args:=args,argTypes:=ts }) (hx:σ.ev x=.clo f caps) (hc:callable P f=true)
  (hf:∀ bs,FnX P f ds (pinT bs T1) fun r T' => ∃ T1',Res r T1' ∧ T'=bkT bs T1 T1')
  (hds:leL (ds.map (rn2 μ)) (((args.toList.map σ.ev) ++ caps).map (lookG μ lk σ.T))) (hok:(goG μ T1 && ds.all (ok2 μ))=true)
  (hT:T1.map (fun p => getT σ.T ((lkN μ p.1).getD 0))=T1.map (fun p => rnOb μ p.2)) (hb:∀ r T1',Res r T1'→backG μ lk T1 T1' r=true) (hdr:∀ r T1',Res r T1'→lk=true→dryRT T1') (hn:dstB n o.dst=true) :
  OpX P n o σ fun σ' => ∃ r T1',Res r T1' ∧ σ'=postG μ T1 T1' r σ o.dst:=by
 intro cx a w K Q hs hk
 obtain⟨⟨ι,β,hi,hr⟩,hsz,hdf⟩:=hs
 simp only [goG,Bool.and_eq_true,List.all_eq_true] at hok
 obtain⟨⟨hinj,hgo⟩,hdok⟩:=hok
 have hev:=sim_ev hr
 have hxx:=hev x
 rw [hx] at hxx
 obtain⟨vs,hv,hl,hg⟩:=hxx.clo_inv
 have hrun:(execOp a.eval o).run P w=.ok (.enter f (args.map a.eval ++ vs)) w:=by
  simp [execOp,ho,resolve,hv,Deferred.ofValue,invoke,run_callFunc hc]
 unfold Oper.wp
 rw [hrun,Oper.upon_enter]
 have hT1:∀ u,getT T1 u ≠ .none→∃ t,lkN μ u=some t ∧ lkB μ t=some u ∧ getT σ.T t=rnOb μ (getT T1 u) ∧ okOb μ (getT T1 u)=true:=by
  intro u hu
  have hm:=getT_mem hu
  have h1:=hgo _ hm
  obtain⟨t,ht⟩:=Option.isSome_iff_exists.1 h1.2
  refine⟨t,ht,(inj_of hinj (lkN_mem ht)).2,?_,h1.1⟩
  have h2:=List.map_inj_left.1 hT _ hm
  simp only [ht,Option.getD_some] at h2
  exact h2
 have rnN:∀ {ob:Ob},ob ≠ .none→rnOb μ ob ≠ .none:=fun {ob} h he => by cases ob <;> simp [rnOb] at he h
 let β0:Nat→Value:=fun u => match lkN μ u with | some t => β t | none => undef
 have hβ0:∀ {u t},lkN μ u=some t→β0 u=β t:=fun {u t} h => by simp [β0,h]
 let bs:Nat→Nat:=fun u => (blockOf (β0 u)).getD 0
 let T1p:=pinT bs T1
 have gp:∀ u,getT T1p u=pinOb (bs u) (getT T1 u):=fun u => getT_pin bs T1 u
 have gpn:∀ u,getT T1p u=.none ↔ getT T1 u=.none:=fun u => by
  rw [gp]; cases getT T1 u <;> simp [pinOb]
 let W:Nat→Prop:=Wof β0 T1p
 have hWt:∀ b,W b→∃ u t,lkN μ u=some t ∧ lkB μ t=some u ∧ getT T1 u ≠ .none ∧ getT σ.T t ≠ .none ∧ blockOf (β t)=some b:=by
  rintro b ⟨u,hu1,hu2⟩
  have hu1:getT T1 u ≠ .none:=fun h => hu1 ((gpn u).2 h)
  obtain⟨t,h1,h2,h3,h4⟩:=hT1 u hu1
  exact⟨u,t,h1,h2,hu1,by rw [h3]; exact rnN hu1,by rw [← hβ0 h1]; exact hu2⟩
 have hWlt:∀ b,W b→b < w.heap.size:=fun b hb => by
  obtain⟨u,t,_,_,_,h3,h4⟩:=hWt b hb
  exact hi.lt' t b h3 h4
 have hWι:∀ b o,W b→¬ ι b o:=by
  intro b o hb hio
  obtain⟨u,t,h1,h2,hu,h3,h4⟩:=hWt b hb
  obtain⟨t',h1',_,hTt,hoku⟩:=hT1 u hu
  rw [h1] at h1'; cases h1'
  have hob:=hi.obj t
  rw [hTt] at hob
  generalize getT T1 u=ob at *
  cases ob with
  | none => exact hu rfl
  | box e cells =>
   obtain⟨b',c,ty,hx',_,_,_,_,hex,_⟩:=hob
   rw [hx'] at h4; cases h4
   simp only [okOb,Bool.and_eq_true] at hoku
   exact hex hoku.1 o hio
  | rows ex ety sz rs =>
   simp only [okOb] at hoku
   obtain⟨_,_,_,_,_,hbb⟩:=hob
   exact (hbb b h4).2.1 hoku o hio
  | map es => obtain⟨r,_,_,hx',_,_,hno,_⟩:=hob; rw [hx'] at h4; cases h4; exact hno o hio
  | pin s ety sz rs =>
   obtain⟨_,_,_,_,_,_,hbb⟩:=hob
   exact (hbb b h4).2.1 rfl o hio
  | bytes ys => obtain⟨r,_,_,_,_,hx',_,_,_,hno⟩:=hob; rw [hx'] at h4; cases h4; exact hno o hio
 let ι1:Nat→Nat→Prop:=fun b o => ι b o ∨ (lk=true ∧ b < w.heap.size ∧ ¬ W b)
 have hsub1:∀ b o,ι b o→ι1 b o:=fun _ _ h => .inl h
 have hW1:∀ b o,W b→¬ ι1 b o:=fun b o hb h => h.elim (hWι b o hb) (fun h => h.2.2 hb)
 let Ts:List (Nat × Ob):=(μ.map fun q => (q.2,match getT T1 q.1 with | .none => Ob.none | _ => getT σ.T q.2)) ++ σ.T
 have gs:∀ t,getT Ts t=match lkB μ t with | some p => (match getT T1 p with | .none => Ob.none | _ => getT σ.T t) | none => getT σ.T t:=by
  intro t
  have:∀ μ':List (Nat × Nat),getT ((μ'.map fun q => (q.2,match getT T1 q.1 with | .none => Ob.none | _ => getT σ.T q.2)) ++ σ.T) t=match lkB μ' t with | some p => (match getT T1 p with | .none => Ob.none | _ => getT σ.T t) | none => getT σ.T t:=by
   intro μ'
   induction μ' with
   | nil => rfl
   | cons q r ih =>
    simp only [List.map_cons,List.cons_append,getT,lkB]
    cases hb:Nat.beq q.2 t with
    | true => cases Nat.eq_of_beq_eq_true hb; rfl
    | false => exact ih
  exact this μ
 have hTs:∀ t,getT Ts t=.none ∨ getT Ts t=getT σ.T t:=fun t => by
  rw [gs]
  cases lkB μ t with
  | none => exact .inr rfl
  | some p => simp only []; cases getT T1 p <;> first | exact .inl rfl | exact .inr rfl
 have hsame:Vx.Same μ β0 T1p β Ts:=by
  intro u t hut
  refine⟨(hβ0 hut).symm,?_⟩
  rw [gp,gs,(inj_of hinj (lkN_mem hut)).2]
  simp only []
  by_cases hu:getT T1 u=.none
  ·rw [hu]; exact .none
  ·obtain⟨t',h1',_,hTt,hoku⟩:=hT1 u hu
   rw [hut] at h1'; cases h1'
   generalize getT T1 u=ob at *
   cases ob with
   | none => exact absurd rfl hu
   | box e c => simp only []; rw [hTt]; exact .box _ _ _ _
   | rows ex ety sz rs => simp only []; rw [hTt]; exact .rows _ _ _ _ _
   | map es => simp only []; rw [hTt]; exact .map _
   | bytes ys => simp only []; rw [hTt]; exact .bytes _
   | pin s ety sz rs => simp only []; rw [hTt]; exact .pin _ _ _ _
 have hinv:Inv ⟨w,W,ι1,[]⟩ ι1 β0 T1p w:=by
  refine⟨hi.glC fun b hb => ?_,rfl,rfl,rfl,Nat.le_refl _,fun _ _ _ => rfl,fun _ _ h => h,fun _ _ h => .inl h,fun b o h => h.elim (hi.lt b o) (fun h => h.2.1),fun u => ?_,fun u b hb => ?_,fun u v b huv hb1 hb2 => ?_⟩
  ·obtain⟨u,t,_,_,_,h3,h4⟩:=hWt b hb
   exact (hi.mine t b h4).resolve_left h3
  ·by_cases hu:getT T1 u=.none
   ·rw [(gpn u).2 hu]; trivial
   ·obtain⟨t,h1,h2,hTt,hoku⟩:=hT1 u hu
    have hWb:∀ b,blockOf (β t)=some b→W b:=fun b hb =>⟨u,fun h => hu ((gpn u).1 h),by show blockOf (β0 u)=some b; rw [hβ0 h1]; exact hb⟩
    have hob:=hi.obj t
    rw [hTt] at hob
    rw [gp,hβ0 h1]
    have hbs:∀ b,blockOf (β t)=some b→bs u=b:=fun b hb => by show (blockOf (β0 u)).getD 0=b; rw [hβ0 h1,hb]; rfl
    generalize getT T1 u=ob at *
    cases ob with
    | none => trivial
    | box e cells =>
     obtain⟨b,c,ty,hx',hh,hlen,hone,hcl,hex,hsh,hpin⟩:=hob
     simp only [okOb,Bool.and_eq_true] at hoku
     have hwb:=hWb b (by rw [hx']; rfl)
     rw [hbs b (by rw [hx']; rfl)]
     refine⟨b,c,ty,hx',hh,by simpa using hlen,hone,fun k d y hd hy => ?_,fun _ o' => hW1 b o' hwb,fun h => (by rw [Ex.pinAt_own] at h; cases h),Ex.pinAt_in hpin⟩
     refine (R.rnL hsame hoku.2 (k:=k) (y:=y)).2 (fun d' hd' => ?_) d hd
     exact (hcl k d' y hd' hy).mono hsub1 (fun _ _ _ => rfl) (rho_mono hTs)
    | rows ex ety sz rs =>
     simp only [okOb] at hoku
     subst hoku
     obtain⟨xs,hown,hrs,hx1,hxR,hfree⟩:=hob
     exact⟨xs,hown,hrs,hx1,fun k d y hd hy => (hxR k d y hd hy).mono hsub1 (fun _ _ _ => rfl),fun b hb =>⟨fun o' _ => hW1 b o' (hWb b hb),fun _ o' => hW1 b o' (hWb b hb),fun h => by cases h⟩⟩
    | map es =>
     obtain⟨r,es',cl,hx',hh,hlen,hno,hE⟩:=hob
     exact⟨r,es',cl,hx',hh,hlen,fun o' => hW1 r o' (hWb r (by rw [hx']; rfl)),fun k p e hp he =>⟨(hE k p e hp he).1.mono hsub1 (fun _ _ _ => rfl),(hE k p e hp he).2.1.mono hsub1 (fun _ _ _ => rfl),(hE k p e hp he).2.2⟩⟩
    | pin s ety sz rs =>
     obtain⟨hs',xs,hown,hrs,hx1,hxR,hfree⟩:=hob
     exact⟨hs',xs,hown,hrs,hx1,fun k d y hd hy => (hxR k d y hd hy).mono hsub1 (fun _ _ _ => rfl),fun b hb =>⟨fun o' _ => hW1 b o' (hWb b hb),fun _ o' => hW1 b o' (hWb b hb),fun h => by cases h⟩⟩
    | bytes ys =>
     obtain⟨r,cap,cur,fz,ety,hx',hh,h5,h6,hno⟩:=hob
     exact⟨r,cap,cur,fz,ety,hx',hh,h5,h6,fun o' => hW1 r o' (hWb r (by rw [hx']; rfl))⟩
  ·by_cases hn:getT T1p u=.none
   ·exact .inl hn
   ·exact .inr (.inr ⟨u,hn,hb⟩)
  ·by_cases h1:getT T1 u=.none
   ·exact .inl ((gpn u).2 h1)
   ·by_cases h2:getT T1 v=.none
    ·exact .inr ((gpn v).2 h2)
    ·obtain⟨t,a1,a2,a3,_⟩:=hT1 u h1
     obtain⟨t',b1,b2,b3,_⟩:=hT1 v h2
     rw [hβ0 a1] at hb1
     rw [hβ0 b1] at hb2
     have htt:t ≠ t':=fun e => huv (by rw [e] at a2; rw [a2] at b2; exact Option.some.inj b2)
     rcases hi.apart t t' b htt hb1 hb2 with h | h
     ·rw [a3] at h; exact absurd h (rnN h1)
     ·rw [b3] at h; exact absurd h (rnN h2)
 have hlook:∀ d y,R ι w (rho β σ.T) d y→R ι1 w (rho β Ts) (lookG μ lk σ.T d) y:=by
  intro d y h
  unfold lookG
  cases hlk:lk with
  | false => exact h.mono hsub1 (fun _ _ _ => rfl) (rho_mono hTs)
  | true =>
   have gd:∀ t,getT (dropMu μ σ.T) t=match lkB μ t with | some _ => .none | none => getT σ.T t:=fun t => getT_mu (fun _ => Ob.none) σ.T t μ
   have hdn:∀ t,getT (dropMu μ σ.T) t=.none ∨ getT (dropMu μ σ.T) t=getT σ.T t:=fun t => by
    rw [gd]; cases lkB μ t <;> first | exact .inl rfl | exact .inr rfl
   have hid:Inv cx ι β (dropMu μ σ.T) w:=hi.le fun t => by rcases hdn t with e | e <;> rw [e] <;> constructor
   have hin1:∀ t b,getT (dropMu μ σ.T) t ≠ .none→blockOf (β t)=some b→b < w.heap.size→∀ o,ι1 b o:=by
    intro t b h1 h2 h3 o'
    refine .inr ⟨hlk,h3,fun hw => ?_⟩
    obtain⟨u,t',a1,a2,_,a4,a5⟩:=hWt b hw
    by_cases htt:t=t'
    ·subst htt; rw [gd,a2] at h1; exact h1 rfl
    ·rcases hi.apart t t' b htt h2 a5 with h | h
     ·rcases hdn t with e | e
      ·exact h1 e
      ·exact h1 (e.trans h)
     ·exact a4 h
   have h0:∀ d y,R ι w (rho β σ.T) d y→R ι1 w (rho β Ts) (look0 μ σ.T d) y:=by
    intro d y h
    cases d with
    | sref u =>
     simp only [look0]
     cases hq:lkB μ u with
     | some p => exact h.mono hsub1 (fun _ _ _ => rfl) (rho_mono hTs)
     | none => exact .pu ((look2_RG hid hsub1 hin1 (ρ':=fun _ _ => True) (fun _ _ _ => trivial) (h.mono (fun _ _ h => h) (fun _ _ _ => rfl) (rho_mono hdn))).pure (look2_pure _ _))
    | _ => exact h.mono hsub1 (fun _ _ _ => rfl) (rho_mono hTs)
   cases d with
   | bref u off =>
    simp only [lookD]
    cases hq:lkB μ u with
    | some p => exact h.mono hsub1 (fun _ _ _ => rfl) (rho_mono hTs)
    | none => exact .pu ((look2_RG hid hsub1 hin1 (ρ':=fun _ _ => True) (fun _ _ _ => trivial) (h.mono (fun _ _ h => h) (fun _ _ _ => rfl) (rho_mono hdn))).pure (look2_pureB _ _ _))
   | agg cells =>
    simp only [lookD]
    obtain⟨cs,rfl,hl,h1,hg⟩:=h.agg_inv
    refine .agg _ cs (by simp [hl]) h1 (fun k d y hd hy => ?_)
    rw [List.getElem?_map,Option.map_eq_some_iff] at hd
    obtain⟨d0,hd0,rfl⟩:=hd
    exact h0 d0 y (hg k d0 y hd0 hy)
   | _ => exact h0 _ _ h
 refine (hf bs w ι1 β0 _ hinv ?_ (fun k d y hd hy => ?_)).mono ?_
 ·have:=leL_len hds; simp at this; simp [hl,this]
 ·have hlt:k < ds.length:=(List.getElem?_eq_some_iff.1 hd).1
  have hk2:k < (((args.toList.map σ.ev) ++ caps).map (lookG μ lk σ.T)).length:=by rw [← leL_len hds]; simpa using hlt
  have hle:=leL_get hds k (rn2 μ d) _ (by rw [List.getElem?_map,hd]; rfl) (List.getElem?_eq_getElem hk2)
  refine (R.rn2 hsame (hdok d (List.mem_of_getElem? hd))).2 (hle.r ?_)
  rw [List.getElem_map]
  refine hlook _ _ ?_
  have hk3:k < ((args.toList.map σ.ev) ++ caps).length:=by simpa using hk2
  have hd':((args.toList.map σ.ev) ++ caps)[k]? =some (((args.toList.map σ.ev) ++ caps)[k]):=List.getElem?_eq_getElem hk3
  generalize ((args.toList.map σ.ev) ++ caps)[k]=d1 at hd'
  by_cases hka:k < args.size
  ·rw [List.getElem?_append_left (by simpa using hka),List.getElem?_map] at hd'
   rw [Array.getElem?_append_left (by simpa using hka)] at hy
   simp [hka] at hd' hy
   rw [← hd']; subst hy
   exact hev _
  ·rw [List.getElem?_append_right (by simpa using Nat.le_of_not_lt hka)] at hd'
   rw [Array.getElem?_append_right (by simpa using Nat.le_of_not_lt hka)] at hy
   simp at hd' hy
   exact hg _ _ _ hd' hy
 ·rintro e' w' ⟨v,ι',β',r,T',⟨T1',hRes,rfl⟩,rfl,hi',hres⟩
  have hbk:=hb r T1' hRes
  simp only [backG,Bool.and_eq_true] at hbk
  obtain⟨⟨hokr,hokT'⟩,hdry⟩:=hbk
  rw [List.all_eq_true] at hokT'
  let T1q:=bkT bs T1 T1'
  have gq:∀ u,getT T1q u=bkPin (bs u) (getT T1 u) (getT T1' u):=fun u => getT_bk bs T1 T1' u
  let obB:Nat→Ob:=fun u => bkOb (getT T1 u) (getT T1' u)
  have hokB:∀ u,getT T1' u ≠ .none→okOb μ (getT T1' u)=true ∧ okBk (getT T1 u) (getT T1' u)=true ∧ (lk=true→dryOb (getT T1' u)=true ∧ dryOP (getT T1' u)):=by
   intro u hu
   have hm:=getT_mem hu
   have h1:=hokT' _ hm
   simp only [Bool.and_eq_true] at h1
   refine⟨h1.1.1,h1.2,fun hlk => ?_⟩
   rw [hlk] at hdry
   simp only [Bool.not_true,Bool.false_or,Bool.and_eq_true,List.all_eq_true] at hdry
   exact⟨hdry.2 _ hm,dryRT_mem (hdr r T1' hRes hlk) hm⟩
  let KK:=keptN μ T1 T1'
  obtain⟨hi0,hr0⟩:=killAll_inv hi hr KK
  let T0:=killTs KK σ.T
  let T2:List (Nat × Ob):=(μ.map fun q => (q.2,rnOb μ (obB q.1))) ++ T0
  have g2:∀ t,getT T2 t=match lkB μ t with | some p => rnOb μ (obB p) | none => getT T0 t:=fun t => getT_mu (fun p => rnOb μ (obB p)) T0 t μ
  let β2:Nat→Value:=fun t => match lkB μ t with | some p => β' p | none => β t
  have hβ2:∀ {t p},lkB μ t=some p→β2 t=β' p:=fun {t p} h => by simp [β2,h]
  have hβ2n:∀ {t},lkB μ t=none→β2 t=β t:=fun {t} h => by simp [β2,h]
  let ι2:Nat→Nat→Prop:=fun b o => ι' b o ∧ (ι b o ∨ w.heap.size ≤ b ∨ W b)
  have hsub2:∀ b o,ι b o→ι2 b o:=fun b o h =>⟨hi'.old b o (hsub1 b o h),.inl h⟩
  have hup:∀ {ρ:D→Value→Prop} {d y},(lk=true→d.dry=true)→R ι' w' ρ d y→R ι2 w' ρ d y:=by
   intro ρ d y hdr h
   cases hlk:lk with
   | true => exact h.dry (hdr hlk)
   | false =>
    refine h.mono (fun b o hb =>⟨hb,?_⟩) (fun _ _ _ => rfl) (fun _ _ h => h)
    rcases hi'.new b o hb with h | h | h
    ·rcases h with h | h
     ·exact .inl h
     ·rw [hlk] at h; cases h.1
    ·exact .inr (.inl h)
    ·exact .inr (.inr h)
  have hupP:∀ {d y},(lk=true→d.dry=true)→Pu ι' w' d y→Pu ι2 w' d y:=by
   intro d y hdr h
   cases hlk:lk with
   | true => exact h.dry (hdr hlk)
   | false =>
    refine h.mono (fun b o hb =>⟨hb,?_⟩) (fun _ _ _ => rfl)
    rcases hi'.new b o hb with h | h | h
    ·rcases h with h | h
     ·exact .inl h
     ·rw [hlk] at h; cases h.1
    ·exact .inr (.inl h)
    ·exact .inr (.inr h)
  have hsame2:Vx.Same μ β' T1q β2 T2:=by
   intro u t hut
   have htu:=(inj_of hinj (lkN_mem hut)).2
   refine⟨hβ2 htu,?_⟩
   rw [gq,g2,htu]
   simp only [obB]
   cases getT T1 u <;> cases getT T1' u <;> constructor
  have hpin:∀ {p t e c e2 c2},lkB μ t=some p→getT T1 p=.box e c→getT T1' p=.box e2 c2→β' p=β t ∧ ∀ b3 ty3 (c3:Array Value),(e.pinAt (bs p)).pin b3 ty3 c3→e.pin b3 ty3 c3:=by
   intro p t e c e2 c2 htp h1 h2
   obtain⟨t',a1,a2,a3,_⟩:=hT1 p (by rw [h1]; exact fun h => by cases h)
   have hpt:=(inj_of hinj (lkB_mem htp)).1
   rw [hpt] at a1; cases a1
   have hob:=hi.obj t
   rw [a3,h1] at hob
   obtain⟨b,cc,ty,hx',_,_,_,_,_,_,hp0⟩:=hob
   have hbs:bs p=b:=by show (blockOf (β0 p)).getD 0=b; rw [hβ0 hpt,hx']; rfl
   have hob':=hi'.obj p
   have hgq:=gq p
   rw [h1,h2] at hgq
   rw [show getT (bkT bs T1 T1') p=_ from hgq] at hob'
   obtain⟨b2,cc2,ty2,hx2,_,_,_,_,_,_,hp2⟩:=hob'
   rw [hbs] at hp2 ⊢
   refine⟨?_,fun b3 ty3 c3 h3 => (Ex.pinAt_out h3 hp0).2⟩
   rw [hx2,hx',(Ex.pinAt_out hp2 hp0).1]
  have hρ:∀ d y,(∀ t ∈ KK,d.names1 t=false)→rho β T0 d y→rho β2 T2 d y:=by
   have key:∀ u,(u ∉ KK)→(getT T2 u=.none ∨ (Alike (getT T0 u) (getT T2 u) ∧ β2 u=β u)):=by
    intro u hu
    cases hq:lkB μ u with
    | none => right; rw [g2,hq]; refine⟨?_,hβ2n hq⟩; simp only []; cases getT T0 u <;> constructor
    | some p =>
     have hm:=lkB_mem hq
     cases hb1:getT T1 p with
     | box e c =>
      by_cases h2:getT T1' p=.none
      ·left; rw [g2,hq]; simp only [obB,hb1,h2]; rfl
      ·obtain⟨_,hk2,_⟩:=hokB p h2
       rw [hb1] at hk2
       cases hb2:getT T1' p with
       | box e2 c2 =>
        right
        refine⟨?_,(hβ2 hq).trans (hpin hq hb1 hb2).1⟩
        obtain⟨t',a1,a2,a3,_⟩:=hT1 p (by rw [hb1]; exact fun h => by cases h)
        rw [(inj_of hinj hm).1] at a1; cases a1
        rw [g2,hq]
        simp only [obB,hb1,hb2]
        rw [hb1] at a3
        rcases killTs_alike σ.T u KK with h |⟨e3,c3,c4,h3,h4⟩
        ·rw [show getT T0 u=_ from h,a3]; exact .box _ _ _ _
        ·rw [show getT T0 u=_ from h4]; exact .box _ _ _ _
       | none => exact absurd hb2 h2
       | rows => rw [hb2] at hk2; cases hk2
       | map => rw [hb2] at hk2; cases hk2
       | bytes => rw [hb2] at hk2; cases hk2
       | pin => rw [hb2] at hk2; cases hk2
     | _ =>
      by_cases h2:getT T1' p=.none
      ·left; rw [g2,hq]; simp only [obB,hb1,h2]; rfl
      ·refine absurd ?_ hu
       refine List.mem_map.2 ⟨(p,u),List.mem_filter.2 ⟨hm,?_⟩,rfl⟩
       simp only [hb1,isBox,Bool.not_false,Bool.true_and]
       cases hq2:getT T1' p with
       | none => exact absurd hq2 h2
       | _ => rfl
   have ne:∀ {d:D} {u:Nat},(∀ t ∈ KK,d.names1 t=false)→d.names1 u=true→u ∉ KK:=fun h h1 hm => by rw [h _ hm] at h1; cases h1
   intro d y hd h
   cases d with
   | bref u off =>
    rcases key u (ne hd (by simp [D.names1])) with h0 |⟨h0,h1⟩
    ·simp only [rho,h0]
    ·simp only [rho,h1] at h ⊢
     generalize getT T0 u=o1 at h0 h; generalize getT T2 u=o2 at h0
     cases h0 <;> exact h
   | sref u =>
    rcases key u (ne hd (by simp [D.names1])) with h0 |⟨h0,h1⟩
    ·simp only [rho,h0]
    ·simp only [rho,h1] at h ⊢
     generalize getT T0 u=o1 at h0 h; generalize getT T2 u=o2 at h0
     cases h0 <;> exact h
   | eref u i off =>
    rcases key u (ne hd (by simp [D.names1])) with h0 |⟨h0,h1⟩
    ·simp only [rho,h0]
    ·simp only [rho,h1] at h ⊢
     generalize getT T0 u=o1 at h0 h; generalize getT T2 u=o2 at h0
     cases h0 <;> exact h
   | mref u =>
    rcases key u (ne hd (by simp [D.names1])) with h0 |⟨h0,h1⟩
    ·simp only [rho,h0]
    ·simp only [rho,h1] at h ⊢
     generalize getT T0 u=o1 at h0 h; generalize getT T2 u=o2 at h0
     cases h0 <;> exact h
   | _ => exact h
  have hcellι:∀ b' o',ι b' o'→w'.cell? ⟨b',o',none⟩=w.cell? ⟨b',o',none⟩:=fun b' o' h => World.cell?_of_block (w:=w) (hi'.kept b' (hi.lt b' o' h) (fun hW => hWι b' o' hW h))
  have hi2:Inv cx ι2 β2 T2 w':=by
   refine hi0.multi (fun t => (lkB μ t).isSome=true) W (fun b hb => ?_) hi'.os hi'.tape hi'.output hi'.size (fun k hk hWk => hi'.kept k hk hWk) hsub2 (fun b o h => ?_) hcellι
    (fun t ht => hβ2n (by cases hq:lkB μ t with | none => rfl | some p => exact absurd (by rw [hq]; rfl) ht)) (fun t ht => .inr (by rw [g2]; cases hq:lkB μ t with | none => rfl | some p => exact absurd (by rw [hq]; rfl) ht))
    (fun t e2 cs ht hg2 _ d hd y hy => ?_) (fun t ht => ?_) (fun t b ht hb => ?_) (fun t t' b ht ht' htt hb1 hb2 => ?_)
   ·obtain⟨u,t,a1,a2,_,a4,a5⟩:=hWt b hb
    refine⟨t,by simp only [a2]; rfl,fun h => ?_,a5⟩
    rcases killTs_alike σ.T t KK with h1 |⟨e3,c3,c4,h3,h4⟩
    ·rw [show getT T0 t=_ from h1] at h; exact a4 h
    ·rw [show getT T0 t=_ from h4] at h; cases h
   ·rcases h.2 with h1 | h1 | h1
    ·exact .inl h1
    ·exact .inr (.inl ⟨h1,hi'.lt b o h.1⟩)
    ·exact .inr (.inr h1)
   ·have hc:∀ t ∈ KK,d.names1 t=false:=fun t' ht' => killTs_clean σ.T t KK t' ht' hg2 d hd
    exact (hy.keepK1 KK hc).mono hsub2 hcellι (fun d x h => hρ d x h.1 h.2)
   ·obtain⟨p,hp⟩:=Option.isSome_iff_exists.1 ht
    have hob:=hi'.obj p
    rw [show getT (bkT bs T1 T1') p=_ from gq p] at hob
    rw [g2,hp,hβ2 hp]
    simp only [obB]
    have hpt:=(inj_of hinj (lkB_mem hp)).1
    have boxOut:∀ {e e2:Ex} {c2:List D},(∀ b3 ty3 (c3:Array Value),e.pin b3 ty3 c3→e2.pin b3 ty3 c3)→e.own=true→e2.own=true→c2.all (ok0 μ)=true→(lk=true→D.dryL c2=true)→ObOk ι' w' (rho β' T1q) (β' p) (.box e c2)→ObOk ι2 w' (rho β2 T2) (β' p) (.box e2 (c2.map (Vx.rn0 μ))):=by
     intro e e2 c2 hpn ho ho2 hck hdr ⟨b,c,ty,hx',hh,hlen,hone,hcl,hex,hsh,hp0⟩
     refine⟨b,c,ty,hx',hh,by simpa using hlen,hone,fun k d y hd hy => ?_,fun _ o' h => hex ho o' h.1,fun h => (by rw [ho2] at h; cases h),hpn _ _ _ hp0⟩
     refine (R.rnL (ι:=ι2) (w:=w') hsame2 hck (k:=k) (y:=y)).1 (fun d' hd' => ?_) d hd
     exact hup (fun hlk => dryL_mem (hdr hlk) (List.mem_of_getElem? hd')) (hcl k d' y hd' hy)
    by_cases h2:getT T1' p=.none
    ·rw [h2]; cases getT T1 p <;> trivial
    ·obtain⟨hk1,hk2,hk3⟩:=hokB p h2
     cases hb1:getT T1 p with
     | box e c =>
      cases hb2:getT T1' p with
      | box e2 c2 =>
       rw [hb1,hb2] at hob
       rw [hb2] at hk1 hk3
       simp only [okOb,Bool.and_eq_true] at hk1
       obtain⟨_,_,_,_,hoku⟩:=hT1 p (by rw [hb1]; exact fun h => by cases h)
       rw [hb1] at hoku
       simp only [okOb,Bool.and_eq_true] at hoku
       exact boxOut (hpin hp hb1 hb2).2 (Ex.pinAt_own _ _) hoku.1 hk1.2 (fun h => (hk3 h).1) hob
      | none => trivial
      | rows => rw [hb1,hb2] at hk2; cases hk2
      | map => rw [hb1,hb2] at hk2; cases hk2
      | bytes => rw [hb1,hb2] at hk2; cases hk2
      | pin => rw [hb1,hb2] at hk2; cases hk2
     | _ =>
      rw [hb1] at hob
      cases hb2:getT T1' p with
      | box e2 c2 =>
       rw [hb2] at hob hk1 hk3
       simp only [okOb,Bool.and_eq_true] at hk1
       exact boxOut (fun _ _ _ h => h) hk1.1 hk1.1 hk1.2 (fun h => (hk3 h).1) hob
      | none => trivial
      | rows ex ety sz rs =>
       rw [hb2] at hob hk1 hk3
       simp only [okOb] at hk1
       subst hk1
       obtain⟨xs,hown,hrs,hx1,hxR,hfree⟩:=hob
       refine⟨xs,hown,hrs,hx1,fun k d y hd hy => hupP (fun hlk => ?_) (hxR k d y hd hy),fun b hb =>⟨fun o' _ h => (hfree b hb).2.1 rfl o' h.1,fun _ o' h => (hfree b hb).2.1 rfl o' h.1,fun h => by cases h⟩⟩
       have h5:=(hk3 hlk).2
       obtain⟨rr,hr1,hr2⟩:=List.mem_flatten.1 (List.mem_of_getElem? hd)
       exact dryL_mem (h5 rr hr1) hr2
      | map es =>
       rw [hb2] at hob hk3
       obtain⟨r',es',cl,hx',hh,hlen,hno,hE⟩:=hob
       refine⟨r',es',cl,hx',hh,hlen,fun o' h => hno o' h.1,fun k pp e hp he => ?_⟩
       have h5:lk=true→pp.1.dry=true ∧ pp.2.dry=true:=fun hlk => by
        exact (hk3 hlk).2 pp (List.mem_of_getElem? hp)
       exact⟨hupP (fun hlk => (h5 hlk).1) (hE k pp e hp he).1,hupP (fun hlk => (h5 hlk).2) (hE k pp e hp he).2.1,(hE k pp e hp he).2.2⟩
      | pin s ety sz rs =>
       rw [hb2] at hob hk3
       obtain⟨hs',xs,hown,hrs,hx1,hxR,hfree⟩:=hob
       refine⟨hs',xs,hown,hrs,hx1,fun k d y hd hy => hupP (fun hlk => ?_) (hxR k d y hd hy),fun b hb =>⟨fun o' _ h => (hfree b hb).2.1 rfl o' h.1,fun _ o' h => (hfree b hb).2.1 rfl o' h.1,fun h => by cases h⟩⟩
       have h5:=(hk3 hlk).2
       obtain⟨rr,hr1,hr2⟩:=List.mem_flatten.1 (List.mem_of_getElem? hd)
       exact dryL_mem (h5 rr hr1) hr2
      | bytes ys =>
       rw [hb2] at hob
       obtain⟨r',cap,cur,fz,ety,hx',hh,h5,h6,hno⟩:=hob
       exact⟨r',cap,cur,fz,ety,hx',hh,h5,h6,fun o' h => hno o' h.1⟩
   ·obtain⟨p,hp⟩:=Option.isSome_iff_exists.1 ht
    rw [hβ2 hp] at hb
    rcases hi'.mine p b hb with h | h | h
    ·left
     rw [show getT (bkT bs T1 T1') p=_ from gq p] at h
     rw [g2,hp]
     simp only [obB]
     cases h1:getT T1 p <;> cases h2:getT T1' p <;> rw [h1,h2] at h <;> first | rfl | cases h
    ·exact .inr (.inl h)
    ·exact .inr (.inr h)
   ·obtain⟨p,hp⟩:=Option.isSome_iff_exists.1 ht
    obtain⟨p',hp'⟩:=Option.isSome_iff_exists.1 ht'
    rw [hβ2 hp] at hb1
    rw [hβ2 hp'] at hb2
    have hpp:p ≠ p':=fun e => htt (by
     have h1:=(inj_of hinj (lkB_mem hp)).1
     have h2:=(inj_of hinj (lkB_mem hp')).1
     rw [e] at h1; rw [h1] at h2; exact Option.some.inj h2)
    have out:∀ {p t},lkB μ t=some p→getT (bkT bs T1 T1') p=.none→getT T2 t=.none:=by
     intro p t hp h
     rw [show getT (bkT bs T1 T1') p=_ from gq p] at h
     rw [g2,hp]
     simp only [obB]
     cases h1:getT T1 p <;> cases h2:getT T1' p <;> rw [h1,h2] at h <;> first | rfl | cases h
    rcases hi'.apart p p' b hpp hb1 hb2 with h | h
    ·exact .inl (out hp h)
    ·exact .inr (out hp' h)
  refine hk (postG μ T1 T1' r σ o.dst) _ _ ⟨r,T1',hRes,rfl⟩ (Sim.put1 (T:=T2) hi2 (fun s => ?_) hsz hdf (dstB_lt hn) ?_)
  ·exact ((hr0 s).keepK KK (fun t ht => killAll_clean σ.fr s KK t ht)).mono hsub2 hcellι (fun d x h => hρ d x h.1 h.2)
  ·refine hup (fun hlk => ?_) ((R.rn2 hsame2 hokr).1 hres)
   rw [hlk] at hdry
   simp only [Bool.not_true,Bool.false_or,Bool.and_eq_true] at hdry
   exact rn2_dry hdry.1
theorem OpOk.callG {P:Program} {n:Nat} {o:Oper} {σ:St} {x:Operand} {args:Array Operand} {ts:Array TypeId} {f:Nat} {caps ds:List D} {T1 T1':List (Nat × Ob)} {r:D} (μ:List (Nat × Nat)) (lk:Bool)
  (ho:o.op=.call { callee:=.value x,args:=args,argTypes:=ts }) (hx:σ.ev x=.clo f caps) (hc:callable P f=true)
  (hf:∀ bs,Fn P f ds (pinT bs T1) r (bkT bs T1 T1'))
  (hds:leL (ds.map (rn2 μ)) (((args.toList.map σ.ev) ++ caps).map (lookG μ lk σ.T))) (hok:(goG μ T1 && ds.all (ok2 μ))=true)
  (hT:T1.map (fun p => getT σ.T ((lkN μ p.1).getD 0))=T1.map (fun p => rnOb μ p.2)) (hb:backG μ lk T1 T1' r=true) (hdr:lk=true→dryRT T1') (hn:dstB n o.dst=true):OpOk P n o σ (postG μ T1 T1' r σ o.dst):=
 fun cx a w K Q hs hk => OpX.callG (Res:=fun r' T'' => r'=r ∧ T''=T1') μ lk ho hx hc (fun bs w ι β vs hi hl hr => ((hf bs).x w ι β vs hi hl hr).mono fun _ _ ⟨v,ι',β',r',T',⟨h1,h2⟩,h⟩ =>⟨v,ι',β',r',T',⟨T1',⟨h1,rfl⟩,h2⟩,h⟩)
  hds hok hT (fun r' T'' h => by rw [h.1,h.2]; exact hb) (fun r' T'' h hl => by rw [h.2]; exact hdr hl) hn cx a w K Q hs fun σ' a' w' ⟨r',T'',h,e⟩ hs' => hk a' w' (by rw [h.1,h.2] at e; exact e ▸ hs')
end
end Go.Proofs.Vx
