import Derived.Test.YtjhbedgepfkdbaaPureC
namespace Go.Proofs.Ytjhbedgepfkdbaa.Pure
open Go Go.RowKit Go.Proofs.Vx Go.Proofs.Ytjhbedgepfkdbaa.Sh
def put (y:T_api_Node):List Int→T_api_Node→T_api_Node
 | [],_ => y
 | i :: q,n =>⟨n.Kind,n.Name,n.Attrs,n.Kids.set i.toNat (put y q (rd n.Kids i)),n.Text⟩
theorem rd_setN {l:List T_api_Node} {i:Int} {r:T_api_Node} (h:0 ≤ i ∧ i < (l.length:Int)):rd (l.set i.toNat r) i=r:=by
 have hj:i.toNat < l.length:=by omega
 simp [rd,hj]
theorem set_rdN {l:List T_api_Node} {i:Int} (h:0 ≤ i ∧ i < (l.length:Int)):l.set i.toNat (rd l i)=l:=by
 have hj:i.toNat < l.length:=by omega
 have:rd l i=l[i.toNat]:=by simp [rd,hj]
 rw [this,List.set_getElem_self]
theorem chg_T (g:T_api_Node→Option (T_api_Node × Bool)):∀ (p:List Int) (n y:T_api_Node),valid p n→g (atN p n)=some (y,true)→chg g p n=some (put y p n,true)
 | [],n,y,_,h => h
 | i :: q,n,y,hv,h => by
  unfold chg
  rw [if_pos hv.1,chg_T g q _ y hv.2 h]; rfl
theorem chg_F (g:T_api_Node→Option (T_api_Node × Bool)):∀ (p:List Int) (n z:T_api_Node),valid p n→g (atN p n)=some (z,false)→∃ z',chg g p n=some (z',false)
 | [],n,z,_,h =>⟨z,h⟩
 | i :: q,n,z,hv,h => by
  obtain⟨z',e⟩:=chg_F g q _ z hv.2 h
  refine⟨zeroN,?_⟩
  unfold chg
  rw [if_pos hv.1,e]; rfl
theorem valid_put (y:T_api_Node):∀ (p:List Int) (n:T_api_Node),valid p n→valid p (put y p n)
 | [],n,_ => trivial
 | i :: q,n,hv => by
  refine⟨by show 0 ≤ i ∧ i < ((n.Kids.set i.toNat _).length:Int); rw [List.length_set]; exact hv.1,?_⟩
  show valid q (rd (n.Kids.set i.toNat (put y q (rd n.Kids i))) i)
  rw [rd_setN hv.1]; exact valid_put y q _ hv.2
theorem atN_put (y:T_api_Node):∀ (p:List Int) (n:T_api_Node),valid p n→atN p (put y p n)=y
 | [],n,_ => rfl
 | i :: q,n,hv => by
  show atN q (rd (n.Kids.set i.toNat (put y q (rd n.Kids i))) i)=y
  rw [rd_setN hv.1]; exact atN_put y q _ hv.2
theorem put_put (y z:T_api_Node):∀ (p:List Int) (n:T_api_Node),valid p n→put z p (put y p n)=put z p n
 | [],n,_ => rfl
 | i :: q,n,hv => by
  show T_api_Node.mk n.Kind n.Name n.Attrs ((n.Kids.set i.toNat (put y q (rd n.Kids i))).set i.toNat (put z q (rd (n.Kids.set i.toNat (put y q (rd n.Kids i))) i))) n.Text=_
  rw [rd_setN hv.1,put_put y z q _ hv.2,List.set_set]; rfl
theorem put_self:∀ (p:List Int) (n:T_api_Node),valid p n→put (atN p n) p n=n
 | [],n,_ => rfl
 | i :: q,n,hv => by
  show T_api_Node.mk n.Kind n.Name n.Attrs (n.Kids.set i.toNat (put (atN q (rd n.Kids i)) q (rd n.Kids i))) n.Text=n
  rw [put_self q _ hv.2,set_rdN hv.1]
  cases n; rfl
theorem atS_T:∀ (p:List Int) (n:T_api_Node),valid p n→atS p n=(atN p n,true)
 | [],n,_ => rfl
 | i :: q,n,hv => by rw [atS,if_pos hv.1,atS_T q _ hv.2]; rfl
theorem atS_F:∀ (p:List Int) (n:T_api_Node),¬ valid p n→atS p n=(zeroN,false)
 | [],n,hv => absurd trivial hv
 | i :: q,n,hv => by
  rw [atS]
  by_cases hi:0 ≤ i ∧ i < (n.Kids.length:Int)
  ·rw [if_pos hi,atS_F q _ fun h => hv ⟨hi,h⟩]
  ·rw [if_neg hi]
theorem valid_app:∀ (p q:List Int) (n:T_api_Node),valid (p ++ q) n ↔ valid p n ∧ valid q (atN p n)
 | [],q,n =>⟨fun h =>⟨trivial,h⟩,fun h => h.2⟩
 | i :: p,q,n => by
  show (_ ∧ valid (p ++ q) (rd n.Kids i)) ↔ ((_ ∧ valid p (rd n.Kids i)) ∧ valid q (atN p (rd n.Kids i)))
  rw [valid_app p q]
  exact⟨fun h =>⟨⟨h.1,h.2.1⟩,h.2.2⟩,fun h =>⟨h.1.1,h.1.2,h.2⟩⟩
theorem atN_app:∀ (p q:List Int) (n:T_api_Node),atN (p ++ q) n=atN q (atN p n)
 | [],q,n => rfl
 | i :: p,q,n => atN_app p q (rd n.Kids i)
theorem put_app (y:T_api_Node):∀ (p q:List Int) (n:T_api_Node),put y (p ++ q) n=put (put y q (atN p n)) p n
 | [],q,n => rfl
 | i :: p,q,n => by
  show T_api_Node.mk n.Kind n.Name n.Attrs (n.Kids.set i.toNat (put y (p ++ q) (rd n.Kids i))) n.Text=_
  rw [put_app y p q]; rfl
theorem wtL_set (r:T_api_Node):∀ (l:List T_api_Node) (i:Nat) (h:i < l.length),wtL (l.set i r) + wt l[i]=wtL l + wt r
 | [],i,h => by simp at h
 | a :: l,0,h => by rw [List.set_cons_zero,wtL,wtL]; show _ + wt a=_; omega
 | a :: l,i + 1,h => by
  have:=wtL_set r l i (by simpa using h)
  rw [List.set_cons_succ,wtL,wtL,List.getElem_cons_succ]
  omega
theorem wt_put (y:T_api_Node):∀ (p:List Int) (n:T_api_Node),valid p n→wt (put y p n) ≤ wt n + wt y
 | [],n,_ => by show wt y ≤ _; omega
 | i :: q,n,hv => by
  have hj:i.toNat < n.Kids.length:=by have:=hv.1; omega
  have h1:=wt_put y q _ hv.2
  have h2:=wtL_set (put y q (rd n.Kids i)) n.Kids i.toNat hj
  have h3:rd n.Kids i=n.Kids[i.toNat]:=by simp [rd,hj]
  rw [← h3] at h2
  have e1:=wt_eq (put y (i :: q) n)
  have e2:=wt_eq n
  have e3:(put y (i :: q) n).Kids=n.Kids.set i.toNat (put y q (rd n.Kids i)):=rfl
  rw [e3] at e1
  have e4:(put y (i :: q) n).Attrs=n.Attrs:=rfl
  have e5:(put y (i :: q) n).Text=n.Text:=rfl
  have e6:(put y (i :: q) n).Name=n.Name:=rfl
  rw [e4] at e1
  simp only [e5,e6] at e1
  omega
def njB:List Bool→Bool
 | a :: b :: l => !(a && b) && njB (b :: l)
 | _ => true
def isT (n:T_api_Node):Bool:=n.Kind == 2
def nj (l:List T_api_Node):Bool:=njB (l.map isT)
theorem njB_cons {a:Bool} {l:List Bool} (h:njB (a :: l)=true):njB l=true:=by
 cases l with
 | nil => rfl
 | cons b l => rw [njB,Bool.and_eq_true] at h; exact h.2
theorem njB_false {l:List Bool} (h:njB l=true):njB (false :: l)=true:=by
 cases l with
 | nil => rfl
 | cons b l => rw [njB,h]; rfl
theorem nj_set {l:List T_api_Node} {x:T_api_Node} {i:Int} (h:nj l=true) (hi:0 ≤ i ∧ i < (l.length:Int)) (hx:x.Kind=1) (ho:(rd l i).Kind=1):nj (l.set i.toNat x)=true:=by
 have hj:i.toNat < l.length:=by omega
 have h3:rd l i=l[i.toNat]:=by simp [rd,hj]
 unfold nj at *
 have hx2:isT x=false:=by simp [isT,hx]
 rw [List.map_set,hx2]
 have:(l.map isT).set i.toNat false=l.map isT:=by
  have hg:(l.map isT)[i.toNat]'(by simpa using hj)=false:=by rw [List.getElem_map,← h3]; simp [isT,ho]
  rw [← hg,List.set_getElem_self]
 rw [this]; exact h
end Go.Proofs.Ytjhbedgepfkdbaa.Pure
