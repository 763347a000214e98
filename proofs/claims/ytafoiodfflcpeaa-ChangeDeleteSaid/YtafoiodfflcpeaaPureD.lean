import Derived.Test.YtafoiodfflcpeaaPureB
namespace Go.Proofs.Ytafoiodfflcpeaa.Pure
open Go Go.RowKit Go.Proofs.Vx Go.Proofs.Ytafoiodfflcpeaa.Sh
set_option maxRecDepth 100000
def put (y:T_api_Node):List Int→T_api_Node→T_api_Node
 | [],_ => y
 | i :: q,n =>⟨n.Kind,n.Name,n.Attrs,n.Kids.set i.toNat (put y q (rd n.Kids i)),n.Text⟩
theorem rd_setN {l:List T_api_Node} {i:Int} {r:T_api_Node} (h:0 ≤ i ∧ i < (l.length:Int)):rd (l.set i.toNat r) i=r:=by
 have hj:i.toNat < l.length:=by omega
 simp [rd,hj]
theorem set_rdN {l:List T_api_Node} {i:Int} (h:0 ≤ i ∧ i < (l.length:Int)):l.set i.toNat (rd l i)=l:=by
 have hj:i.toNat < l.length:=by omega
 have:rd l i=l[i.toNat]:=by simp [rd,hj]
 rw [this,List.set_getElem_self]
theorem chg_T (g:T_api_Node→Option (T_api_Node × Bool)):∀ (p:List Int) (n y:T_api_Node),valid p n→g (atN p n)=some (y,true)→chg g p n=some (put y p n,true)
 | [],n,y,_,h => h
 | i :: q,n,y,hv,h => by
  unfold chg
  rw [if_pos hv.1,chg_T g q _ y hv.2 h]; rfl
theorem valid_put (y:T_api_Node):∀ (p:List Int) (n:T_api_Node),valid p n→valid p (put y p n)
 | [],n,_ => trivial
 | i :: q,n,hv => by
  refine⟨by show 0 ≤ i ∧ i < ((n.Kids.set i.toNat _).length:Int); rw [List.length_set]; exact hv.1,?_⟩
  show valid q (rd (n.Kids.set i.toNat (put y q (rd n.Kids i))) i)
  rw [rd_setN hv.1]; exact valid_put y q _ hv.2
theorem atN_put (y:T_api_Node):∀ (p:List Int) (n:T_api_Node),valid p n→atN p (put y p n)=y
 | [],n,_ => rfl
 | i :: q,n,hv => by
  show atN q (rd (n.Kids.set i.toNat (put y q (rd n.Kids i))) i)=y
  rw [rd_setN hv.1]; exact atN_put y q _ hv.2
theorem put_put (y z:T_api_Node):∀ (p:List Int) (n:T_api_Node),valid p n→put z p (put y p n)=put z p n
 | [],n,_ => rfl
 | i :: q,n,hv => by
  show T_api_Node.mk n.Kind n.Name n.Attrs ((n.Kids.set i.toNat (put y q (rd n.Kids i))).set i.toNat (put z q (rd (n.Kids.set i.toNat (put y q (rd n.Kids i))) i))) n.Text=_
  rw [rd_setN hv.1,put_put y z q _ hv.2,List.set_set]; rfl
theorem put_self:∀ (p:List Int) (n:T_api_Node),valid p n→put (atN p n) p n=n
 | [],n,_ => rfl
 | i :: q,n,hv => by
  show T_api_Node.mk n.Kind n.Name n.Attrs (n.Kids.set i.toNat (put (atN q (rd n.Kids i)) q (rd n.Kids i))) n.Text=n
  rw [put_self q _ hv.2,set_rdN hv.1]
  cases n; rfl
theorem atS_T:∀ (p:List Int) (n:T_api_Node),valid p n→atS p n=(atN p n,true)
 | [],n,_ => rfl
 | i :: q,n,hv => by rw [atS,if_pos hv.1,atS_T q _ hv.2]; rfl
def njB:List Bool→Bool
 | a :: b :: l => !(a && b) && njB (b :: l)
 | _ => true
def isT (n:T_api_Node):Bool:=n.Kind == 2
def nj (l:List T_api_Node):Bool:=njB (l.map isT)
theorem njB_cons {a:Bool} {l:List Bool} (h:njB (a :: l)=true):njB l=true:=by
 cases l with
 | nil => rfl
 | cons b l => rw [njB,Bool.and_eq_true] at h; exact h.2
theorem njB_false {l:List Bool} (h:njB l=true):njB (false :: l)=true:=by
 cases l with
 | nil => rfl
 | cons b l => rw [njB,h]; rfl
theorem njB_ins:∀ (l:List Bool) (i:Nat),njB l=true→njB (l.take i ++ false :: l.drop i)=true
 | l,0,h => by simpa using njB_false h
 | [],i + 1,_ => rfl
 | [a],i + 1,_ => by cases a <;> simp [njB]
 | a :: b :: l,1,h => by
  show njB (a :: false :: b :: l)=true
  rw [njB,njB_false (njB_cons h)]; simp
 | a :: b :: l,i + 2,h => by
  have:=njB_ins (b :: l) (i + 1) (njB_cons h)
  rw [njB,Bool.and_eq_true] at h
  show njB (a :: b :: (l.take i ++ false :: l.drop i))=true
  rw [njB,h.1]
  exact this
theorem nj_ins {l:List T_api_Node} {x:T_api_Node} (i:Nat) (h:nj l=true) (hx:x.Kind=1):nj (l.take i ++ x :: l.drop i)=true:=by
 unfold nj at *
 have hx2:isT x=false:=by simp [isT,hx]
 rw [List.map_append,List.map_cons,hx2,List.map_take,List.map_drop]
 exact njB_ins _ i h
end Go.Proofs.Ytafoiodfflcpeaa.Pure
