import Derived.Test.YtjhbedgepfkdbaaPureU
namespace Go.Proofs.Ytjhbedgepfkdbaa.Pure
open Go Go.RowKit Go.Proofs.Vx Go.Proofs.Ytjhbedgepfkdbaa.Sh
def atS:List Int→T_api_Node→T_api_Node × Bool
 | [],n => (n,true)
 | i :: q,n => if 0 ≤ i ∧ i < (n.Kids.length:Int) then atS q (rd n.Kids i) else (zeroN,false)
theorem rd_drop {p:List Int} {j:Nat} (h:j < p.length):p.drop j=rd p (j:Int) :: p.drop (j + 1):=by
 have:rd p (j:Int)=p[j]:=by simp [rd,h]
 rw [this]; exact List.drop_eq_getElem_cons h
theorem at_l (k:Nat) (hk:4000000010 ≤ k) (p:List Int) (h9:p.length ≤ 1000000000) (y0:Int) (y1 y2:Str) (y3:List T_api_Attr) (y4:List T_api_Node) (y5:Str):∀ (m j:Nat) (n:T_api_Node),wt n ≤ 1000000000→j ≤ p.length→p.length < j + m→
  path_At.l0 k p m n.Kind n.Name.Space n.Name.Local n.Attrs n.Kids n.Text y0 y1 y2 y3 y4 y5 (j:Int)=some (atS (p.drop j) n):=by
 intro m
 induction m with
 | zero => intro j n _ h1 h2; omega
 | succ m ih =>
  intro j n hw h1 h2
  unfold path_At.l0
  by_cases hj:j < p.length
  ·rw [if_pos (by simp; omega),if_pos (by omega),path_kid,Option.bind_some,rd_drop hj]
   unfold atS
   by_cases hi:0 ≤ rd p (j:Int) ∧ rd p (j:Int) < (n.Kids.length:Int)
   ·rw [if_neg (by simp; omega),if_pos hi,if_pos hi,wi (by omega)]
    exact ih (j + 1) _ (kidw hi hw) (by omega) (by omega)
   ·rw [if_pos (by simp; omega),if_neg hi]; rfl
  ·have hjl:j=p.length:=by omega
   rw [if_neg (by simp; omega),show T_api_Node.mk n.Kind (T_api_Name.mk n.Name.Space n.Name.Local) n.Attrs n.Kids n.Text=n from by cases n; rfl,copy_eq (wt n) k n (Nat.le_refl _) hw (by omega),Option.bind_some,hjl,List.drop_length]
   rfl
theorem at_eq (k:Nat) (hk:4000000010 ≤ k) (p:List Int) (h9:p.length ≤ 1000000000) (n:T_api_Node) (hw:wt n ≤ 1000000000):path_At k n p=some (atS p n):=by
 have:=at_l k hk p h9 0 [] [] [] [] [] k 0 n hw (by omega) (by omega)
 rw [List.drop_zero] at this
 exact this
def plcL (P:T_api_Node→List (List Int)):List T_api_Node→Nat→List (List Int)
 | [],_ => []
 | n :: l,i => (P n).map ((i:Int) :: ·) ++ plcL P l (i + 1)
mutual
def plc:T_api_Node→List (List Int)
 | .mk kd _ _ ks _ => if kd=1 then [] :: plcK ks 0 else []
def plcK:List T_api_Node→Nat→List (List Int)
 | [],_ => []
 | n :: l,i => (plc n).map ((i:Int) :: ·) ++ plcK l (i + 1)
end
theorem plcK_eq:∀ (l:List T_api_Node) (i:Nat),plcK l i=plcL plc l i
 | [],_ => rfl
 | n :: l,i => by rw [plcK,plcL,plcK_eq l]
theorem plc_eq (n:T_api_Node):plc n=if n.Kind=1 then [] :: plcL plc n.Kids 0 else []:=by
 cases n; rw [plc,plcK_eq]
theorem plcL_bound (P:T_api_Node→List (List Int)):∀ (l:List T_api_Node) (i:Nat),(∀ n ∈ l,(P n).length ≤ wt n ∧ ∀ p ∈ P n,p.length < wt n)→(plcL P l i).length ≤ wtL l ∧ ∀ p ∈ plcL P l i,p.length ≤ wtL l
 | [],_,_ =>⟨Nat.zero_le _,fun p hp => by cases hp⟩
 | n :: l,i,h => by
  obtain⟨h1,h2⟩:=h n List.mem_cons_self
  obtain⟨h3,h4⟩:=plcL_bound P l (i + 1) fun m hm => h m (List.mem_cons_of_mem _ hm)
  rw [plcL,wtL]
  refine⟨by simp; omega,fun p hp => ?_⟩
  rcases List.mem_append.1 hp with hp | hp
  ·obtain⟨q,hq,rfl⟩:=List.mem_map.1 hp
   have:=h2 q hq
   simp; omega
  ·have:=h4 p hp; omega
theorem plc_bound:∀ (d:Nat) (n:T_api_Node),wt n ≤ d→(plc n).length ≤ wt n ∧ ∀ p ∈ plc n,p.length < wt n:=by
 intro d
 induction d with
 | zero => intro n h; have:=wt_pos n; omega
 | succ d ih =>
  intro n h
  have hw:=wt_eq n
  rw [plc_eq]
  split
  ·obtain⟨h1,h2⟩:=plcL_bound plc n.Kids 0 fun m hm => ih m (by have:=kid_lt hm; omega)
   refine⟨by simp; omega,fun p hp => ?_⟩
   rcases List.mem_cons.1 hp with rfl | hp
   ·simp; omega
   ·have:=h2 p hp; omega
  ·exact⟨Nat.zero_le _,fun p hp => by cases hp⟩
theorem rd_dropL {l:List (List Int)} {j:Nat} (h:j < l.length):l.drop j=rd l (j:Int) :: l.drop (j + 1):=by
 have:rd l (j:Int)=l[j]:=by simp [rd,h]
 rw [this]; exact List.drop_eq_getElem_cons h
theorem rd_dropN {l:List T_api_Node} {j:Nat} (h:j < l.length):l.drop j=rd l (j:Int) :: l.drop (j + 1):=by
 have:rd l (j:Int)=l[j]:=by simp [rd,h]
 rw [this]; exact List.drop_eq_getElem_cons h
theorem places_l1 (k:Nat) (c0:List (List Int)→Int→Option (List (List Int))) (a0:T_api_Node) (x:Nat) (hx:x ≤ 1000000000) (t:List (List Int)) (ht:t.length ≤ 1000000000) (hp:∀ p ∈ t,p.length ≤ 1000000000):∀ (m j:Nat) (y:List (List Int)),y.length + (t.length - j) ≤ 2000000000→j ≤ t.length→t.length < j + m→
  path_Places.l1 k c0 a0 (x:Int) t m y (j:Int)=c0 (y ++ (t.drop j).map ((x:Int) :: ·)) ((x + 1:Nat):Int):=by
 intro m
 induction m with
 | zero => intro j y _ h1 h2; omega
 | succ m ih =>
  intro j y hy h1 h2
  unfold path_Places.l1
  by_cases hj:j < t.length
  ·have hm:rd t (j:Int) ∈ t:=by simp [rd,hj]
   have:=hp _ hm
   rw [if_pos (by simp; omega),if_pos (by omega),if_pos (by simp; omega),if_pos (by simp; omega),wi (by omega),ih (j + 1) _ (by simp; omega) (by omega) (by omega),rd_dropL hj,List.map_cons]
   simp
  ·have hjl:j=t.length:=by omega
   rw [if_neg (by simp; omega),hjl,List.drop_length,List.map_nil,List.append_nil,wi (by omega)]
theorem places_l0 (k:Nat) (hk:4000000010 ≤ k) (self:T_api_Node→Option (List (List Int))) (n:T_api_Node) (hw:wt n ≤ 1000000000) (hs:∀ q ∈ n.Kids,self q=some (plc q)):∀ (m j:Nat) (y:List (List Int)),y.length + (plcL plc (n.Kids.drop j) j).length ≤ 2000000000→j ≤ n.Kids.length→n.Kids.length < j + m→
  path_Places.l0 k self n m y (j:Int)=some (y ++ plcL plc (n.Kids.drop j) j):=by
 have hkl:=wt_kids n
 intro m
 induction m with
 | zero => intro j y _ h1 h2; omega
 | succ m ih =>
  intro j y hy h1 h2
  unfold path_Places.l0
  by_cases hj:j < n.Kids.length
  ·have hm:rd n.Kids (j:Int) ∈ n.Kids:=by simp [rd,hj]
   obtain⟨b1,b2⟩:=plc_bound _ (rd n.Kids (j:Int)) (Nat.le_refl _)
   have hlt:=kid_lt hm
   rw [rd_dropN hj] at hy ⊢
   rw [plcL] at hy ⊢
   simp only [List.length_append,List.length_map] at hy
   have e:=places_l1 k (path_Places.l0 k self n m) n j (by omega) (plc (rd n.Kids (j:Int))) (by omega) (fun p hp => by have:=b2 p hp; omega) k 0 y (by omega) (by omega) (by omega)
   rw [show ((0:Nat):Int)=0 from rfl] at e
   rw [if_pos (by simp; omega),if_pos (by omega),hs _ hm,Option.bind_some,e,List.drop_zero,
    ih (j + 1) _ (by simp; omega) (by omega) (by omega),List.append_assoc]
  ·have hjl:j=n.Kids.length:=by omega
   rw [if_neg (by simp; omega),hjl,List.drop_length,plcL,List.append_nil]
theorem places_eq:∀ (d k:Nat) (n:T_api_Node),wt n ≤ d→wt n ≤ 1000000000→wt n + 4000000010 ≤ k→path_Places k n=some (plc n):=by
 intro d
 induction d with
 | zero => intro k n h1 h2; have:=wt_pos n; omega
 | succ d ih =>
  intro k n h1 h2 h3
  obtain⟨k,rfl⟩:∃ z,k=z + 1:=⟨k - 1,by omega⟩
  have hb:=(plc_bound _ n (Nat.le_refl _)).1
  have hwp:=wt_pos n
  have hkl:=wt_kids n
  rw [path_Places,plc_eq]
  rw [plc_eq] at hb
  by_cases hk1:n.Kind=1
  ·rw [if_neg (by simp [hk1]),if_pos hk1]
   rw [if_pos hk1] at hb
   have:=places_l0 k (by omega) (path_Places k) n h2 (fun q hq => ih k q (by have:=kid_lt hq; omega) (by have:=kid_lt hq; omega) (by have:=kid_lt hq; omega)) k 0 [[]] (by rw [List.drop_zero]; simp at hb ⊢; omega) (by omega) (by omega)
   rw [List.drop_zero] at this
   exact this
  ·rw [if_pos (by simp [hk1]),if_neg hk1]
end Go.Proofs.Ytjhbedgepfkdbaa.Pure
