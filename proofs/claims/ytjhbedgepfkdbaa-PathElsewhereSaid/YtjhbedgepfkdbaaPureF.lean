import Derived.Test.YtjhbedgepfkdbaaPureE
namespace Go.Proofs.Ytjhbedgepfkdbaa.Pure
open Go Go.RowKit Go.Proofs.Vx Go.Proofs.Ytjhbedgepfkdbaa.Sh
theorem njB_at:∀ (l:List Bool) (j:Nat) (h:j + 1 < l.length),njB l=true→¬ (l[j]=true ∧ l[j + 1]=true)
 | [],j,h,_ => by simp at h
 | [a],j,h,_ => by simp at h
 | a :: b :: l,0,h,hn => by
  rw [njB,Bool.and_eq_true] at hn
  rintro ⟨h1,h2⟩
  have h1:a=true:=h1
  have h2:b=true:=h2
  rw [h1,h2] at hn; simp at hn
 | a :: b :: l,j + 1,h,hn => by
  have:=njB_at (b :: l) j (by simpa using h) (njB_cons hn)
  simpa using this
theorem nj_at {l:List T_api_Node} {j:Nat} (hn:nj l=true) (h:j + 1 < l.length):¬ ((rd l (j:Int)).Kind=2 ∧ (rd l ((j + 1:Nat):Int)).Kind=2):=by
 have h1:rd l (j:Int)=l[j]:=by have:j < l.length:=by omega
                               simp [rd,this]
 have h2:rd l ((j + 1:Nat):Int)=l[j + 1]:=by simp only [rd,Int.toNat_natCast]; simp [h]
 rw [h1,h2]
 have:=njB_at (l.map isT) j (by simpa using h) hn
 simpa [isT] using this
theorem joined_l (k:Nat) (l:List T_api_Node) (h9:l.length ≤ 1000000000) (hn:nj l=true):∀ (m j:Nat),j ≤ l.length→l.length < j + m→path_joined.l0 k l m (l.take j) (j:Int)=some l:=by
 intro m
 induction m with
 | zero => intro j h1 h2; omega
 | succ m ih =>
  intro j h1 h2
  unfold path_joined.l0
  by_cases hj:j < l.length
  ·have htl:(l.take j).length=j:=by rw [List.length_take]; omega
   have ew:IntKind.i64.wrap (((l.take j).length:Int) - 1)=(j:Int) - 1:=by rw [htl,w64 (by omega) (by omega)]
   have hcond:¬ ((((decide ((j:Int) - 1 ≥ 0)) && (((rd l (j:Int)).Kind) == 2)) && (((rd (l.take j) ((j:Int) - 1)).Kind) == 2))=true):=by
    intro hc
    rw [Bool.and_eq_true,Bool.and_eq_true,decide_eq_true_eq] at hc
    obtain⟨⟨c1,c2⟩,c3⟩:=hc
    obtain⟨i,rfl⟩:∃ i,j=i + 1:=⟨j - 1,by omega⟩
    have e:((i + 1:Nat):Int) - 1=(i:Int):=by omega
    rw [e] at c3
    have e3:rd (l.take (i + 1)) (i:Int)=rd l (i:Int):=by
     have h5:i < l.length:=by omega
     simp [rd,List.getElem?_take]
    rw [e3] at c3
    exact nj_at hn hj ⟨by simpa using c3,by simpa using c2⟩
   rw [if_pos (by simp; omega),if_pos (by omega),ew,if_pos (by
    intro hc
    have hc2:((decide ((j:Int) - 1 ≥ 0)) && (((rd l (j:Int)).Kind) == 2))=true:=by simpa using hc
    rw [Bool.and_eq_true,decide_eq_true_eq] at hc2
    rw [htl]; omega),if_neg hcond,if_pos (by rw [htl]; simp; omega),wi (by omega)]
   have e5:l.take j ++ [rd l (j:Int)]=l.take (j + 1):=by
    have:rd l (j:Int)=l[j]:=by simp [rd,hj]
    rw [this,List.take_succ_eq_append_getElem hj]
   rw [e5]
   exact ih (j + 1) (by omega) (by omega)
  ·rw [if_neg (by simp; omega),List.take_of_length_le (by omega)]
theorem joined_eq (k:Nat) (l:List T_api_Node) (h9:l.length ≤ 1000000000) (hk:l.length < k) (hn:nj l=true):path_joined k l=some l:=by
 have:=joined_l k l h9 hn k 0 (by omega) (by omega)
 exact this
theorem kidsG_T {F:List T_api_Node→Option (List T_api_Node)} {n:T_api_Node} {l:List T_api_Node} (hF:F n.Kids=some l) (hk:n.Kind=1) (h9:l.length ≤ 1000000000) (hn:nj l=true):kidsG F n=some (⟨n.Kind,n.Name,n.Attrs,l,n.Text⟩,true):=by
 unfold kidsG
 rw [hF]
 simp only
 rw [if_pos hk,joined_eq _ l h9 (by omega) hn]; rfl
theorem kidsG_N {F:List T_api_Node→Option (List T_api_Node)} {n:T_api_Node} (hF:F n.Kids=none):kidsG F n=some (zeroN,false):=by
 unfold kidsG; rw [hF]
theorem kidsG_K {F:List T_api_Node→Option (List T_api_Node)} {n:T_api_Node} {l:List T_api_Node} (hF:F n.Kids=some l) (hk:n.Kind ≠ 1):kidsG F n=some (zeroN,false):=by
 unfold kidsG; rw [hF]; simp only; rw [if_neg hk]
def RtN (n:T_api_Node):Prop:=∀ p,valid p n→nj (atN p n).Kids=true ∧ ((atN p n).Kids ≠ []→(atN p n).Kind=1)
def withK (o:T_api_Node) (l:List T_api_Node):T_api_Node:=⟨o.Kind,o.Name,o.Attrs,l,o.Text⟩
theorem withK_self (o:T_api_Node):withK o o.Kids=o:=by cases o; rfl
theorem rd_last (p:List Int) (b:Int):rd (p ++ [b]) (((p ++ [b]).length:Int) - 1)=b:=by
 have e:((p ++ [b]).length:Int) - 1=(p.length:Int):=by simp
 rw [e]; simp [rd]
theorem replace_nil (k:Nat) (n x:T_api_Node) (hw:wt n ≤ 1000000000) (hx:wt x ≤ 1000000000):path_Replace k n x []=some (x,true):=by
 unfold path_Replace
 rw [if_pos ⟨hw,hx,by simp⟩,if_pos rfl]
theorem replace_eq (k:Nat) (n x:T_api_Node) (i:Int) (q:List Int) (hw:wt n ≤ 1000000000) (hx:wt x ≤ 1000000000) (h9:q.length ≤ 100000000) (hv:valid q n) (hi:0 ≤ i ∧ i < ((atN q n).Kids.length:Int)) (hk:(atN q n).Kind=1) (hn:nj ((atN q n).Kids.set i.toNat x)=true) :
  path_Replace k n x (q ++ [i])=some (put (withK (atN q n) ((atN q n).Kids.set i.toNat x)) q n,true):=by
 unfold path_Replace
 have hlen:=wt_kids (atN q n)
 have hww:=atN_wt q n hv
 rw [if_pos ⟨hw,hx,by simp; omega⟩,if_neg (by simp),rd_last,List.dropLast_concat]
 refine chg_T _ q n _ hv ?_
 have hF:repF i x (atN q n).Kids=some ((atN q n).Kids.set i.toNat x):=by unfold repF; rw [if_pos hi]
 exact kidsG_T hF hk (by simp; omega) hn
theorem replace_two (k:Nat) (n x:T_api_Node) (p:List Int) (hw:wt n ≤ 100000000) (hx:wt x ≤ 100000000) (h9:p.length ≤ 100000000) (hR:RtN n) (hx1:x.Kind=1) (hv:valid p n) (ho:(atN p n).Kind=1) :
  path_Replace k n x p=some (put x p n,true) ∧ path_Replace k (put x p n) (atN p n) p=some (n,true):=by
 rcases List.eq_nil_or_concat p with rfl |⟨q,i,rfl⟩
 ·exact⟨replace_nil k n x (by omega) (by omega),replace_nil k x n (by omega) (by omega)⟩
 ·rw [List.concat_eq_append] at *
  obtain⟨hq,hi,_⟩:=(valid_app q [i] n).1 hv
  have hne:(atN q n).Kids ≠ []:=fun h0 => by rw [h0] at hi; simp at hi; omega
  have hR':=hR q hq
  have hk:=hR'.2 hne
  have hat:atN (q ++ [i]) n=rd (atN q n).Kids i:=by rw [atN_app]; rfl
  rw [hat] at ho
  have hpx:put x (q ++ [i]) n=put (withK (atN q n) ((atN q n).Kids.set i.toNat x)) q n:=by rw [put_app]; rfl
  have hl:q.length ≤ 100000000:=by simp at h9; omega
  refine⟨?_,?_⟩
  ·rw [hpx]
   exact replace_eq k n x i q (by omega) (by omega) hl hq hi hk (nj_set hR'.1 hi hx1 ho)
  ·have hwm:wt (put x (q ++ [i]) n) ≤ 1000000000:=by have:=wt_put x (q ++ [i]) n hv; omega
   have hwo:wt (atN (q ++ [i]) n) ≤ 1000000000:=by have:=atN_wt (q ++ [i]) n hv; omega
   have hvm:valid q (put x (q ++ [i]) n):=by rw [hpx]; exact valid_put _ q n hq
   have ham:atN q (put x (q ++ [i]) n)=withK (atN q n) ((atN q n).Kids.set i.toNat x):=by rw [hpx]; exact atN_put _ q n hq
   have hkm:(atN q (put x (q ++ [i]) n)).Kids=(atN q n).Kids.set i.toNat x:=by rw [ham]; rfl
   have hset:((atN q n).Kids.set i.toNat x).set i.toNat (rd (atN q n).Kids i)=(atN q n).Kids:=by rw [List.set_set,set_rdN hi]
   have:=replace_eq k (put x (q ++ [i]) n) (atN (q ++ [i]) n) i q hwm hwo hl hvm (by rw [hkm,List.length_set]; exact hi) (by rw [ham]; exact hk) (by rw [hkm,hat,hset]; exact hR'.1)
   rw [this,hkm,hat,hset,ham,hpx,put_put _ _ q n hq]
   have:withK (withK (atN q n) ((atN q n).Kids.set i.toNat x)) (atN q n).Kids=atN q n:=withK_self (atN q n)
   rw [this,put_self q n hq]
end Go.Proofs.Ytjhbedgepfkdbaa.Pure
