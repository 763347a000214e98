import Derived.Test.YtafoiodfflcpeaaPureE
namespace Go.Proofs.Ytafoiodfflcpeaa.Pure
open Go Go.RowKit Go.Proofs.Vx Go.Proofs.Ytafoiodfflcpeaa.Sh
set_option maxRecDepth 100000
theorem njB_at:∀ (l:List Bool) (j:Nat) (h:j + 1 < l.length),njB l=true→¬ (l[j]=true ∧ l[j + 1]=true)
 | [],j,h,_ => by simp at h
 | [a],j,h,_ => by simp at h
 | a :: b :: l,0,h,hn => by
  rw [njB,Bool.and_eq_true] at hn
  rintro ⟨h1,h2⟩
  have h1:a=true:=h1
  have h2:b=true:=h2
  rw [h1,h2] at hn; simp at hn
 | a :: b :: l,j + 1,h,hn => by
  have:=njB_at (b :: l) j (by simpa using h) (njB_cons hn)
  simpa using this
theorem nj_at {l:List T_api_Node} {j:Nat} (hn:nj l=true) (h:j + 1 < l.length):¬ ((rd l (j:Int)).Kind=2 ∧ (rd l ((j + 1:Nat):Int)).Kind=2):=by
 have h1:rd l (j:Int)=l[j]:=by have:j < l.length:=by omega
                               simp [rd,this]
 have h2:rd l ((j + 1:Nat):Int)=l[j + 1]:=by simp only [rd,Int.toNat_natCast]; simp [h]
 rw [h1,h2]
 have:=njB_at (l.map isT) j (by simpa using h) hn
 simpa [isT] using this
theorem joined_l (k:Nat) (l:List T_api_Node) (h9:l.length ≤ 1000000000) (hn:nj l=true):∀ (m j:Nat),j ≤ l.length→l.length < j + m→path_joined.l0 k l m (l.take j) (j:Int)=some l:=by
 intro m
 induction m with
 | zero => intro j h1 h2; omega
 | succ m ih =>
  intro j h1 h2
  unfold path_joined.l0
  by_cases hj:j < l.length
  ·have htl:(l.take j).length=j:=by rw [List.length_take]; omega
   have ew:IntKind.i64.wrap (((l.take j).length:Int) - 1)=(j:Int) - 1:=by rw [htl,w64 (by omega) (by omega)]
   have hcond:¬ ((((decide ((j:Int) - 1 ≥ 0)) && (((rd l (j:Int)).Kind) == 2)) && (((rd (l.take j) ((j:Int) - 1)).Kind) == 2))=true):=by
    intro hc
    rw [Bool.and_eq_true,Bool.and_eq_true,decide_eq_true_eq] at hc
    obtain⟨⟨c1,c2⟩,c3⟩:=hc
    obtain⟨i,rfl⟩:∃ i,j=i + 1:=⟨j - 1,by omega⟩
    have e:((i + 1:Nat):Int) - 1=(i:Int):=by omega
    rw [e] at c3
    have e3:rd (l.take (i + 1)) (i:Int)=rd l (i:Int):=by
     have h5:i < l.length:=by omega
     simp [rd,List.getElem?_take]
    rw [e3] at c3
    exact nj_at hn hj ⟨by simpa using c3,by simpa using c2⟩
   rw [if_pos (by simp; omega),if_pos (by omega),ew,if_pos (by
    intro hc
    have hc2:((decide ((j:Int) - 1 ≥ 0)) && (((rd l (j:Int)).Kind) == 2))=true:=by simpa using hc
    rw [Bool.and_eq_true,decide_eq_true_eq] at hc2
    rw [htl]; omega),if_neg hcond,if_pos (by rw [htl]; simp; omega),wi (by omega)]
   have e5:l.take j ++ [rd l (j:Int)]=l.take (j + 1):=by
    have:rd l (j:Int)=l[j]:=by simp [rd,hj]
    rw [this,List.take_succ_eq_append_getElem hj]
   rw [e5]
   exact ih (j + 1) (by omega) (by omega)
  ·rw [if_neg (by simp; omega),List.take_of_length_le (by omega)]
theorem joined_eq (k:Nat) (l:List T_api_Node) (h9:l.length ≤ 1000000000) (hk:l.length < k) (hn:nj l=true):path_joined k l=some l:=by
 have:=joined_l k l h9 hn k 0 (by omega) (by omega)
 exact this
theorem kidsG_T {F:List T_api_Node→Option (List T_api_Node)} {n:T_api_Node} {l:List T_api_Node} (hF:F n.Kids=some l) (hk:n.Kind=1) (h9:l.length ≤ 1000000000) (hn:nj l=true):kidsG F n=some (⟨n.Kind,n.Name,n.Attrs,l,n.Text⟩,true):=by
 unfold kidsG
 rw [hF]
 simp only
 rw [if_pos hk,joined_eq _ l h9 (by omega) hn]; rfl
theorem kidsG_N {F:List T_api_Node→Option (List T_api_Node)} {n:T_api_Node} (hF:F n.Kids=none):kidsG F n=some (zeroN,false):=by
 unfold kidsG; rw [hF]
theorem kidsG_K {F:List T_api_Node→Option (List T_api_Node)} {n:T_api_Node} {l:List T_api_Node} (hF:F n.Kids=some l) (hk:n.Kind ≠ 1):kidsG F n=some (zeroN,false):=by
 unfold kidsG; rw [hF]; simp only; rw [if_neg hk]
theorem take_drop_ins {l:List T_api_Node} {x:T_api_Node} {i:Nat} (h:i ≤ l.length):(l.take i ++ x :: l.drop i).take i ++ (l.take i ++ x :: l.drop i).drop (i + 1)=l:=by
 have ht:(l.take i).length=i:=by rw [List.length_take]; omega
 rw [List.take_append,List.drop_append,ht,Nat.sub_self,List.take_zero,List.append_nil,List.take_take,Nat.min_self,List.drop_of_length_le (by omega),List.nil_append,show i + 1 - i=1 by omega,List.drop_succ_cons,List.drop_zero,List.take_append_drop]
def RtN (n:T_api_Node):Prop:=∀ p,valid p n→nj (atN p n).Kids=true ∧ ((atN p n).Kids ≠ []→(atN p n).Kind=1)
def withK (o:T_api_Node) (l:List T_api_Node):T_api_Node:=⟨o.Kind,o.Name,o.Attrs,l,o.Text⟩
theorem withK_self (o:T_api_Node):withK o o.Kids=o:=by cases o; rfl
theorem rd_last (p:List Int) (b:Int):rd (p ++ [b]) (((p ++ [b]).length:Int) - 1)=b:=by
 have e:((p ++ [b]).length:Int) - 1=(p.length:Int):=by simp
 rw [e]; simp [rd]
theorem remove_eq (k:Nat) (m:T_api_Node) (b:Int) (p:List Int) (hw:wt m ≤ 1000000000) (h9:p.length ≤ 100000000) (hv:valid p m) (hb:0 ≤ b ∧ b < ((atN p m).Kids.length:Int)) (hk:(atN p m).Kind=1) (hn:nj ((atN p m).Kids.take b.toNat ++ (atN p m).Kids.drop (b.toNat + 1))=true) :
  path_Remove k m (p ++ [b])=some (put (withK (atN p m) ((atN p m).Kids.take b.toNat ++ (atN p m).Kids.drop (b.toNat + 1))) p m,true):=by
 unfold path_Remove
 have hlen:=wt_kids (atN p m)
 have hww:=atN_wt p m hv
 rw [if_pos ⟨hw,by simp; omega⟩,if_neg (by simp),rd_last,List.dropLast_concat]
 refine chg_T _ p m _ hv ?_
 have hF:remF b (atN p m).Kids=some ((atN p m).Kids.take b.toNat ++ (atN p m).Kids.drop (b.toNat + 1)):=by unfold remF; rw [if_pos hb]
 exact kidsG_T hF hk (by simp; omega) hn
def isA (sp lo:Str) (a:T_api_Attr):Bool:=a.Name.Space == sp && (a.Name.Local == lo && true)
end Go.Proofs.Ytafoiodfflcpeaa.Pure
