import Derived.Test.YtafoiodfflcpeaaPureE
namespace Go.Proofs.Ytafoiodfflcpeaa.Pure
open Go Go.RowKit Go.Proofs.Vx Go.Proofs.Ytafoiodfflcpeaa.Sh
set_option maxRecDepth 100000
def isA (sp lo:Str) (a:T_api_Attr):Bool:=a.Name.Space == sp && (a.Name.Local == lo && true)
theorem rd_memA {l:List T_api_Attr} {i:Nat} (h:i < l.length):rd l (i:Int) ∈ l:=by
 have:rd l (i:Int)=l[i]:=by simp [rd,h]
 rw [this]; exact List.getElem_mem h
theorem idx_last (k:Nat) (l:List T_api_Attr) (a:T_api_Attr) (sp lo:Str) (h9:l.length ≤ 1000000000) (hn:∀ a ∈ l,isA sp lo a=false) (ha:isA sp lo a=true):∀ (m j:Nat),j ≤ l.length→l.length < j + m→slices_IndexFunc_72.l0 k (l ++ [a]) sp lo m (j:Int)=some (l.length:Int):=by
 intro m
 induction m with
 | zero => intro j h1 h2; omega
 | succ m ih =>
  intro j h1 h2
  unfold slices_IndexFunc_72.l0
  rw [if_pos (by simp; omega),if_pos (by simp; omega)]
  by_cases hj:j < l.length
  ·have e0:rd (l ++ [a]) (j:Int)=rd l (j:Int):=by simp [rd,hj,List.getElem?_append_left]
   have hb:=hn _ (rd_memA hj)
   have e:path_named_1 (rd l (j:Int)) sp lo=some false:=by unfold path_named_1; rw [← hb]; rfl
   rw [e0,e,Option.bind_some,if_neg (by simp),wi (by omega)]
   exact ih (j + 1) (by omega) (by omega)
  ·have hjl:j=l.length:=by omega
   have e0:rd (l ++ [a]) (j:Int)=a:=by rw [hjl]; simp [rd]
   have e:path_named_1 a sp lo=some true:=congrArg some ha
   rw [e0,e,Option.bind_some,if_pos rfl,hjl]
theorem named_last (k:Nat) (l:List T_api_Attr) (a:T_api_Attr) (h9:l.length ≤ 1000000000) (hk:l.length < k) (hn:∀ b ∈ l,isA a.Name.Space a.Name.Local b=false):path_named k (l ++ [a]) a.Name=some (l.length:Int):=by
 unfold path_named slices_IndexFunc_72
 have:=idx_last k l a a.Name.Space a.Name.Local h9 hn (by unfold isA; simp) k 0 (by omega) (by omega)
 rw [show ((0:Nat):Int)=0 from rfl] at this
 rw [this]; rfl
theorem getS_no {l:List T_api_Attr} {sp lo:Str} (h:(getS l sp lo).2=false):∀ a ∈ l,isA sp lo a=false:=by
 induction l with
 | nil => intro a ha; cases ha
 | cons b l ih =>
  rw [getS_cons] at h
  by_cases hb:(b.Name.Space == sp && (b.Name.Local == lo && true))=true
  ·rw [if_pos hb] at h; cases h
  ·rw [if_neg hb] at h
   intro a ha
   rcases List.mem_cons.1 ha with rfl | ha
   ·unfold isA; simpa using hb
   ·exact ih h a ha
def withA (o:T_api_Node) (l:List T_api_Attr):T_api_Node:=⟨o.Kind,o.Name,l,o.Kids,o.Text⟩
theorem dropattr_eq (k:Nat) (n:T_api_Node) (a:T_api_Attr) (l:List T_api_Attr) (p:List Int) (hw:wt n ≤ 1000000000) (hv:valid p n) (hk:(atN p n).Kind=1) (ha:(atN p n).Attrs=l ++ [a]) (hn:∀ b ∈ l,isA a.Name.Space a.Name.Local b=false) :
  path_DropAttr k n a.Name p=some (put (withA (atN p n) l) p n,true):=by
 have hlen:=wt_attrs (atN p n)
 have hww:=atN_wt p n hv
 unfold path_DropAttr
 rw [if_pos hw]
 refine chg_T _ p n _ hv ?_
 unfold attrsG dropF
 rw [ha] at hlen ⊢
 rw [List.length_append,List.length_singleton] at hlen
 rw [named_last _ _ _ (by omega) (by omega) hn,Option.bind_some,if_neg (by omega),if_pos (by simp; omega)]
 simp only [Option.map_some]
 rw [if_pos hk,Int.toNat_natCast,List.take_left,List.drop_of_length_le (by simp),List.append_nil]; rfl
end Go.Proofs.Ytafoiodfflcpeaa.Pure
