import Derived.Test.YtafoiodfflcpeaaPureM
namespace Go.Proofs.Ytafoiodfflcpeaa.Pure
open Go Go.RowKit Go.Proofs.Vx Go.Proofs.Ytafoiodfflcpeaa.Sh
set_option maxRecDepth 100000
def zst:T_api_Step:=T_api_Step.mk 0 false (T_api_Name.mk ([]:Str) ([]:Str)) 0 false (T_api_Name.mk ([]:Str) ([]:Str)) ([]:Str)
def lastS (l:List T_api_Step):T_api_Step:=rd l ((l.length - 1:Nat):Int)
def splitS (l:List T_api_Step):List T_api_Step × T_api_Step:=if 0 < l.length ∧ ((lastS l).Kind=2 ∨ (lastS l).Kind=3) then (l.dropLast,lastS l) else (l,zst)
theorem sl_drop (l:List T_api_Step):sl l 0 ((l.length - 1:Nat):Int)=l.dropLast:=by
 simp [sl,List.dropLast_eq_take]
theorem split_eq (l:List T_api_Step) (h:l.length ≤ 600000):match_Split l=some (splitS l):=by
 unfold match_Split splitS
 by_cases h0:l.length=0
 ·have e:decide ((l.length:Int) > 0)=false:=decide_eq_false (by omega)
  rw [e]
  simp only [Bool.false_and,Bool.false_eq_true,false_implies,if_true,if_false,show (false == true)=false from rfl]
  rw [clone_eq l h,if_neg (by omega)]; rfl
 ·have e:IntKind.i64.wrap ((l.length:Int) - 1)=((l.length - 1:Nat):Int):=by rw [w64 (by omega) (by omega)]; omega
  rw [e,if_pos (fun _ => by omega),if_pos (fun _ => by omega),show rd l ((l.length - 1:Nat):Int)=lastS l from rfl]
  have e2:decide ((l.length:Int) > 0)=true:=decide_eq_true (by omega)
  rw [e2]
  by_cases hk:(lastS l).Kind=2 ∨ (lastS l).Kind=3
  ·rw [if_pos (by rcases hk with hk | hk <;> simp [hk]),if_pos (by omega),sl_drop,clone_eq _ (by simp; omega),Option.bind_some,if_pos (by omega),if_pos ⟨by omega,hk⟩]
  ·have hk':¬ (lastS l).Kind=2 ∧ ¬ (lastS l).Kind=3:=⟨fun h => hk (.inl h),fun h => hk (.inr h)⟩
   rw [if_neg (by simp [hk'.1,hk'.2]),clone_eq l h,if_neg (fun h => hk h.2)]; rfl
theorem splitS_len (l:List T_api_Step):(splitS l).1.length ≤ l.length:=by
 unfold splitS
 split
 ·simp
 ·exact Nat.le_refl _
def hasA (n:T_api_Node) (s:T_api_Step):Bool:=(getS n.Attrs s.Name.Space s.Name.Local).2
def sel (n:T_api_Node) (l:List T_api_Step):List Int × Int:=
 if (FS n (splitS l).1).length=0 then ([],5) else if 1 < (FS n (splitS l).1).length then ([],35) else if (splitS l).2.Kind=2 ∧ hasA (atM n (rd (FS n (splitS l).1) 0)) (splitS l).2=false then ([],5) else (rd (FS n (splitS l).1) 0,0)
theorem select_eq (k:Nat) (hk:9000000000 ≤ k) (n:T_api_Node) (l:List T_api_Step) (hl:l.length ≤ 600000) (hw:wt n ≤ 300000):match_Select k n l=some (sel n l):=by
 have hs:=splitS_len l
 unfold match_Select sel
 rw [split_eq l hl,Option.bind_some,mFind_eq k hk n _ (by omega) hw,Option.bind_some]
 have hB:=FS_bnd n (splitS l).1 hw
 generalize FS n (splitS l).1=F at hB ⊢
 by_cases h0:F.length=0
 ·rw [if_pos (by simp [h0]),if_pos h0]
 ·rw [if_neg (by simp; intro h; exact h0 (by rw [h]; rfl)),if_neg h0]
  by_cases h1:1 < F.length
  ·rw [if_pos (by simp; omega),if_pos h1]
  ·rw [if_neg (by simp; omega),if_neg h1]
   have hm:rd F 0 ∈ F:=by
    have:0 < F.length:=by omega
    simp [rd,this]
   obtain⟨g1,g2⟩:=hB.2 _ hm
   obtain⟨g3,_⟩:=atM_wt _ n g1
   have hj:match_Select.j0 F=some (rd F 0,0):=by unfold match_Select.j0; rw [if_pos (by omega)]
   by_cases hk2:(splitS l).2.Kind=2
   ·have ha:=wt_attrs (atM n (rd F 0))
    rw [if_pos (by simp [hk2]),if_pos (by omega),atm_eq k hk n _ (by omega) g1,Option.bind_some,get_eq k _ _ (by omega) (by omega),Option.bind_some,hj]
    unfold hasA
    cases hg:(getS (atM n (rd F 0)).Attrs (splitS l).2.Name.Space (splitS l).2.Name.Local).2 with
    | true => rw [if_neg (by simp),if_neg (by simp)]
    | false => rw [if_pos (by simp),if_pos ⟨hk2,rfl⟩]
   ·rw [if_neg (by simpa using hk2),if_neg (fun h => hk2 h.1),hj]
theorem one_of {F:List (List Int)} (h0:¬ F.length=0) (h1:¬ 1 < F.length):F=[rd F 0]:=by
 match F,h0,h1 with
 | [p],_,_ => rfl
 | [],h,_ => exact absurd rfl h
 | _ :: _ :: _,_,h => exact absurd (by simp) h
theorem sel_ok {n:T_api_Node} {l:List T_api_Step} (h:(sel n l).2=0):FS n (splitS l).1=[(sel n l).1] ∧ ((splitS l).2.Kind=2→hasA (atM n (sel n l).1) (splitS l).2=true):=by
 unfold sel at *
 by_cases h0:(FS n (splitS l).1).length=0
 ·rw [if_pos h0] at h; cases h
 ·rw [if_neg h0] at h ⊢
  by_cases h1:1 < (FS n (splitS l).1).length
  ·rw [if_pos h1] at h; cases h
  ·rw [if_neg h1] at h ⊢
   by_cases h2:(splitS l).2.Kind=2 ∧ hasA (atM n (rd (FS n (splitS l).1) 0)) (splitS l).2=false
   ·rw [if_pos h2] at h; cases h
   ·rw [if_neg h2]
    refine⟨one_of h0 h1,fun hk => ?_⟩
    cases hg:hasA (atM n (rd (FS n (splitS l).1) 0)) (splitS l).2 with
    | true => rfl
    | false => exact absurd ⟨hk,hg⟩ h2
theorem sel_of {n:T_api_Node} {l:List T_api_Step} {p:List Int} (h:FS n (splitS l).1=[p]) (h2:(splitS l).2.Kind=2→hasA (atM n p) (splitS l).2=true):sel n l=(p,0):=by
 unfold sel
 rw [h,if_neg (by simp),if_neg (by simp)]
 show (if (splitS l).2.Kind=2 ∧ hasA (atM n p) (splitS l).2=false then (([]:List Int),(5:Int)) else (p,0))=(p,0)
 rw [if_neg (fun hc => by rw [h2 hc.1] at hc; cases hc.2)]
theorem sel_no {n:T_api_Node} {l:List T_api_Step} {p:List Int} (h:FS n (splitS l).1=[p]) (h1:(splitS l).2.Kind=2) (h2:hasA (atM n p) (splitS l).2=false):sel n l=([],5):=by
 unfold sel
 rw [h,if_neg (by simp),if_neg (by simp)]
 show (if (splitS l).2.Kind=2 ∧ hasA (atM n p) (splitS l).2=false then (([]:List Int),(5:Int)) else (p,0))=([],5)
 rw [if_pos ⟨h1,h2⟩]
theorem plc_valid:∀ (p:List Int) (n:T_api_Node),p ∈ plc n→valid p n ∧ atN p n=atM n p ∧ (atN p n).Kind=1
 | [],n,h =>⟨trivial,rfl,(plc_mem h).1⟩
 | i :: p,n,h => by
  rcases (plc_mem h).2 with h0 |⟨j,q,h1,h2,h3,h4⟩
  ·cases h0
  ·injection h1 with e1 e2
   subst e1; subst e2
   obtain⟨g1,g2,g3⟩:=plc_valid p _ h3
   exact⟨⟨⟨by omega,by omega⟩,g1⟩,g2,g3⟩
theorem sel_place {n:T_api_Node} {l:List T_api_Step} (h:(sel n l).2=0):valid (sel n l).1 n ∧ atN (sel n l).1 n=atM n (sel n l).1 ∧ (atN (sel n l).1 n).Kind=1:=by
 have h1:=(sel_ok h).1
 have hm:(sel n l).1 ∈ FS n (splitS l).1:=by rw [h1]; exact List.mem_singleton.2 rfl
 exact plc_valid _ _ (List.mem_filter.1 hm).1
theorem sel_len {n:T_api_Node} {l:List T_api_Step} (hw:wt n ≤ 300000):(sel n l).1.length ≤ 300000:=by
 by_cases h:(sel n l).2=0
 ·have h1:=(sel_ok h).1
  have hm:(sel n l).1 ∈ FS n (splitS l).1:=by rw [h1]; exact List.mem_singleton.2 rfl
  exact ((FS_bnd n _ hw).2 _ hm).2
 ·unfold sel at *
  by_cases h0:(FS n (splitS l).1).length=0
  ·rw [if_pos h0]; simp
  ·rw [if_neg h0] at h ⊢
   by_cases h1:1 < (FS n (splitS l).1).length
   ·rw [if_pos h1]; simp
   ·rw [if_neg h1] at h ⊢
    by_cases h2:(splitS l).2.Kind=2 ∧ hasA (atM n (rd (FS n (splitS l).1) 0)) (splitS l).2=false
    ·rw [if_pos h2]; simp
    ·rw [if_neg h2] at h; exact absurd rfl h
theorem wfL_set (r:T_api_Node):∀ (l:List T_api_Node) (i:Nat) (h:i < l.length),wfL (l.set i r) + wf l[i]=wfL l + wf r
 | [],i,h => by simp at h
 | a :: l,0,h => by rw [List.set_cons_zero,wfL,wfL]; show _ + wf a=_; omega
 | a :: l,i + 1,h => by
  have:=wfL_set r l i (by simpa using h)
  rw [List.set_cons_succ,wfL,wfL,List.getElem_cons_succ]
  omega
theorem wf_put (y:T_api_Node):∀ (p:List Int) (n:T_api_Node),valid p n→wf (put y p n) + wf (atN p n)=wf n + wf y
 | [],n,_ => by show wf y + wf n=_; omega
 | i :: q,n,hv => by
  have hj:i.toNat < n.Kids.length:=by have:=hv.1; omega
  have h1:=wf_put y q _ hv.2
  have h2:=wfL_set (put y q (rd n.Kids i)) n.Kids i.toNat hj
  have h3:rd n.Kids i=n.Kids[i.toNat]:=by simp [rd,hj]
  rw [← h3] at h2
  have e1:=wf_eq (put y (i :: q) n)
  have e2:=wf_eq n
  have e3:(put y (i :: q) n).Kids=n.Kids.set i.toNat (put y q (rd n.Kids i)):=rfl
  have e4:(put y (i :: q) n).Attrs=n.Attrs:=rfl
  have e5:(put y (i :: q) n).Text=n.Text:=rfl
  have e6:(put y (i :: q) n).Name=n.Name:=rfl
  rw [e3,e4,e5,e6] at e1
  show _ + wf (atN q (rd n.Kids i))=_
  omega
theorem wf_zero:wf zeroN=1:=by rw [wf_eq]; simp [zeroN,wtA,wfL]
def ixA (sp lo:Str):List T_api_Attr→Option Nat
 | [] => none
 | b :: l => if isA sp lo b then some 0 else (ixA sp lo l).map (· + 1)
theorem idx_eq (k:Nat) (l:List T_api_Attr) (sp lo:Str) (h9:l.length ≤ 1000000000):∀ (m j:Nat),j ≤ l.length→l.length < j + m→slices_IndexFunc_72.l0 k l sp lo m (j:Int)=some (match ixA sp lo (l.drop j) with | some i => ((j + i:Nat):Int) | none => -1):=by
 intro m
 induction m with
 | zero => intro j h1 h2; omega
 | succ m ih =>
  intro j h1 h2
  unfold slices_IndexFunc_72.l0
  by_cases hj:j < l.length
  ·rw [if_pos (by simp; omega),if_pos (by omega),rd_dropA hj,ixA]
   have e:path_named_1 (rd l (j:Int)) sp lo=some (isA sp lo (rd l (j:Int))):=rfl
   rw [e,Option.bind_some]
   cases hb:isA sp lo (rd l (j:Int)) with
   | true => rw [if_pos rfl,if_pos rfl]; rfl
   | false =>
    rw [if_neg (by simp),if_neg (by simp),wi (by omega),ih (j + 1) (by omega) (by omega)]
    cases ixA sp lo (l.drop (j + 1)) with
    | none => rfl
    | some i => simp only [Option.map_some]; congr 2; omega
  ·rw [if_neg (by simp; omega),List.drop_of_length_le (by omega)]; rfl
theorem named_eq2 (k:Nat) (l:List T_api_Attr) (nm:T_api_Name) (h9:l.length ≤ 1000000000) (hk:l.length < k):path_named k l nm=some (match ixA nm.Space nm.Local l with | some i => (i:Int) | none => -1):=by
 unfold path_named slices_IndexFunc_72
 have:=idx_eq k l nm.Space nm.Local h9 k 0 (by omega) (by omega)
 rw [show ((0:Nat):Int)=0 from rfl,List.drop_zero] at this
 rw [this,Option.bind_some]
 cases ixA nm.Space nm.Local l with
 | none => rfl
 | some i => simp only [Nat.zero_add]
theorem ixA_lt {sp lo:Str}:∀ {l:List T_api_Attr} {i:Nat},ixA sp lo l=some i→i < l.length
 | [],i,h => by cases h
 | b :: l,i,h => by
  rw [ixA] at h
  split at h
  ·cases h; simp
  ·obtain⟨j,hj,rfl⟩:=Option.map_eq_some_iff.1 h
   have:=ixA_lt hj
   simp; omega
def attS (a:T_api_Attr):List T_api_Attr→List T_api_Attr
 | [] => [a]
 | b :: l => if isA a.Name.Space a.Name.Local b then a :: l else b :: attS a l
theorem attS_none {a:T_api_Attr}:∀ {l:List T_api_Attr},ixA a.Name.Space a.Name.Local l=none→attS a l=l ++ [a]
 | [],_ => rfl
 | b :: l,h => by
  rw [ixA] at h
  rw [attS]
  split at h
  ·cases h
  ·rename_i hb
   rw [if_neg hb,attS_none (Option.map_eq_none_iff.1 h)]; rfl
theorem attS_some {a:T_api_Attr}:∀ {l:List T_api_Attr} {i:Nat},ixA a.Name.Space a.Name.Local l=some i→attS a l=l.set i a
 | [],i,h => by cases h
 | b :: l,i,h => by
  rw [ixA] at h
  rw [attS]
  split at h
  ·rename_i hb; cases h; rw [if_pos hb]; rfl
  ·rename_i hb
   obtain⟨j,hj,rfl⟩:=Option.map_eq_some_iff.1 h
   rw [if_neg hb,attS_some hj]; rfl
theorem isA_self (a:T_api_Attr):isA a.Name.Space a.Name.Local a=true:=by unfold isA; simp
theorem attS_idem (a:T_api_Attr):∀ l:List T_api_Attr,attS a (attS a l)=attS a l
 | [] => by rw [attS,attS,if_pos (isA_self a)]
 | b :: l => by
  rw [attS]
  split
  ·rw [attS,if_pos (isA_self a)]
  ·rename_i hb; rw [attS,if_neg hb,attS_idem a l]
theorem getS_attS (a:T_api_Attr):∀ l:List T_api_Attr,getS (attS a l) a.Name.Space a.Name.Local=(a.Value,true)
 | [] => by rw [attS,getS_cons]; exact if_pos (isA_self a)
 | b :: l => by
  rw [attS]
  split
  ·rw [getS_cons]; exact if_pos (isA_self a)
  ·rename_i hb; rw [getS_cons,getS_attS a l]; exact if_neg hb
theorem attS_w (a:T_api_Attr):∀ l:List T_api_Attr,(attS a l).length ≤ l.length + 1 ∧ wtA (attS a l) ≤ wtA l + (a.Name.Space.length + a.Name.Local.length + a.Value.length)
 | [] => by simp [attS,wtA]
 | b :: l => by
  obtain⟨h1,h2⟩:=attS_w a l
  rw [attS]
  split
  ·rw [wtA,wtA]; simp; omega
  ·rw [wtA,wtA]; simp; omega
theorem setF_eq (a:T_api_Attr) (l:List T_api_Attr) (h9:l.length ≤ 1000000000):setF a l=some (some (attS a l)):=by
 unfold setF
 rw [named_eq2 _ _ _ h9 (by omega),Option.bind_some]
 cases h:ixA a.Name.Space a.Name.Local l with
 | none => rw [attS_none h]; rfl
 | some i =>
  have:=ixA_lt h
  simp only
  rw [if_neg (by omega),if_pos (by omega),Int.toNat_natCast,attS_some h]
theorem set_any (k:Nat) (n:T_api_Node) (a:T_api_Attr) (p:List Int) (hw:wf n ≤ 100000000) (hv:valid p n) (hk:(atN p n).Kind=1):path_SetAttr k n a p=some (put (withA (atN p n) (attS a (atN p n).Attrs)) p n,true) ∧ wf (put (withA (atN p n) (attS a (atN p n).Attrs)) p n) ≤ wf n + (1 + a.Name.Space.length + a.Name.Local.length + a.Value.length):=by
 have hlen:=wt_attrs (atN p n)
 have hww:=atN_wt p n hv
 have:=wt_wf n
 refine⟨?_,?_⟩
 ·unfold path_SetAttr
  rw [if_pos (by omega)]
  refine chg_T _ p n _ hv ?_
  unfold attrsG
  rw [setF_eq a _ (by omega)]
  simp only [Option.map_some]
  rw [if_pos hk]; rfl
 ·have h1:=wf_put (withA (atN p n) (attS a (atN p n).Attrs)) p n hv
  obtain⟨h2,h3⟩:=attS_w a (atN p n).Attrs
  have e1:=wf_eq (withA (atN p n) (attS a (atN p n).Attrs))
  have e2:=wf_eq (atN p n)
  simp only [withA] at e1 h1 ⊢
  omega
end Go.Proofs.Ytafoiodfflcpeaa.Pure
