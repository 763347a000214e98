import Derived.Test.YtafoiodfflcpeaaPureM
namespace Go.Proofs.Ytafoiodfflcpeaa.Pure
open Go Go.RowKit Go.Proofs.Vx Go.Proofs.Ytafoiodfflcpeaa.Sh
set_option maxRecDepth 100000
def zst:T_api_Step:=T_api_Step.mk 0 false (T_api_Name.mk ([]:Str) ([]:Str)) 0 false (T_api_Name.mk ([]:Str) ([]:Str)) ([]:Str)
def lastS (l:List T_api_Step):T_api_Step:=rd l ((l.length - 1:Nat):Int)
def splitS (l:List T_api_Step):List T_api_Step × T_api_Step:=if 0 < l.length ∧ ((lastS l).Kind=2 ∨ (lastS l).Kind=3) then (l.dropLast,lastS l) else (l,zst)
theorem sl_drop (l:List T_api_Step):sl l 0 ((l.length - 1:Nat):Int)=l.dropLast:=by
 simp [sl,List.dropLast_eq_take]
theorem split_eq (l:List T_api_Step) (h:l.length ≤ 600000):match_Split l=some (splitS l):=by
 unfold match_Split splitS
 by_cases h0:l.length=0
 ·have e:decide ((l.length:Int) > 0)=false:=decide_eq_false (by omega)
  rw [e]
  simp only [Bool.false_and,Bool.false_eq_true,false_implies,if_true,if_false,show (false == true)=false from rfl]
  rw [clone_eq l h,if_neg (by omega)]; rfl
 ·have e:IntKind.i64.wrap ((l.length:Int) - 1)=((l.length - 1:Nat):Int):=by rw [w64 (by omega) (by omega)]; omega
  rw [e,if_pos (fun _ => by omega),if_pos (fun _ => by omega),show rd l ((l.length - 1:Nat):Int)=lastS l from rfl]
  have e2:decide ((l.length:Int) > 0)=true:=decide_eq_true (by omega)
  rw [e2]
  by_cases hk:(lastS l).Kind=2 ∨ (lastS l).Kind=3
  ·rw [if_pos (by rcases hk with hk | hk <;> simp [hk]),if_pos (by omega),sl_drop,clone_eq _ (by simp; omega),Option.bind_some,if_pos (by omega),if_pos ⟨by omega,hk⟩]
  ·have hk':¬ (lastS l).Kind=2 ∧ ¬ (lastS l).Kind=3:=⟨fun h => hk (.inl h),fun h => hk (.inr h)⟩
   rw [if_neg (by simp [hk'.1,hk'.2]),clone_eq l h,if_neg (fun h => hk h.2)]; rfl
theorem splitS_len (l:List T_api_Step):(splitS l).1.length ≤ l.length:=by
 unfold splitS
 split
 ·simp
 ·exact Nat.le_refl _
def hasA (n:T_api_Node) (s:T_api_Step):Bool:=(getS n.Attrs s.Name.Space s.Name.Local).2
def sel (n:T_api_Node) (l:List T_api_Step):List Int × Int:=
 if (FS n (splitS l).1).length=0 then ([],5) else if 1 < (FS n (splitS l).1).length then ([],35) else if (splitS l).2.Kind=2 ∧ hasA (atM n (rd (FS n (splitS l).1) 0)) (splitS l).2=false then ([],5) else (rd (FS n (splitS l).1) 0,0)
theorem select_eq (k:Nat) (hk:9000000000 ≤ k) (n:T_api_Node) (l:List T_api_Step) (hl:l.length ≤ 600000) (hw:wt n ≤ 300000):match_Select k n l=some (sel n l):=by
 have hs:=splitS_len l
 unfold match_Select sel
 rw [split_eq l hl,Option.bind_some,mFind_eq k hk n _ (by omega) hw,Option.bind_some]
 have hB:=FS_bnd n (splitS l).1 hw
 generalize FS n (splitS l).1=F at hB ⊢
 by_cases h0:F.length=0
 ·rw [if_pos (by simp [h0]),if_pos h0]
 ·rw [if_neg (by simp; intro h; exact h0 (by rw [h]; rfl)),if_neg h0]
  by_cases h1:1 < F.length
  ·rw [if_pos (by simp; omega),if_pos h1]
  ·rw [if_neg (by simp; omega),if_neg h1]
   have hm:rd F 0 ∈ F:=by
    have:0 < F.length:=by omega
    simp [rd,this]
   obtain⟨g1,g2⟩:=hB.2 _ hm
   obtain⟨g3,_⟩:=atM_wt _ n g1
   have hj:match_Select.j0 F=some (rd F 0,0):=by unfold match_Select.j0; rw [if_pos (by omega)]
   by_cases hk2:(splitS l).2.Kind=2
   ·have ha:=wt_attrs (atM n (rd F 0))
    rw [if_pos (by simp [hk2]),if_pos (by omega),atm_eq k hk n _ (by omega) g1,Option.bind_some,get_eq k _ _ (by omega) (by omega),Option.bind_some,hj]
    unfold hasA
    cases hg:(getS (atM n (rd F 0)).Attrs (splitS l).2.Name.Space (splitS l).2.Name.Local).2 with
    | true => rw [if_neg (by simp),if_neg (by simp)]
    | false => rw [if_pos (by simp),if_pos ⟨hk2,rfl⟩]
   ·rw [if_neg (by simpa using hk2),if_neg (fun h => hk2 h.1),hj]
theorem one_of {F:List (List Int)} (h0:¬ F.length=0) (h1:¬ 1 < F.length):F=[rd F 0]:=by
 match F,h0,h1 with
 | [p],_,_ => rfl
 | [],h,_ => exact absurd rfl h
 | _ :: _ :: _,_,h => exact absurd (by simp) h
theorem sel_ok {n:T_api_Node} {l:List T_api_Step} (h:(sel n l).2=0):FS n (splitS l).1=[(sel n l).1] ∧ ((splitS l).2.Kind=2→hasA (atM n (sel n l).1) (splitS l).2=true):=by
 unfold sel at *
 by_cases h0:(FS n (splitS l).1).length=0
 ·rw [if_pos h0] at h; cases h
 ·rw [if_neg h0] at h ⊢
  by_cases h1:1 < (FS n (splitS l).1).length
  ·rw [if_pos h1] at h; cases h
  ·rw [if_neg h1] at h ⊢
   by_cases h2:(splitS l).2.Kind=2 ∧ hasA (atM n (rd (FS n (splitS l).1) 0)) (splitS l).2=false
   ·rw [if_pos h2] at h; cases h
   ·rw [if_neg h2]
    refine⟨one_of h0 h1,fun hk => ?_⟩
    cases hg:hasA (atM n (rd (FS n (splitS l).1) 0)) (splitS l).2 with
    | true => rfl
    | false => exact absurd ⟨hk,hg⟩ h2
theorem plc_valid:∀ (p:List Int) (n:T_api_Node),p ∈ plc n→valid p n ∧ atN p n=atM n p ∧ (atN p n).Kind=1
 | [],n,h =>⟨trivial,rfl,(plc_mem h).1⟩
 | i :: p,n,h => by
  rcases (plc_mem h).2 with h0 |⟨j,q,h1,h2,h3,h4⟩
  ·cases h0
  ·injection h1 with e1 e2
   subst e1; subst e2
   obtain⟨g1,g2,g3⟩:=plc_valid p _ h3
   exact⟨⟨⟨by omega,by omega⟩,g1⟩,g2,g3⟩
theorem sel_place {n:T_api_Node} {l:List T_api_Step} (h:(sel n l).2=0):valid (sel n l).1 n ∧ atN (sel n l).1 n=atM n (sel n l).1 ∧ (atN (sel n l).1 n).Kind=1:=by
 have h1:=(sel_ok h).1
 have hm:(sel n l).1 ∈ FS n (splitS l).1:=by rw [h1]; exact List.mem_singleton.2 rfl
 exact plc_valid _ _ (List.mem_filter.1 hm).1
theorem sel_len {n:T_api_Node} {l:List T_api_Step} (hw:wt n ≤ 300000):(sel n l).1.length ≤ 300000:=by
 by_cases h:(sel n l).2=0
 ·have h1:=(sel_ok h).1
  have hm:(sel n l).1 ∈ FS n (splitS l).1:=by rw [h1]; exact List.mem_singleton.2 rfl
  exact ((FS_bnd n _ hw).2 _ hm).2
 ·unfold sel at *
  by_cases h0:(FS n (splitS l).1).length=0
  ·rw [if_pos h0]; simp
  ·rw [if_neg h0] at h ⊢
   by_cases h1:1 < (FS n (splitS l).1).length
   ·rw [if_pos h1]; simp
   ·rw [if_neg h1] at h ⊢
    by_cases h2:(splitS l).2.Kind=2 ∧ hasA (atM n (rd (FS n (splitS l).1) 0)) (splitS l).2=false
    ·rw [if_pos h2]; simp
    ·rw [if_neg h2] at h; exact absurd rfl h
def jstep (out:List T_api_Node) (n:T_api_Node):List T_api_Node:=
 if 0 < out.length ∧ n.Kind=2 ∧ (rd out ((out.length - 1:Nat):Int)).Kind=2 then out.set (out.length - 1) (T_api_Node.mk (rd out ((out.length - 1:Nat):Int)).Kind (T_api_Name.mk (rd out ((out.length - 1:Nat):Int)).Name.Space (rd out ((out.length - 1:Nat):Int)).Name.Local) (rd out ((out.length - 1:Nat):Int)).Attrs (rd out ((out.length - 1:Nat):Int)).Kids ((rd out ((out.length - 1:Nat):Int)).Text ++ n.Text))
 else out ++ [n]
def joinS (l:List T_api_Node):List T_api_Node:=l.foldl jstep []
theorem wfL_app (a b:List T_api_Node):wfL (a ++ b)=wfL a + wfL b:=by
 induction a with
 | nil => rw [List.nil_append,wfL]; omega
 | cons n a ih => rw [List.cons_append,wfL,wfL,ih]; omega
theorem wfL_set (r:T_api_Node):∀ (l:List T_api_Node) (i:Nat) (h:i < l.length),wfL (l.set i r) + wf l[i]=wfL l + wf r
 | [],i,h => by simp at h
 | a :: l,0,h => by rw [List.set_cons_zero,wfL,wfL]; show _ + wf a=_; omega
 | a :: l,i + 1,h => by
  have:=wfL_set r l i (by simpa using h)
  rw [List.set_cons_succ,wfL,wfL,List.getElem_cons_succ]
  omega
theorem wfL_len (l:List T_api_Node):l.length ≤ wfL l:=Nat.le_trans (wtL_len l) (wtL_wfL l)
theorem rd_last' {out:List T_api_Node} (h:0 < out.length):rd out ((out.length - 1:Nat):Int)=out[out.length - 1]:=by
 have:out.length - 1 < out.length:=by omega
 simp [rd,this]
theorem jstep_wf (out:List T_api_Node) (n:T_api_Node):wfL (jstep out n) ≤ wfL out + wf n:=by
 unfold jstep
 split
 ·rename_i h
  have h1:=wfL_set (T_api_Node.mk (rd out ((out.length - 1:Nat):Int)).Kind (T_api_Name.mk (rd out ((out.length - 1:Nat):Int)).Name.Space (rd out ((out.length - 1:Nat):Int)).Name.Local) (rd out ((out.length - 1:Nat):Int)).Attrs (rd out ((out.length - 1:Nat):Int)).Kids ((rd out ((out.length - 1:Nat):Int)).Text ++ n.Text)) out (out.length - 1) (by omega)
  have hr:=rd_last' h.1
  rw [← hr] at h1
  have e1:=wf_eq (T_api_Node.mk (rd out ((out.length - 1:Nat):Int)).Kind (T_api_Name.mk (rd out ((out.length - 1:Nat):Int)).Name.Space (rd out ((out.length - 1:Nat):Int)).Name.Local) (rd out ((out.length - 1:Nat):Int)).Attrs (rd out ((out.length - 1:Nat):Int)).Kids ((rd out ((out.length - 1:Nat):Int)).Text ++ n.Text))
  have e2:=wf_eq (rd out ((out.length - 1:Nat):Int))
  have e3:=wf_eq n
  simp only [List.length_append] at e1
  omega
 ·rw [wfL_app,wfL,wfL]; omega
theorem joined_l2 (k:Nat) (l:List T_api_Node) (h9:wfL l ≤ 1000000000):∀ (m j:Nat) (out:List T_api_Node),j ≤ l.length→l.length < j + m→wfL out + wfL (l.drop j) ≤ 1000000000→path_joined.l0 k l m out (j:Int)=some ((l.drop j).foldl jstep out) ∧ wfL ((l.drop j).foldl jstep out) ≤ wfL out + wfL (l.drop j):=by
 have hlen:=wfL_len l
 intro m
 induction m with
 | zero => intro j out h1 h2; omega
 | succ m ih =>
  intro j out h1 h2 h3
  unfold path_joined.l0
  by_cases hj:j < l.length
  ·have hol:=wfL_len out
   have hjs:=jstep_wf out (rd l (j:Int))
   rw [rd_dropN hj,List.foldl_cons] at *
   rw [wfL] at h3 ⊢
   obtain⟨e1,e2⟩:=ih (j + 1) (jstep out (rd l (j:Int))) (by omega) (by omega) (by omega)
   refine⟨?_,by omega⟩
   rw [← e1,if_pos (by simp; omega),if_pos (by omega),wi (by omega)]
   have hpos:∀ h0:0 < out.length,IntKind.i64.wrap ((out.length:Int) - 1)=((out.length - 1:Nat):Int):=fun h0 => by rw [w64 (by omega) (by omega)]; omega
   unfold jstep
   by_cases h0:0 < out.length
   ·rw [hpos h0,if_pos (by intro _; omega)]
    have hr:=rd_last' h0
    have hmem:rd out ((out.length - 1:Nat):Int) ∈ out:=by rw [hr]; exact List.getElem_mem _
    have hb1:=wfL_mem hmem
    have hb2:=wf_eq (rd out ((out.length - 1:Nat):Int))
    have hb3:=wf_eq (rd l (j:Int))
    by_cases hc:(rd l (j:Int)).Kind=2 ∧ (rd out ((out.length - 1:Nat):Int)).Kind=2
    ·rw [if_pos (by simp [hc.1,hc.2]),if_pos (by omega),if_pos (by omega),if_pos (by omega),if_pos ⟨h0,hc.1,hc.2⟩,Option.bind_some,Int.toNat_natCast]
    ·rw [if_neg (by
      intro hh
      rw [Bool.and_eq_true,Bool.and_eq_true] at hh
      exact hc ⟨by simpa using hh.1.2,by simpa using hh.2⟩),if_pos (by simp; omega),if_neg (fun h => hc h.2)]
   ·have h00:out.length=0:=by omega
    have hw0:IntKind.i64.wrap ((out.length:Int) - 1)=-1:=by rw [h00]; decide
    rw [hw0,if_pos (by intro hh; simp at hh),if_neg (by simp),if_pos (by simp; omega),if_neg (fun h => h0 h.1)]
  ·rw [if_neg (by simp; omega),List.drop_of_length_le (by omega)]
   exact⟨rfl,by rw [List.foldl_nil,wfL]; omega⟩
theorem joinS_eq (k:Nat) (l:List T_api_Node) (h9:wfL l ≤ 1000000000) (hk:l.length < k):path_joined k l=some (joinS l) ∧ wfL (joinS l) ≤ wfL l:=by
 have:=joined_l2 k l h9 k 0 [] (by omega) (by omega) (by rw [List.drop_zero,wfL]; omega)
 rw [List.drop_zero,wfL,Nat.zero_add,show ((0:Nat):Int)=0 from rfl] at this
 exact this
theorem wf_put (y:T_api_Node):∀ (p:List Int) (n:T_api_Node),valid p n→wf (put y p n) + wf (atN p n)=wf n + wf y
 | [],n,_ => by show wf y + wf n=_; omega
 | i :: q,n,hv => by
  have hj:i.toNat < n.Kids.length:=by have:=hv.1; omega
  have h1:=wf_put y q _ hv.2
  have h2:=wfL_set (put y q (rd n.Kids i)) n.Kids i.toNat hj
  have h3:rd n.Kids i=n.Kids[i.toNat]:=by simp [rd,hj]
  rw [← h3] at h2
  have e1:=wf_eq (put y (i :: q) n)
  have e2:=wf_eq n
  have e3:(put y (i :: q) n).Kids=n.Kids.set i.toNat (put y q (rd n.Kids i)):=rfl
  have e4:(put y (i :: q) n).Attrs=n.Attrs:=rfl
  have e5:(put y (i :: q) n).Text=n.Text:=rfl
  have e6:(put y (i :: q) n).Name=n.Name:=rfl
  rw [e3,e4,e5,e6] at e1
  show _ + wf (atN q (rd n.Kids i))=_
  omega
theorem wf_atN:∀ (p:List Int) (n:T_api_Node),valid p n→wf (atN p n) ≤ wf n
 | [],n,_ => Nat.le_refl _
 | i :: q,n,hv => Nat.le_trans (wf_atN q _ hv.2) (Nat.le_of_lt (kid_ltf (rd_memI hv.1)))
theorem chg_Z (g:T_api_Node→Option (T_api_Node × Bool)):∀ (p:List Int) (n:T_api_Node),valid p n→g (atN p n)=some (zeroN,false)→chg g p n=some (zeroN,false)
 | [],n,_,h => h
 | i :: q,n,hv,h => by
  unfold chg
  rw [if_pos hv.1,chg_Z g q _ hv.2 h]; rfl
theorem wf_zero:wf zeroN=1:=by rw [wf_eq]; simp [zeroN,wtA,wfL]
theorem chg_any (g:T_api_Node→Option (T_api_Node × Bool)) (p:List Int) (n:T_api_Node) (c:Nat) (h:valid p n→g (atN p n)=some (zeroN,false) ∨ ∃ y,g (atN p n)=some (y,true) ∧ wf y ≤ wf (atN p n) + c):∃ r,chg g p n=some r ∧ wf r.1 ≤ wf n + c:=by
 have hpos:=wf_pos n
 by_cases hv:valid p n
 ·rcases h hv with h |⟨y,h,hw⟩
  ·exact⟨_,chg_Z g p n hv h,by rw [wf_zero]; omega⟩
  ·refine⟨_,chg_T g p n y hv h,?_⟩
   have:=wf_put y p n hv
   show wf (put y p n) ≤ _
   omega
 ·exact⟨_,chg_not g p n hv,by rw [wf_zero]; omega⟩
theorem wf_withK (o:T_api_Node) (l:List T_api_Node):wf (withK o l) + wfL o.Kids=wf o + wfL l:=by
 rw [wf_eq,wf_eq o]; simp only [withK]; omega
theorem kidsG_any {F:List T_api_Node→Option (List T_api_Node)} {o:T_api_Node} {c:Nat} (hw:wf o + c ≤ 900000000) (hF:∀ l,F o.Kids=some l→wfL l ≤ wfL o.Kids + c):kidsG F o=some (zeroN,false) ∨ ∃ y,kidsG F o=some (y,true) ∧ wf y ≤ wf o + c:=by
 have hwo:=wf_eq o
 cases hl:F o.Kids with
 | none => exact .inl (kidsG_N hl)
 | some l =>
  by_cases hk:o.Kind=1
  ·have h1:=hF l hl
   have h4:=wfL_len l
   obtain⟨e,h2⟩:=joinS_eq 9000000000 l (by omega) (by omega)
   refine .inr ⟨withK o (joinS l),?_,?_⟩
   ·unfold kidsG; rw [hl]; simp only; rw [if_pos hk,e]; rfl
   ·have:=wf_withK o (joinS l); omega
  ·exact .inl (kidsG_K hl hk)
theorem wfL_take_drop (l:List T_api_Node) (i:Nat):wfL (l.take i) + wfL (l.drop i)=wfL l:=by
 have:=wfL_app (l.take i) (l.drop i); rw [List.take_append_drop] at this; omega
theorem insert_any (k:Nat) (n x:T_api_Node) (b:Int) (p:List Int) (hn:wf n ≤ 100000000) (hx:wf x ≤ 100000000):∃ r,path_Insert k n x b p=some r ∧ wf r.1 ≤ wf n + wf x:=by
 unfold path_Insert
 have:=wt_wf n; have:=wt_wf x
 rw [if_pos ⟨by omega,by omega⟩]
 refine chg_any _ p n (wf x) fun hv => kidsG_any (by have:=wf_atN p n hv; omega) fun l hl => ?_
 unfold insF at hl
 split at hl
 ·cases hl
  rw [wfL_app,wfL]
  have:=wfL_take_drop (atN p n).Kids b.toNat
  omega
 ·cases hl
theorem wfL_drop1 (l:List T_api_Node) (i:Nat):wfL (l.take i) + wfL (l.drop (i + 1)) ≤ wfL l:=by
 have h1:=wfL_take_drop l i
 have h2:wfL (l.drop (i + 1)) ≤ wfL (l.drop i):=by
  cases hd:l.drop i with
  | nil => rw [← List.drop_drop,hd,List.drop_nil]; exact Nat.le_refl _
  | cons a t => rw [← List.drop_drop,hd,List.drop_succ_cons,List.drop_zero,wfL]; omega
 omega
theorem remove_any (k:Nat) (n:T_api_Node) (p:List Int) (hn:wf n ≤ 100000000) (h9:p.length ≤ 100000000):∃ r,path_Remove k n p=some r ∧ wf r.1 ≤ wf n:=by
 unfold path_Remove
 have:=wt_wf n; have hpos:=wf_pos n
 rw [if_pos ⟨by omega,by omega⟩]
 split
 ·exact⟨_,rfl,by rw [wf_zero]; omega⟩
 ·refine chg_any _ _ n 0 fun hv => kidsG_any (by have:=wf_atN _ n hv; omega) fun l hl => ?_
  unfold remF at hl
  split at hl
  ·cases hl
   rw [wfL_app]
   have:=wfL_drop1 (atN p.dropLast n).Kids (rd p ((p.length:Int) - 1)).toNat
   omega
  ·cases hl
theorem replace_any (k:Nat) (n x:T_api_Node) (p:List Int) (hn:wf n ≤ 100000000) (hx:wf x ≤ 100000000) (h9:p.length ≤ 100000000):∃ r,path_Replace k n x p=some r ∧ wf r.1 ≤ wf n + wf x:=by
 unfold path_Replace
 have:=wt_wf n; have:=wt_wf x; have hpos:=wf_pos n
 rw [if_pos ⟨by omega,by omega,by omega⟩]
 split
 ·exact⟨_,rfl,by show wf x ≤ _; omega⟩
 ·refine chg_any _ _ n (wf x) fun hv => kidsG_any (by have:=wf_atN _ n hv; omega) fun l hl => ?_
  unfold repF at hl
  split at hl
  ·rename_i hi
   cases hl
   have hj:(rd p ((p.length:Int) - 1)).toNat < (atN p.dropLast n).Kids.length:=by omega
   have:=wfL_set x (atN p.dropLast n).Kids _ hj
   omega
  ·cases hl
def ixA (sp lo:Str):List T_api_Attr→Option Nat
 | [] => none
 | b :: l => if isA sp lo b then some 0 else (ixA sp lo l).map (· + 1)
theorem idx_eq (k:Nat) (l:List T_api_Attr) (sp lo:Str) (h9:l.length ≤ 1000000000):∀ (m j:Nat),j ≤ l.length→l.length < j + m→slices_IndexFunc_72.l0 k l sp lo m (j:Int)=some (match ixA sp lo (l.drop j) with | some i => ((j + i:Nat):Int) | none => -1):=by
 intro m
 induction m with
 | zero => intro j h1 h2; omega
 | succ m ih =>
  intro j h1 h2
  unfold slices_IndexFunc_72.l0
  by_cases hj:j < l.length
  ·rw [if_pos (by simp; omega),if_pos (by omega),rd_dropA hj,ixA]
   have e:path_named_1 (rd l (j:Int)) sp lo=some (isA sp lo (rd l (j:Int))):=rfl
   rw [e,Option.bind_some]
   cases hb:isA sp lo (rd l (j:Int)) with
   | true => rw [if_pos rfl,if_pos rfl]; rfl
   | false =>
    rw [if_neg (by simp),if_neg (by simp),wi (by omega),ih (j + 1) (by omega) (by omega)]
    cases ixA sp lo (l.drop (j + 1)) with
    | none => rfl
    | some i => simp only [Option.map_some]; congr 2; omega
  ·rw [if_neg (by simp; omega),List.drop_of_length_le (by omega)]; rfl
theorem named_eq2 (k:Nat) (l:List T_api_Attr) (nm:T_api_Name) (h9:l.length ≤ 1000000000) (hk:l.length < k):path_named k l nm=some (match ixA nm.Space nm.Local l with | some i => (i:Int) | none => -1):=by
 unfold path_named slices_IndexFunc_72
 have:=idx_eq k l nm.Space nm.Local h9 k 0 (by omega) (by omega)
 rw [show ((0:Nat):Int)=0 from rfl,List.drop_zero] at this
 rw [this,Option.bind_some]
 cases ixA nm.Space nm.Local l with
 | none => rfl
 | some i => simp only [Nat.zero_add]
theorem ixA_lt {sp lo:Str}:∀ {l:List T_api_Attr} {i:Nat},ixA sp lo l=some i→i < l.length
 | [],i,h => by cases h
 | b :: l,i,h => by
  rw [ixA] at h
  split at h
  ·cases h; simp
  ·obtain⟨j,hj,rfl⟩:=Option.map_eq_some_iff.1 h
   have:=ixA_lt hj
   simp; omega
theorem wtA_app (a b:List T_api_Attr):wtA (a ++ b)=wtA a + wtA b:=by
 induction a with
 | nil => rw [List.nil_append,wtA]; omega
 | cons n a ih => rw [List.cons_append,wtA,wtA,ih]; omega
theorem wtA_drop1 (l:List T_api_Attr) (i:Nat):wtA (l.take i ++ l.drop (i + 1)) ≤ wtA l:=by
 have h1:=wtA_app (l.take i) (l.drop i)
 rw [List.take_append_drop] at h1
 rw [wtA_app]
 have h2:wtA (l.drop (i + 1)) ≤ wtA (l.drop i):=by
  cases hd:l.drop i with
  | nil => rw [← List.drop_drop,hd,List.drop_nil]; exact Nat.le_refl _
  | cons a t => rw [← List.drop_drop,hd,List.drop_succ_cons,List.drop_zero,wtA]; omega
 omega
theorem drop_any (k:Nat) (n:T_api_Node) (nm:T_api_Name) (p:List Int) (hw:wf n ≤ 100000000):∃ r,path_DropAttr k n nm p=some r ∧ wf r.1 ≤ wf n:=by
 have hwn:=wt_wf n
 unfold path_DropAttr
 rw [if_pos (by omega)]
 refine chg_any _ p n 0 fun hv => ?_
 have hlen:=wt_attrs (atN p n)
 have hww:=atN_wt p n hv
 unfold attrsG dropF
 rw [named_eq2 _ _ _ (by omega) (by omega),Option.bind_some]
 cases h:ixA nm.Space nm.Local (atN p n).Attrs with
 | none => exact .inl rfl
 | some i =>
  have hi:=ixA_lt h
  simp only
  rw [if_neg (by omega),if_pos (by omega)]
  simp only [Option.map_some]
  by_cases hk:(atN p n).Kind=1
  ·rw [if_pos hk]
   refine .inr ⟨_,rfl,?_⟩
   have e1:=wf_eq (T_api_Node.mk (atN p n).Kind (atN p n).Name ((atN p n).Attrs.take (i:Int).toNat ++ (atN p n).Attrs.drop ((i:Int).toNat + 1)) (atN p n).Kids (atN p n).Text)
   have e2:=wf_eq (atN p n)
   have e3:=wtA_drop1 (atN p n).Attrs (i:Int).toNat
   have e4:((atN p n).Attrs.take (i:Int).toNat ++ (atN p n).Attrs.drop ((i:Int).toNat + 1)).length ≤ (atN p n).Attrs.length:=by simp; omega
   simp only at e1
   omega
  ·rw [if_neg hk]; exact .inl rfl
end Go.Proofs.Ytafoiodfflcpeaa.Pure
