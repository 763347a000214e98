import Derived.Test.YtapbckofgcmgmaaGreatDoorPureO
namespace Go.Proofs.YtapbckofgcmgmaaGreatDoor.Pure
open Go Go.RowKit Go.Proofs.Vx Go.Proofs.YtapbckofgcmgmaaGreatDoor.Sh
set_option linter.unusedSimpArgs false
set_option linter.unusedVariables false
mutual
def strS (x:T_api_Node) (a:T_api_Attr):T_api_Node→T_api_Node
 | .mk kd nm ats ks tx => if kd=1 ∧ nm.Space=SPl then .mk kd nm (ats ++ [a]) (x :: strL x a ks) tx else .mk kd nm ats ks tx
def strL (x:T_api_Node) (a:T_api_Attr):List T_api_Node→List T_api_Node
 | [] => []
 | q :: ks => strS x a q :: x :: strL x a ks
end
theorem strS_own {x:T_api_Node} {a:T_api_Attr} {n:T_api_Node} (h:n.Kind=1 ∧ n.Name.Space=SPl):strS x a n=⟨n.Kind,n.Name,n.Attrs ++ [a],x :: strL x a n.Kids,n.Text⟩:=by cases n; rw [strS,if_pos h]
theorem strS_not {x:T_api_Node} {a:T_api_Attr} {n:T_api_Node} (h:¬ (n.Kind=1 ∧ n.Name.Space=SPl)):strS x a n=n:=by cases n; rw [strS,if_neg h]
theorem at_eta (a:T_api_Attr):T_api_Attr.mk (T_api_Name.mk a.Name.Space a.Name.Local) a.Value=a:=by cases a; rfl
theorem strewn_l (k:Nat) (self:T_api_Node→T_api_Node→T_api_Attr→Option T_api_Node) (n x:T_api_Node) (a:T_api_Attr) (hl:∀ q ∈ n.Kids,self q x a=some (strS x a q)) (h9:n.Kids.length ≤ 4000000000) (h8:n.Attrs.length ≤ 4000000000) (z0:Int) (z1 z2:Str) (z3:List T_api_Attr) (z4:List T_api_Node) (z5:Str) :
  ∀ (m i:Nat) (y:List T_api_Node),i ≤ n.Kids.length→n.Kids.length < i + m→y.length ≤ 2 * i + 1→
  watchbilllaw16_strewn.l0 k self m n.Kind n.Name.Space n.Name.Local n.Attrs n.Kids n.Text x.Kind x.Name.Space x.Name.Local x.Attrs x.Kids x.Text a.Name.Space a.Name.Local a.Value z0 z1 z2 z3 z4 z5 y (i:Int)=some ⟨n.Kind,n.Name,n.Attrs ++ [a],y ++ strL x a (n.Kids.drop i),n.Text⟩:=by
 intro m
 induction m with
 | zero => intro i y h1 h2; omega
 | succ m ih =>
  intro i y h1 h2 h3
  unfold watchbilllaw16_strewn.l0
  rw [nd_eta,at_eta]
  by_cases hi:i < n.Kids.length
  ·rw [if_pos (by simp; omega),if_pos (by omega),hl _ (rd_mem hi),Option.bind_some,if_pos (by simp; omega),wi (by omega),ih (i + 1) _ (by omega) (by omega) (by simp; omega),rd_drop hi,strL]
   simp
  ·rw [if_neg (by simp; omega),if_pos (by simp; omega),if_pos (by simp; omega),List.drop_of_length_le (by omega),strL]
   simp
theorem strewn_eq (x:T_api_Node) (a:T_api_Attr):∀ (d k:Nat) (n:T_api_Node),wt n ≤ d→wt n ≤ 4000000000→wt n + 12000000010 ≤ k→watchbilllaw16_strewn k n x a=some (strS x a n):=by
 intro d
 induction d with
 | zero => intro k n h1; have:=wt_pos n; omega
 | succ d ih =>
  intro k n h1 h2 h3
  obtain⟨k,rfl⟩:∃ z,k=z + 1:=⟨k - 1,by omega⟩
  have hkd:=wt_kids n
  have hat:=wt_attrs n
  rw [watchbilllaw16_strewn]
  by_cases ho:n.Kind=1 ∧ n.Name.Space=SPl
  ·have:=strewn_l k (watchbilllaw16_strewn k) n x a (fun q hq => by have:=kid_lt hq; exact ih k q (by omega) (by omega) (by omega)) (by omega) (by omega) 0 [] [] [] [] [] k 0 [x] (by omega) (by omega) (by simp)
   rw [if_neg (by have:=ho.2; unfold SPl at this; simp [ho.1,this]),strS_own ho]
   rw [List.drop_zero] at this
   exact this
  ·rw [strS_not ho,if_pos]
   by_cases h1k:n.Kind=1
   ·have:¬ n.Name.Space=SPl:=fun e => ho ⟨h1k,e⟩
    unfold SPl at this
    simp [h1k,this]
   ·simp [h1k]
mutual
theorem wt_str (x:T_api_Node) (a:T_api_Attr):∀ n:T_api_Node,wt (strS x a n) + wt x ≤ wt n * (2 * wt x + 2)
 | .mk kd nm ats ks tx => by
  have hx:=wt_pos x
  have hk:=wtL_str x a ks
  have he:=wt_eq (.mk kd nm ats ks tx)
  by_cases ho:kd=1 ∧ nm.Space=SPl
  ·rw [strS,if_pos ho,wt_eq,he]
   simp only [wtL,List.length_append,List.length_cons,List.length_nil]
   rw [Nat.add_mul _ (wtL ks)]
   have h1:(1 + tx.length + ats.length) * (2 * wt x + 2)=(1 + tx.length + ats.length) * (2 * wt x + 1) + (1 + tx.length + ats.length):=by rw [show 2 * wt x + 2=(2 * wt x + 1) + 1 by omega,Nat.mul_succ]
   have h2:1 * (2 * wt x + 1) ≤ (1 + tx.length + ats.length) * (2 * wt x + 1):=Nat.mul_le_mul_right _ (by omega)
   omega
  ·rw [strS,if_neg ho]
   have hp:=wt_pos (.mk kd nm ats ks tx)
   have h2:wt (.mk kd nm ats ks tx) * (wt x + 1) ≤ wt (.mk kd nm ats ks tx) * (2 * wt x + 2):=Nat.mul_le_mul_left _ (by omega)
   have h3:1 * wt x ≤ wt (.mk kd nm ats ks tx) * wt x:=Nat.mul_le_mul_right _ hp
   rw [Nat.mul_succ] at h2
   omega
theorem wtL_str (x:T_api_Node) (a:T_api_Attr):∀ ks:List T_api_Node,wtL (strL x a ks) ≤ wtL ks * (2 * wt x + 2)
 | [] => by rw [strL,wtL]; omega
 | q :: ks => by
  have h1:=wt_str x a q
  have h2:=wtL_str x a ks
  rw [strL,wtL,wtL,wtL,Nat.add_mul]
  omega
end
section
variable {x:T_api_Node} {a:T_api_Attr}
theorem str_kind (n:T_api_Node):(strS x a n).Kind=n.Kind:=by
 by_cases h:n.Kind=1 ∧ n.Name.Space=SPl
 ·rw [strS_own h]
 ·rw [strS_not h]
theorem str_name (n:T_api_Node):(strS x a n).Name=n.Name:=by
 by_cases h:n.Kind=1 ∧ n.Name.Space=SPl
 ·rw [strS_own h]
 ·rw [strS_not h]
theorem str_text (n:T_api_Node):(strS x a n).Text=n.Text:=by
 by_cases h:n.Kind=1 ∧ n.Name.Space=SPl
 ·rw [strS_own h]
 ·rw [strS_not h]
theorem str_in (n:T_api_Node) (sp:Str):inS sp (strS x a n)=inS sp n:=by unfold inS; rw [str_kind,str_name]
theorem str_is (n:T_api_Node) (sp lo:Str):isE (strS x a n) sp lo=isE n sp lo:=by unfold isE; rw [str_kind,str_name]
theorem str_bad (n:T_api_Node):badT (strS x a n)=badT n:=by unfold badT; rw [str_kind,str_text]
theorem strL_bad (hx:x.Kind=1):∀ ks:List T_api_Node,(strL x a ks).any badT=ks.any badT
 | [] => rfl
 | q :: ks => by rw [strL,List.any_cons,List.any_cons,List.any_cons,str_bad,strL_bad hx ks]; simp [badT,hx]
theorem strL_in (hx:x.Name.Space ≠ SPl):∀ ks:List T_api_Node,(strL x a ks).filter (inS SPl)=(ks.filter (inS SPl)).map (strS x a)
 | [] => rfl
 | q :: ks => by
  have h:inS SPl x=false:=by unfold inS; simp [hx]
  rw [strL,List.filter_cons,List.filter_cons,List.filter_cons,str_in,h,strL_in hx ks]
  cases inS SPl q <;> simp
theorem strL_txt (hx:x.Kind=1):∀ ks:List T_api_Node,txtK (strL x a ks)=txtK ks
 | [] => rfl
 | q :: ks => by rw [strL,txtK_cons,txtK_cons,txtK_cons,str_kind,str_text,strL_txt hx ks]; simp [hx]
theorem str_blank (hx:x.Kind=1) (n:T_api_Node):blankS (strS x a n)=blankS n:=by
 unfold blankS
 by_cases h:n.Kind=1 ∧ n.Name.Space=SPl
 ·rw [strS_own h,List.any_cons,strL_bad hx]; simp [badT,hx]
 ·rw [strS_not h]
theorem str_kids (hx:x.Name.Space ≠ SPl) {n:T_api_Node} (h:n.Kind=1 ∧ n.Name.Space=SPl):kidsS (strS x a n) SPl=(kidsS n SPl).map (strS x a):=by
 have h2:inS SPl x=false:=by unfold inS; simp [hx]
 unfold kidsS
 rw [strS_own h,List.filter_cons,h2,strL_in hx]
 simp
theorem getS_app (ha:a.Name.Space ≠ []) (lo:Str):∀ l:List T_api_Attr,getS (l ++ [a]) [] lo=getS l [] lo
 | [] => by rw [List.nil_append,getS_cons,if_neg (by simp [ha])]
 | b :: l => by rw [List.cons_append,getS_cons,getS_cons,getS_app ha lo l]
theorem str_attr (ha:a.Name.Space ≠ []) (n:T_api_Node) (lo:Str):attrS (strS x a n) lo=attrS n lo:=by
 unfold attrS
 by_cases h:n.Kind=1 ∧ n.Name.Space=SPl
 ·rw [strS_own h,getS_app ha]
 ·rw [strS_not h]
theorem str_val (hx:x.Kind=1) (n:T_api_Node):valS (strS x a n)=valS n:=by
 unfold valS
 by_cases h:n.Kind=1 ∧ n.Name.Space=SPl
 ·rw [strS_own h,txtK_cons,strL_txt hx]; simp [hx]
 ·rw [strS_not h]
theorem str_disp (hx2:x.Name.Space ≠ SPl) (n:T_api_Node):dispS (strS x a n)=dispS n:=by
 by_cases h:n.Kind=1 ∧ n.Name.Space=SPl
 ·unfold dispS; rw [str_is,str_kids hx2 h]; simp
 ·rw [strS_not h]
theorem str_attrK (n:T_api_Node):attrK (strS x a n)=attrK n:=by unfold attrK; rw [str_is,str_is,str_is]
theorem str_plain (hx:x.Kind=1) (hx2:x.Name.Space ≠ SPl) (ha:a.Name.Space ≠ []) (n:T_api_Node):plainS (strS x a n)=plainS n:=by
 by_cases h:n.Kind=1 ∧ n.Name.Space=SPl
 ·unfold plainS
  rw [str_attrK,str_attr ha,str_blank hx,str_kids hx2 h]
  match kidsS n SPl with
  | [] => rfl
  | [d] => simp only [List.map_cons,List.map_nil]; rw [str_disp hx2,str_val hx]
  | _ :: _ :: _ => rfl
 ·rw [strS_not h]
theorem items_str (hx:x.Kind=1) (hx2:x.Name.Space ≠ SPl) (ha:a.Name.Space ≠ []):∀ (l:List T_api_Node) (f:Bool),(∀ q ∈ l,listS (strS x a q)=listS q)→itemsL (l.map (strS x a)) f=itemsL l f
 | [],f,_ => rfl
 | q :: l,f,h => by
  rw [List.map_cons,itemsL,itemsL,str_disp hx2,str_is,str_plain hx hx2 ha,h q List.mem_cons_self,items_str hx hx2 ha l false (fun p hp => h p (List.mem_cons_of_mem _ hp))]
theorem str_list (hx:x.Kind=1) (hx2:x.Name.Space ≠ SPl) (ha:a.Name.Space ≠ []):∀ (d:Nat) (n:T_api_Node),wt n ≤ d→listS (strS x a n)=listS n:=by
 intro d
 induction d with
 | zero => intro n h; have:=wt_pos n; omega
 | succ d ih =>
  intro n hd
  by_cases h:n.Kind=1 ∧ n.Name.Space=SPl
  ·rw [listS_eq,listS_eq,str_is,str_blank hx,str_kids hx2 h,str_attr ha,items_str hx hx2 ha _ _ (fun q hq => by have:=kids_wt hq; exact ih q (by omega))]
  ·rw [strS_not h]
theorem lists_str (hx:x.Kind=1) (hx2:x.Name.Space ≠ SPl) (ha:a.Name.Space ≠ []):∀ l:List T_api_Node,listsF (l.map (strS x a))=listsF l
 | [] => rfl
 | q :: l => by rw [List.map_cons,listsF,listsF,str_list hx hx2 ha (wt q) q (Nat.le_refl _),lists_str hx hx2 ha l]
theorem dec_str (hx:x.Kind=1) (hx2:x.Name.Space ≠ SPl) (ha:a.Name.Space ≠ []) (n:T_api_Node):decS (strS x a n)=decS n:=by
 by_cases h:n.Kind=1 ∧ n.Name.Space=SPl
 ·unfold decS; rw [str_is,str_blank hx,str_kids hx2 h,lists_str hx hx2 ha]
 ·rw [strS_not h]
end
theorem dec_w (n:T_api_Node):wEL (decS n).1 ≤ wt n:=by
 unfold decS
 split
 ·cases hr:listsF (kidsS n SPl) with
  | none => exact Nat.zero_le _
  | some r =>
   simp only [decD]
   split
   ·have h1:=lists_wT _ r hr
    have h2:=wEL_le r
    have h3:wtL (kidsS n SPl) ≤ wt n:=by have:=wtL_filter (inS SPl) n.Kids; have:=wt_eq n; unfold kidsS; omega
    show wEL r ≤ _
    omega
   ·exact Nat.zero_le _
 ·exact Nat.zero_le _
theorem ListsForeign_k (k:Nat) (hk:36000000000 ≤ k) (hA:watchbilllaw16_awake k=some true) (n x:T_api_Node) (a:T_api_Attr):watchbilllaw16_ListsForeign k n x a=some true:=by
 unfold watchbilllaw16_ListsForeign
 obtain⟨b,hb,hbw⟩:=few_eq k (by omega) n
 obtain⟨c,hc,hcw⟩:=few_eq k (by omega) x
 rw [hA,Option.bind_some,if_neg (by decide),hb,Option.bind_some]
 cases b with
 | false => rw [if_neg (by simp),Option.bind_some,if_pos (by simp)]
 | true =>
  rw [if_pos (by simp),hc,Option.bind_some]
  cases c with
  | false => rw [if_pos (by simp)]
  | true =>
   have h1:=hbw rfl
   have h2:=hcw rfl
   by_cases hx:x.Kind=1
   ·by_cases hx2:x.Name.Space=SPl
    ·rw [if_pos (by unfold SPl at hx2; simp [hx2])]
    ·by_cases ha:a.Name.Space=[]
     ·rw [if_pos (by simp [ha])]
     ·have hw:=wt_str x a n
      have hm:wt n * (2 * wt x + 2) ≤ 30000 * 60002:=Nat.mul_le_mul h1 (by omega)
      have hd:=dec_w n
      rw [if_neg (by have h3:=hx2; unfold SPl at h3; simp [hx,h3,ha]),decode_eq k hk n (by omega),Option.bind_some,strewn_eq x a (wt n) k n (Nat.le_refl _) (by omega) (by omega),Option.bind_some,decode_eq k hk _ (by omega),Option.bind_some,dec_str hx hx2 ha,if_pos (by simp),same16_eq (wEL (decS n).1 + 1) k _ (by omega) (by omega) (by omega)]
      simp
   ·rw [if_pos (by simp [hx])]
theorem ListsForeign (n x:T_api_Node) (a:T_api_Attr):∃ k,watchbilllaw16_ListsForeign k n x a=some true:=⟨36000000000,ListsForeign_k 36000000000 (Nat.le_refl _) awake n x a⟩
end Go.Proofs.YtapbckofgcmgmaaGreatDoor.Pure
