import Derived.Test.YtapbckofgcmgmaaGreatDoorPureU
import Derived.Test.YtapbckofgcmgmaaGreatDoorVxP
import Derived.KernelRfl
namespace Go.Proofs.YtapbckofgcmgmaaGreatDoor.Pure
open Go Go.RowKit Go.Proofs.Vx Go.Proofs.YtapbckofgcmgmaaGreatDoor.Sh
set_option linter.unusedSimpArgs false
set_option linter.unusedVariables false
theorem wi {i:Nat} (h:i ≤ 9000000000000):IntKind.i64.wrap ((i:Int) + 1)=((i + 1:Nat):Int):=by rw [w64 (by omega) (by omega)]; omega
mutual
def wt:T_api_Node→Nat
 | .mk _ _ ats ks tx => 1 + tx.length + ats.length + wtL ks
def wtL:List T_api_Node→Nat
 | [] => 0
 | n :: l => wt n + wtL l
end
theorem wt_eq (n:T_api_Node):wt n=1 + n.Text.length + n.Attrs.length + wtL n.Kids:=by cases n; rw [wt]
theorem wt_pos (n:T_api_Node):1 ≤ wt n:=by rw [wt_eq]; omega
theorem wtL_len (l:List T_api_Node):l.length ≤ wtL l:=by
 induction l with
 | nil => rw [wtL]; exact Nat.le_refl _
 | cons n l ih => rw [wtL]; have:=wt_pos n; simp; omega
theorem wtL_mem {l:List T_api_Node} {n:T_api_Node} (h:n ∈ l):wt n ≤ wtL l:=by
 induction l with
 | nil => cases h
 | cons m l ih =>
  rw [wtL]
  rcases List.mem_cons.1 h with rfl | h
  ·omega
  ·have:=ih h; omega
theorem kid_lt {n m:T_api_Node} (h:m ∈ n.Kids):wt m < wt n:=by have:=wtL_mem h; rw [wt_eq n]; omega
theorem mcap (a b:Int) (ha:0 ≤ a) (hb:0 ≤ b):0 ≤ (if a < b then a else b) ∧ (if a < b then a else b) ≤ a ∧ ((if a < b then a else b) < a→(if a < b then a else b)=b) ∧ ((if a < b then a else b) ≤ b):=by
 split <;> omega
def getS (l:List T_api_Attr) (sp lo:Str):Str × Bool:=match l.find? (fun a => a.Name.Space == sp && (a.Name.Local == lo && true)) with | some a => (a.Value,true) | none => ([],false)
theorem getS_cons (a:T_api_Attr) (l:List T_api_Attr) (sp lo:Str):getS (a :: l) sp lo=if (a.Name.Space == sp && (a.Name.Local == lo && true))=true then (a.Value,true) else getS l sp lo:=by
 unfold getS; rw [List.find?_cons]; cases h:(a.Name.Space == sp && (a.Name.Local == lo && true)) <;> simp
theorem get_l (k:Nat) (n:T_api_Node) (sp lo:Str) (h9:n.Attrs.length ≤ 20000000000):∀ (m i:Nat),i ≤ n.Attrs.length→n.Attrs.length < i + m→tree_Get.l0 k n m sp lo (i:Int)=some (getS (n.Attrs.drop i) sp lo):=by
 intro m
 induction m with
 | zero => intro i h1 h2; omega
 | succ m ih =>
  intro i h1 h2
  unfold tree_Get.l0
  by_cases hi:i < n.Attrs.length
  ·rw [if_pos (by simp; omega),if_pos (by omega),wi (by omega),ih (i + 1) (by omega) (by omega),rd_drop hi,getS_cons]
   split <;> rfl
  ·rw [if_neg (by simp; omega),List.drop_of_length_le (by omega)]; rfl
theorem get_eq (k:Nat) (n:T_api_Node) (nm:T_api_Name) (h9:n.Attrs.length ≤ 20000000000) (hk:n.Attrs.length < k):tree_Get k n nm=some (getS n.Attrs nm.Space nm.Local):=by
 have:=get_l k n nm.Space nm.Local h9 k 0 (by omega) (by omega)
 simpa [tree_Get] using this
def blankB (c:UInt8):Bool:=c == 32 || c == 9 || c == 10 || c == 13
theorem blank_eq (s:Str) (i:Nat) (h:i < s.length):utf_Blank (bt s (i:Int))=some (blankB s[i]):=by
 unfold utf_Blank bt blankB
 rw [Int.toNat_natCast]
 simp only [List.getD_eq_getElem?_getD,List.getElem?_eq_getElem h,Option.getD_some]
 generalize s[i]=c
 have e:∀ n:Nat,n < 256→(((c.toNat:Int) == (n:Int))=(c == UInt8.ofNat n)):=by
  intro n hn
  rw [Bool.eq_iff_iff,beq_iff_eq,beq_iff_eq]
  constructor
  ·intro h; apply UInt8.toNat_inj.1; simp; omega
  ·rintro rfl; simp; omega
 exact congrArg some (by rw [show (32:Int)=((32:Nat):Int) from rfl,show (9:Int)=((9:Nat):Int) from rfl,show (10:Int)=((10:Nat):Int) from rfl,show (13:Int)=((13:Nat):Int) from rfl,e _ (by omega),e _ (by omega),e _ (by omega),e _ (by omega)]; rfl)
def ltrim (s:Str):Str:=s.dropWhile blankB
def rtrim (s:Str):Str:=(s.reverse.dropWhile blankB).reverse
theorem trim1 (k:Nat):∀ (m:Nat) (s:Str),s.length < m→s.length ≤ 9223372036854775807→utf_Trim.l1 k m s=some (rtrim s):=by
 intro m
 induction m with
 | zero => intro s h _; omega
 | succ m ih =>
  intro s h h9
  unfold utf_Trim.l1
  by_cases hn:s=[]
  ·subst hn; simp [rtrim]
  ·have h0:0 < s.length:=List.length_pos_iff.2 hn
   have e:IntKind.i64.wrap ((s.length:Int) - 1)=((s.length - 1:Nat):Int):=by rw [w64 (by omega) (by omega)]; omega
   have hb:(s == ([]:Str))=false:=by simpa using hn
   rw [e,hb,if_pos (fun _ => by omega),if_pos (by simp),blank_eq s (s.length - 1) (by omega),Option.bind_some]
   have hs:s=s.take (s.length - 1) ++ [s[s.length - 1]]:=by
    conv => lhs; rw [← List.take_append_drop (s.length - 1) s]
    rw [List.drop_eq_getElem_cons (by omega),List.drop_of_length_le (by omega)]
   have hr:rtrim s=if blankB s[s.length - 1]=true then rtrim (s.take (s.length - 1)) else s:=by
    conv => lhs; rw [hs]
    unfold rtrim
    rw [List.reverse_append,List.reverse_singleton,List.singleton_append,List.dropWhile_cons]
    split
    ·rfl
    ·conv => rhs; rw [hs]
     simp
   rw [hr]
   by_cases hbl:blankB s[s.length - 1]=true
   ·rw [if_pos hbl,hbl,if_pos (by simp),if_pos (by omega)]
    have e2:sl s 0 ((s.length - 1:Nat):Int)=s.take (s.length - 1):=by simp [sl]
    rw [e2]
    exact ih _ (by simp; omega) (by simp; omega)
   ·rw [if_neg hbl,if_neg (by simp [hbl])]
theorem trim0 (k:Nat):∀ (m:Nat) (s:Str),s.length < m→s.length < k→s.length ≤ 9223372036854775807→utf_Trim.l0 k m s=some (rtrim (ltrim s)):=by
 intro m
 induction m with
 | zero => intro s h _; omega
 | succ m ih =>
  intro s h hk h9
  unfold utf_Trim.l0
  match s,h,hk,h9 with
  | [],h,hk,h9 => simp; exact trim1 k k [] hk h9
  | c :: s,h,hk,h9 =>
   have hb:((c :: s) == ([]:Str))=false:=rfl
   have:=blank_eq (c :: s) 0 (by simp)
   rw [show ((0:Nat):Int)=0 from rfl] at this
   rw [hb,if_pos (fun _ => by simp),if_pos (by simp),this,Option.bind_some]
   simp only [List.getElem_cons_zero,Bool.not_false,Bool.true_and,ltrim,List.dropWhile_cons]
   by_cases hbl:blankB c=true
   ·simp only [hbl,if_true]
    rw [if_pos (by simp; omega)]
    have e2:sl (c :: s) 1 ((c :: s).length:Int)=s:=by
     show List.take _ s=s
     apply List.take_of_length_le; simp
    rw [e2]
    exact ih s (by simp at h; omega) (by simp at hk; omega) (by simp at h9; omega)
   ·simp only [hbl,if_false]
    exact trim1 k k _ hk h9
theorem trim_eq (k:Nat) (s:Str) (h:s.length < k) (h9:s.length ≤ 9223372036854775807):utf_Trim k s=some (rtrim (ltrim s)):=trim0 k k s h h h9
theorem rtrim_pre (s:Str):∃ t,s=rtrim s ++ t:=by
 refine⟨(s.reverse.takeWhile blankB).reverse,?_⟩
 unfold rtrim
 rw [← List.reverse_append,List.takeWhile_append_dropWhile,List.reverse_reverse]
theorem dw_idem (p:UInt8→Bool) (s:Str):(s.dropWhile p).dropWhile p=s.dropWhile p:=by
 induction s with
 | nil => rfl
 | cons c s ih =>
  rw [List.dropWhile_cons]
  split
  ·exact ih
  ·rename_i h; rw [List.dropWhile_cons,if_neg h]
theorem rtrim_idem (s:Str):rtrim (rtrim s)=rtrim s:=by
 unfold rtrim
 rw [List.reverse_reverse,dw_idem]
theorem ltrim_rtrim (s:Str):ltrim (rtrim (ltrim s))=rtrim (ltrim s):=by
 obtain⟨t,ht⟩:=rtrim_pre (ltrim s)
 generalize hu:rtrim (ltrim s)=u at ht ⊢
 match u with
 | [] => rfl
 | c :: u =>
  have h1:ltrim (ltrim s)=ltrim s:=dw_idem _ _
  rw [ht] at h1
  unfold ltrim at h1 ⊢
  rw [List.cons_append,List.dropWhile_cons] at h1
  rw [List.dropWhile_cons]
  split at h1
  ·have:=congrArg List.length h1
   have h2:=(List.dropWhile_sublist blankB (l:=u ++ t)).length_le
   simp at this h2
   omega
  ·rename_i h; rw [if_neg h]
def SPl:Str:=[117,114,110,58,105,101,116,102,58,112,97,114,97,109,115,58,120,109,108,58,110,115,58,114,101,115,111,117,114,99,101,45,108,105,115,116,115]
def wList:Str:=[108,105,115,116]
def wDisp:Str:=[100,105,115,112,108,97,121,45,110,97,109,101]
def wEntry:Str:=[101,110,116,114,121]
def wExt:Str:=[101,120,116,101,114,110,97,108]
def wRef:Str:=[101,110,116,114,121,45,114,101,102]
def wUri:Str:=[117,114,105]
def wAnchor:Str:=[97,110,99,104,111,114]
def wRf:Str:=[114,101,102]
def wName:Str:=[110,97,109,101]
theorem space_l:uri_Space [114,101,115,111,117,114,99,101,45,108,105,115,116,115]=some SPl:=by kernel_rfl
theorem lown (a:Str):lists_own a=some ⟨SPl,a⟩:=by unfold lists_own; rw [space_l]; rfl
def trimS (s:Str):Str:=rtrim (ltrim s)
theorem tr_eq (k:Nat) (hk:12000000000 ≤ k) (s:Str) (h:s.length ≤ 8000000000):utf_Trim k s=some (trimS s):=trim_eq k s (by omega) (by omega)
def badT (n:T_api_Node):Bool:=(n.Kind == 2) && !(trimS n.Text == [])
def blankS (n:T_api_Node):Bool:=!(n.Kids.any badT)
def inS (sp:Str) (n:T_api_Node):Bool:=(n.Kind == 1) && (n.Name.Space == sp)
def isE (n:T_api_Node) (sp lo:Str):Bool:=((n.Kind == 1) && (n.Name.Space == sp)) && (n.Name.Local == lo)
def kidsS (n:T_api_Node) (sp:Str):List T_api_Node:=n.Kids.filter (inS sp)
theorem wt_kids (n:T_api_Node):n.Kids.length ≤ wt n:=by have:=wtL_len n.Kids; rw [wt_eq]; omega
theorem wt_attrs (n:T_api_Node):n.Attrs.length ≤ wt n:=by rw [wt_eq]; omega
theorem wt_text (n:T_api_Node):n.Text.length ≤ wt n:=by rw [wt_eq]; omega
theorem rd_mem {α:Type} [Inhabited α] {l:List α} {i:Nat} (h:i < l.length):rd l (i:Int) ∈ l:=by
 have:rd l (i:Int)=l[i]:=by simp [rd,h]
 rw [this]; exact List.getElem_mem h
theorem kid_text {n q:T_api_Node} (h:q ∈ n.Kids):q.Text.length ≤ wt n:=by have:=kid_lt h; have:=wt_text q; omega
theorem is_eq (n:T_api_Node) (lo:Str):lists_is n lo=some (isE n SPl lo):=by
 unfold lists_is isE
 cases h:n.Kind == 1 <;> simp [lown]
theorem lkids_l (k:Nat) (hk:12000000000 ≤ k) (n:T_api_Node) (hw:wt n ≤ 4000000000):∀ (m i:Nat) (y:List T_api_Node),i ≤ n.Kids.length→n.Kids.length < i + m→y.length ≤ i→
  lists_kids.l0 k n m y (i:Int)=some (if (n.Kids.drop i).any badT=true then ([],false) else (y ++ (n.Kids.drop i).filter (inS SPl),true)):=by
 intro m
 induction m with
 | zero => intro i y h1 h2; omega
 | succ m ih =>
  intro i y h1 h2 h3
  have hlen:=wt_kids n
  unfold lists_kids.l0
  by_cases hi:i < n.Kids.length
  ·have ht:=kid_text (rd_mem hi)
   rw [if_pos (by simp; omega),if_pos (by omega),wi (by omega),rd_drop hi,ih (i + 1) y (by omega) (by omega) (by omega),ih (i + 1) (y ++ [rd n.Kids (i:Int)]) (by omega) (by omega) (by simp; omega)]
   generalize rd n.Kids (i:Int)=q at *
   have htr:=tr_eq k hk q.Text (by omega)
   have hl:(y.length + 1) * 104 ≤ 140737488355328:=by omega
   by_cases h2:q.Kind=2
   ·by_cases hb:trimS q.Text=[] <;> simp [h2,htr,hb,badT,inS,List.filter_cons]
   ·by_cases h1:q.Kind=1
    ·by_cases hs:q.Name.Space=SPl <;> simp [h1,lown,hs,badT,inS,List.filter_cons,hl]
    ·simp [h1,h2,badT,inS,List.filter_cons]
  ·rw [if_neg (by simp; omega),List.drop_of_length_le (by omega)]; simp
theorem lkids_eq (k:Nat) (hk:12000000000 ≤ k) (n:T_api_Node) (hw:wt n ≤ 4000000000):lists_kids k n=some (if blankS n=true then (kidsS n SPl,true) else ([],false)):=by
 have hlen:=wt_kids n
 have:=lkids_l k hk n hw k 0 [] (by omega) (by omega) (by simp)
 unfold lists_kids
 refine Eq.trans this ?_
 unfold blankS kidsS
 rw [List.drop_zero]
 cases n.Kids.any badT <;> simp
theorem wtL_kids (n:T_api_Node):wtL n.Kids ≤ wt n:=by rw [wt_eq]; omega
def txtK (ks:List T_api_Node):Str:=(ks.filter fun q => q.Kind == 2).flatMap (·.Text)
def valS (n:T_api_Node):Str:=if (n.Kind == 2)=true then n.Text else txtK n.Kids
theorem txtK_cons (q:T_api_Node) (ks:List T_api_Node):txtK (q :: ks)=if (q.Kind == 2)=true then q.Text ++ txtK ks else txtK ks:=by
 unfold txtK; rw [List.filter_cons]; split <;> simp
theorem txtK_len:∀ ks:List T_api_Node,(txtK ks).length ≤ wtL ks
 | [] => by simp [txtK]
 | q :: ks => by
  have h1:=txtK_len ks
  have h2:=wt_text q
  rw [txtK_cons,wtL]
  split
  ·simp; omega
  ·omega
theorem val_len (n:T_api_Node):(valS n).length ≤ wt n:=by
 unfold valS
 have h1:=txtK_len n.Kids
 have h2:=wtL_kids n
 have h3:=wt_text n
 split <;> omega
theorem value_l (k:Nat) (n:T_api_Node) (hw:wt n ≤ 4000000000):∀ (m i:Nat) (y:Str),i ≤ n.Kids.length→n.Kids.length < i + m→y.length + wtL (n.Kids.drop i) ≤ 8000000000→tree_Value.l0 k n m (i:Int) y=some (y ++ txtK (n.Kids.drop i)):=by
 intro m
 induction m with
 | zero => intro i y h1 h2; omega
 | succ m ih =>
  intro i y h1 h2 h3
  have hlen:=wt_kids n
  unfold tree_Value.l0
  by_cases hi:i < n.Kids.length
  ·have ht:=wt_text (rd n.Kids (i:Int))
   rw [rd_drop hi,wtL] at h3
   rw [if_pos (by simp; omega),if_pos (by omega),rd_drop hi,wi (by omega),if_pos (show y.length + (rd n.Kids (i:Int)).Text.length ≤ 9223372036854775807 by omega),ih (i + 1) _ (by omega) (by omega) (by simp; omega),ih (i + 1) y (by omega) (by omega) (by omega),txtK_cons]
   cases (rd n.Kids (i:Int)).Kind == 2 <;> simp
  ·rw [if_neg (by simp; omega),List.drop_of_length_le (by omega)]; simp [txtK]
theorem value_eq (k:Nat) (hk:12000000000 ≤ k) (n:T_api_Node) (hw:wt n ≤ 4000000000):tree_Value k n=some (valS n):=by
 have hlen:=wt_kids n
 have h2:=wtL_kids n
 have:=value_l k n hw k 0 [] (by omega) (by omega) (by simp; omega)
 unfold tree_Value valS
 cases n.Kind == 2 with
 | true => simp
 | false => rw [if_neg (by simp),if_neg (by simp)]; simpa using this
def attrS (n:T_api_Node) (lo:Str):Str:=(getS n.Attrs [] lo).1
theorem lget_eq (k:Nat) (hk:12000000000 ≤ k) (n:T_api_Node) (lo:Str) (hw:wt n ≤ 4000000000):tree_Get k n ⟨[],lo⟩=some (getS n.Attrs [] lo):=by
 have:=wt_attrs n
 exact get_eq k n _ (by omega) (by omega)
theorem nd_eta (n:T_api_Node):T_api_Node.mk n.Kind (T_api_Name.mk n.Name.Space n.Name.Local) n.Attrs n.Kids n.Text=n:=by cases n; rfl
theorem kids_wt {n q:T_api_Node} {sp:Str} (h:q ∈ kidsS n sp):wt q < wt n:=kid_lt (List.mem_filter.1 h).1
theorem filter_any {α:Type} (p:α→Bool):∀ l:List α,(l.filter p).isEmpty=!(l.any p)
 | [] => rfl
 | x :: l => by rw [List.filter_cons,List.any_cons]; cases h:p x <;> simp [filter_any p l]
def dispS (n:T_api_Node):Bool:=isE n SPl wDisp && (kidsS n SPl).isEmpty
theorem display_l (k:Nat) (hk:12000000000 ≤ k) (n:T_api_Node) (hw:wt n ≤ 4000000000):∀ (m i:Nat),i ≤ n.Kids.length→n.Kids.length < i + m→
  lists_display.l0 k n m n.Kind n.Name.Space n.Name.Local n.Attrs n.Kids n.Text (i:Int)=some (if (n.Kids.drop i).any (inS SPl)=true then ([],false) else (trimS (valS n),isE n SPl wDisp)):=by
 intro m
 induction m with
 | zero => intro i h1 h2; omega
 | succ m ih =>
  intro i h1 h2
  have hlen:=wt_kids n
  unfold lists_display.l0
  by_cases hi:i < n.Kids.length
  ·rw [if_pos (by simp; omega),if_pos (by omega),wi (by omega),rd_drop hi,ih (i + 1) (by omega) (by omega)]
   generalize rd n.Kids (i:Int)=q at *
   by_cases h1:q.Kind=1
   ·by_cases hs:q.Name.Space=SPl <;> simp [h1,lown,hs,inS]
   ·simp [h1,inS]
  ·have hv:=val_len n
   rw [if_neg (by simp; omega),List.drop_of_length_le (by omega)]
   have h2:lists_is n wDisp=some (isE n SPl wDisp):=is_eq n wDisp
   rw [nd_eta,value_eq k hk n hw,Option.bind_some,tr_eq k hk _ (by omega),Option.bind_some]
   refine Eq.trans (congrArg (fun o => Option.bind o _) h2) ?_
   simp
theorem display_eq (k:Nat) (hk:12000000000 ≤ k) (n:T_api_Node) (hw:wt n ≤ 4000000000):lists_display k n=some (if (kidsS n SPl).isEmpty=true then (trimS (valS n),isE n SPl wDisp) else ([],false)):=by
 have hlen:=wt_kids n
 have:=display_l k hk n hw k 0 (by omega) (by omega)
 unfold lists_display
 refine Eq.trans this ?_
 unfold kidsS
 rw [filter_any,List.drop_zero]
 cases n.Kids.any (inS SPl) <;> simp
def attrK (n:T_api_Node):Str × Int:=if isE n SPl wEntry=true then (wUri,1) else if isE n SPl wExt=true then (wAnchor,3) else if isE n SPl wRef=true then (wRf,4) else ([],0)
theorem attr_eq (n:T_api_Node):lists_attr n=some (attrK n):=by
 unfold lists_attr attrK
 have h1:lists_is n wEntry=some (isE n SPl wEntry):=is_eq n wEntry
 have h2:lists_is n wExt=some (isE n SPl wExt):=is_eq n wExt
 have h3:lists_is n wRef=some (isE n SPl wRef):=is_eq n wRef
 refine Eq.trans (congrArg (fun o => Option.bind o _) h1) ?_
 rw [Option.bind_some]
 cases isE n SPl wEntry with
 | true => simp; rfl
 | false =>
  rw [if_neg (by simp),if_neg (by simp)]
  refine Eq.trans (congrArg (fun o => Option.bind o _) h2) ?_
  rw [Option.bind_some]
  cases isE n SPl wExt with
  | true => simp; rfl
  | false =>
   rw [if_neg (by simp),if_neg (by simp)]
   refine Eq.trans (congrArg (fun o => Option.bind o _) h3) ?_
   rw [Option.bind_some]
   cases isE n SPl wRef <;> simp; rfl
def plainS (n:T_api_Node):Option T_api_Entry:=
 if (attrK n).2=0 ∨ attrS n (attrK n).1=[] ∨ blankS n=false then none
 else match kidsS n SPl with
  | [] => some ⟨(attrK n).2,attrS n (attrK n).1,[],[]⟩
  | [d] => if dispS d=true then some ⟨(attrK n).2,attrS n (attrK n).1,if (attrK n).2=1 then trimS (valS d) else [],[]⟩ else none
  | _ => none
def noE:T_api_Entry:=⟨0,[],[],[]⟩
def optE (o:Option T_api_Entry):T_api_Entry × Bool:=match o with | some e => (e,true) | none => (noE,false)
theorem plain_eq (k:Nat) (hk:12000000000 ≤ k) (n:T_api_Node) (hw:wt n ≤ 4000000000):lists_plain k n=some (optE (plainS n)):=by
 unfold lists_plain
 rw [attr_eq,Option.bind_some,lget_eq k hk n _ hw,Option.bind_some,lkids_eq k hk n hw,Option.bind_some]
 unfold plainS attrS
 by_cases hk0:(attrK n).2=0
 ·simp [hk0,optE,noE]
 ·by_cases hv:(getS n.Attrs [] (attrK n).1).1=[]
  ·simp [hv,optE,noE]
  ·cases hb:blankS n with
   | false => simp [optE,noE]
   | true =>
    cases hkk:kidsS n SPl with
    | nil => simp [hk0,hv,optE]
    | cons d r =>
     have hd:wt d ≤ 4000000000:=by have:wt d < wt n:=kids_wt (sp:=SPl) (by rw [hkk]; exact .head _); omega
     cases r with
     | cons d2 r2 => simp [hk0,hv,optE,noE]; intro h; omega
     | nil =>
      have e:lists_display k (rd [d] 0)=_:=display_eq k hk d hd
      unfold dispS
      cases h8:(kidsS d SPl).isEmpty with
      | false => simp [hk0,hv,optE,noE,e,h8]
      | true =>
       cases h9:isE d SPl wDisp with
       | false => simp [hk0,hv,optE,noE,e,h8,h9]
       | true => by_cases h1:(attrK n).2=1 <;> simp [hk0,hv,h1,optE,e,h8,h9]
mutual
def listS:T_api_Node→Option T_api_Entry
 | .mk kd nm ats ks tx => if isE (.mk kd nm ats ks tx) SPl wList=true ∧ blankS (.mk kd nm ats ks tx)=true then (itemsS ks true).map fun l =>⟨2,[],attrS (.mk kd nm ats ks tx) wName,l⟩ else none
def itemsS:List T_api_Node→Bool→Option (List T_api_Entry)
 | [],_ => some []
 | q :: ks,f => if inS SPl q=true then (if (f && dispS q)=true then itemsS ks false else
   (if isE q SPl wList=true then listS q else plainS q).bind fun e => (itemsS ks false).map fun l => e :: l) else itemsS ks f
end
def itemsL:List T_api_Node→Bool→Option (List T_api_Entry)
 | [],_ => some []
 | q :: ks,f => if (f && dispS q)=true then itemsL ks false else
   (if isE q SPl wList=true then listS q else plainS q).bind fun e => (itemsL ks false).map fun l => e :: l
theorem items_filter:∀ (ks:List T_api_Node) (f:Bool),itemsS ks f=itemsL (ks.filter (inS SPl)) f
 | [],_ => by rw [itemsS]; rfl
 | q :: ks,f => by
  rw [itemsS,List.filter_cons]
  cases h:inS SPl q with
  | false => rw [if_neg (by simp),if_neg (by simp)]; exact items_filter ks f
  | true => rw [if_pos rfl,if_pos rfl,itemsL,items_filter ks false]
theorem listS_eq (n:T_api_Node):listS n=if isE n SPl wList=true ∧ blankS n=true then (itemsL (kidsS n SPl) true).map fun l =>⟨2,[],attrS n wName,l⟩ else none:=by
 cases n; rw [listS,items_filter]; rfl
theorem lit_ne {n:T_api_Node} {sp a b:Str} (h:isE n sp a=true) (hab:a ≠ b):isE n sp b=false:=by
 unfold isE at h ⊢
 simp only [Bool.and_eq_true,beq_iff_eq] at h
 rw [h.2]
 have:(a == b)=false:=by simpa using hab
 rw [this]; simp
theorem plain_disp {n:T_api_Node} (h:isE n SPl wDisp=true):plainS n=none:=by
 have h1:=lit_ne h (b:=wEntry) (by decide)
 have h2:=lit_ne h (b:=wExt) (by decide)
 have h3:=lit_ne h (b:=wRef) (by decide)
 unfold plainS attrK
 simp [h1,h2,h3]
theorem list_loop (k:Nat) (hk:12000000000 ≤ k) (self:T_api_Node→Option (T_api_Entry × Bool)) (l:List T_api_Node) (hl:∀ q ∈ l,wt q ≤ 4000000000 ∧ self q=some (optE (listS q))) (h9:l.length ≤ 4000000000) (z0:Int) (z1 z2:Str) (z3:List T_api_Entry) (nm:Str):∀ (m i:Nat) (y:List T_api_Entry),i ≤ l.length→l.length < i + m→y.length ≤ i→
  lists_list.l0 k self l m z0 z1 z2 z3 2 [] nm y (i:Int)=some (optE ((itemsL (l.drop i) false).map fun r =>⟨2,[],nm,y ++ r⟩)):=by
 intro m
 induction m with
 | zero => intro i y h1 h2; omega
 | succ m ih =>
  intro i y h1 h2 h3
  unfold lists_list.l0
  by_cases hi:i < l.length
  ·obtain⟨hw,hs⟩:=hl _ (rd_mem hi)
   have hp:=plain_eq k hk (rd l (i:Int)) hw
   have hil:lists_is (rd l (i:Int)) [108,105,115,116]=some (isE (rd l (i:Int)) SPl wList):=is_eq _ wList
   have hj:∀ (o:Option T_api_Entry) (x:Nat),(if x=26 then self (rd l (i:Int)) else (if x=43 then lists_plain k (rd l (i:Int)) else none))=some (optE o)→lists_list.j1 k self (lists_list.l0 k self l m) l z0 z1 z2 z3 2 [] nm y (i:Int) x=some (optE ((o.bind fun e => (itemsL (l.drop (i + 1)) false).map fun l => e :: l).map fun r =>⟨2,[],nm,y ++ r⟩)):=by
    intro o x hx
    unfold lists_list.j1
    rw [hx,Option.bind_some,wi (by omega)]
    cases o with
    | none => rfl
    | some e =>
     show (if (!true)=true then _ else if (y.length + [e].length) * 64 ≤ 140737488355328 then lists_list.l0 k self l m z0 z1 z2 z3 2 [] nm (y ++ [e]) ((i + 1:Nat):Int) else none)=_
     rw [if_neg (by simp),if_pos (by simp; omega),ih (i + 1) _ (by omega) (by omega) (by simp; omega)]
     cases itemsL (l.drop (i + 1)) false with
     | none => rfl
     | some r => simp [optE]
   rw [if_pos (by simp; omega),if_pos (by omega),hil,Option.bind_some,rd_drop hi,itemsL,Bool.false_and,if_neg (show ¬ (false=true) by simp)]
   cases isE (rd l (i:Int)) SPl wList with
   | true => rw [if_pos rfl,if_pos rfl]; exact hj _ 26 hs
   | false => rw [if_neg (by simp),if_neg (by simp)]; exact hj _ 43 hp
  ·rw [if_neg (by simp; omega),List.drop_of_length_le (by omega)]; simp [itemsL,optE]
theorem list_eq:∀ (d k:Nat) (n:T_api_Node),wt n ≤ d→wt n ≤ 4000000000→wt n + 12000000010 ≤ k→lists_list k n=some (optE (listS n)):=by
 intro d
 induction d with
 | zero => intro k n h1 h2; have:=wt_pos n; omega
 | succ d ih =>
  intro k n h1 h2 h3
  obtain⟨k,rfl⟩:∃ z,k=z + 1:=⟨k - 1,by omega⟩
  have hlen:=wt_kids n
  have hkl:(kidsS n SPl).length ≤ 4000000000:=by have:(kidsS n SPl).length ≤ n.Kids.length:=List.length_filter_le _ _; omega
  have hmem:∀ q ∈ kidsS n SPl,wt q ≤ 4000000000 ∧ lists_list k q=some (optE (listS q)):=fun q hq => by
   have:=kids_wt hq
   exact⟨by omega,ih k q (by omega) (by omega) (by omega)⟩
  rw [lists_list,listS_eq]
  have hil:lists_is n [108,105,115,116]=some (isE n SPl wList):=is_eq n wList
  have hlk:=lkids_eq k (by omega) n h2
  cases hb:blankS n with
  | false => rw [hb] at hlk; rw [hlk]; simp [optE,noE]
  | true =>
   rw [hb,if_pos rfl] at hlk
   have hcond:(if ((!(kidsS n SPl,true).2) == false)=true then lists_is n [108,105,115,116] else some default)=some (isE n SPl wList):=hil
   rw [hlk,Option.bind_some,hcond,Option.bind_some]
   cases hl:isE n SPl wList with
   | false => simp [optE,noE]
   | true =>
    have hg:tree_Get k n (T_api_Name.mk [] [110,97,109,101])=some (getS n.Attrs [] wName):=lget_eq k (by omega) n wName h2
    rw [if_neg (by simp),if_pos (show true=true ∧ true=true by simp),hg,Option.bind_some]
    show (if ((decide (((kidsS n SPl).length:Int) > 0) == true)=true→_) then _ else none)=_
    have hend:∀ r:List T_api_Node,(∀ q ∈ r,q ∈ kidsS n SPl)→r.length ≤ 4000000000→lists_list.j2 k (lists_list k) (getS n.Attrs [] wName) r=some (optE ((itemsL r false).map fun l =>⟨2,[],attrS n wName,l⟩)):=fun r hr h9 => by
     unfold lists_list.j2
     have:=list_loop k (by omega) (lists_list k) r (fun q hq => hmem q (hr q hq)) h9 0 [] [] [] (getS n.Attrs [] wName).1 k 0 [] (by omega) (by omega) (by simp)
     refine Eq.trans this ?_
     rw [List.drop_zero]; rfl
    cases hkk:kidsS n SPl with
    | nil =>
     rw [if_pos (fun h => by simp at h)]
     simp only [List.length_nil]
     rw [if_neg (by simp),Option.bind_some,if_neg (by simp)]
     exact hend [] (fun q hq => by cases hq) (by simp)
    | cons q r =>
     rw [hkk] at hkl hmem hend
     have hq:=hmem q (.head _)
     have hd:decide (((q :: r).length:Int) > 0)=true:=by simp
     have e1:rd (q :: r) 0=q:=rfl
     have hid:lists_is q [100,105,115,112,108,97,121,45,110,97,109,101]=some (isE q SPl wDisp):=is_eq q wDisp
     rw [hd,if_pos (fun _ => by simp),if_pos (by simp),e1,hid,Option.bind_some,Bool.true_and]
     have hsl:sl (q :: r) 1 (((q :: r).length:Nat):Int)=r:=by simp [sl]
     cases hqd:isE q SPl wDisp with
     | false =>
      rw [if_neg (by simp),hend _ (fun q hq => hq) hkl]
      have hds:dispS q=false:=by unfold dispS; rw [hqd]; rfl
      rw [itemsL,itemsL,hds]; rfl
     | true =>
      rw [if_pos rfl,if_pos (by simp),display_eq k (by omega) q hq.1,Option.bind_some]
      cases hke:(kidsS q SPl).isEmpty with
      | false =>
       have hds:dispS q=false:=by unfold dispS; rw [hke]; simp
       have hnl:=lit_ne hqd (b:=wList) (by decide)
       rw [itemsL,hds,hnl,plain_disp hqd]
       simp [optE,noE]
      | true =>
       have hds:dispS q=true:=by unfold dispS; rw [hke,hqd]; rfl
       rw [if_pos rfl,hqd,if_neg (by simp),if_pos (by simp; omega),hsl,hend r (fun q hq => .tail _ hq) (by simp at hkl; omega),itemsL,hds]
       rfl
theorem told_plain {q:T_api_Node} {e:T_api_Entry} (h:plainS q=some e):(isE q SPl wEntry=true ∧ e=⟨1,attrS q wUri,if ((kidsS q SPl).length:Int)=1 then trimS (valS (rd (kidsS q SPl) 0)) else [],[]⟩) ∨ (isE q SPl wExt=true ∧ e=⟨3,attrS q wAnchor,[],[]⟩) ∨ (isE q SPl wRef=true ∧ e=⟨4,attrS q wRf,[],[]⟩):=by
 unfold plainS at h
 split at h
 ·cases h
 ·rename_i hn
  have hk0:(attrK q).2 ≠ 0:=fun e => hn (.inl e)
  unfold attrK at h hk0
  cases h1:isE q SPl wEntry with
  | true =>
   simp only [h1,if_true] at h
   refine .inl ⟨rfl,?_⟩
   cases hkk:kidsS q SPl with
   | nil => rw [hkk] at h; simp at h; simp [← h]
   | cons d r =>
    rw [hkk] at h
    cases r with
    | cons d2 r2 => simp at h
    | nil =>
     have e1:rd [d] 0=d:=rfl
     simp only at h
     split at h
     ·cases h; simp [e1]
     ·cases h
  | false =>
   cases h2:isE q SPl wExt with
   | true =>
    simp only [h1,h2,if_true,Bool.false_eq_true,if_false] at h
    refine .inr (.inl ⟨rfl,?_⟩)
    cases hkk:kidsS q SPl with
    | nil => rw [hkk] at h; simp at h; simp [← h]
    | cons d r =>
     rw [hkk] at h
     cases r with
     | cons d2 r2 => simp at h
     | nil =>
      simp only at h
      split at h
      ·cases h; simp
      ·cases h
   | false =>
    cases h3:isE q SPl wRef with
    | true =>
     simp only [h1,h2,h3,if_true,Bool.false_eq_true,if_false] at h
     refine .inr (.inr ⟨rfl,?_⟩)
     cases hkk:kidsS q SPl with
     | nil => rw [hkk] at h; simp at h; simp [← h]
     | cons d r =>
      rw [hkk] at h
      cases r with
      | cons d2 r2 => simp at h
      | nil =>
       simp only at h
       split at h
       ·cases h; simp
       ·cases h
    | false => simp [h1,h2,h3] at hk0
def keyE (x:T_api_Entry):Int × Str:=(x.Kind,if x.Kind=2 then x.Name else x.URI)
mutual
def uqE:T_api_Entry→Bool
 | .mk _ _ _ l => uqF [] l
def uqF:List (Int × Str)→List T_api_Entry→Bool
 | _,[] => true
 | seen,x :: l => !(seen.contains (keyE x)) && (uqE x && uqF (seen ++ [keyE x]) l)
end
theorem uqE_eq (x:T_api_Entry):uqE x=uqF [] x.List_:=by cases x; rw [uqE]
mutual
def wE:T_api_Entry→Nat
 | .mk _ _ _ l => 1 + wEL l
def wEL:List T_api_Entry→Nat
 | [] => 0
 | x :: l => wE x + wEL l
end
theorem wE_eq (x:T_api_Entry):wE x=1 + wEL x.List_:=by cases x; rw [wE]
theorem wE_pos (x:T_api_Entry):1 ≤ wE x:=by rw [wE_eq]; omega
theorem wEL_len:∀ l:List T_api_Entry,l.length ≤ wEL l
 | [] => by simp [wEL]
 | x :: l => by have:=wEL_len l; have:=wE_pos x; rw [wEL]; simp; omega
theorem wEL_mem {l:List T_api_Entry} {x:T_api_Entry} (h:x ∈ l):wE x ≤ wEL l:=by
 induction l with
 | nil => cases h
 | cons m l ih =>
  rw [wEL]
  rcases List.mem_cons.1 h with rfl | h
  ·omega
  ·have:=ih h; omega
theorem wEL_list {l:List T_api_Entry} {x:T_api_Entry} (h:x ∈ l):wEL x.List_ < wEL l:=by have:=wEL_mem h; rw [wE_eq] at this; omega
theorem lkm_upm {α β:Type} {keq:α→α→Bool} (hq:∀ a b,keq a b=true ↔ a=b) (z:β) (m:List (α × β)) (k:α) (v:β) (n:α):lkm keq z (upm keq m k v) n=if keq n k=true then v else lkm keq z m n:=by
 induction m with
 | nil => simp [upm,lkm]
 | cons p m ih =>
  simp only [upm]
  by_cases h:keq k p.1=true
  ·rw [if_pos h]
   have e:=(hq _ _).1 h
   simp only [lkm]
   by_cases h2:keq n k=true
   ·simp [h2]
   ·rw [if_neg h2,if_neg h2,if_neg (by rw [← e]; exact h2)]
  ·rw [if_neg h]
   simp only [lkm]
   by_cases h2:keq n p.1=true
   ·rw [if_pos h2,if_pos h2]
    have e:=(hq _ _).1 h2
    have:keq n k ≠ true:=fun h3 => h (by rw [← e,← (hq _ _).1 h3]; exact (hq _ _).2 rfl)
    rw [if_neg this]
   ·rw [if_neg h2,if_neg h2]; exact ih
theorem keq_iff (a b:T_lists_key):keq87 a b=true ↔ a=b:=by cases a; cases b; simp [keq87]
def kOf (p:Int × Str):T_lists_key:=⟨p.1,p.2⟩
theorem luq_loop (k:Nat) (self:List T_api_Entry→Option Bool) (l:List T_api_Entry) (hl:∀ x ∈ l,self x.List_=some (uqF [] x.List_)) (h9:l.length ≤ 8000000000):∀ (m i:Nat) (y:List (T_lists_key × Bool)) (seen:List (Int × Str)),i ≤ l.length→l.length < i + m→(∀ p,lkm keq87 false y (kOf p)=seen.contains p)→
  lists_unique.l0 k self l m y (i:Int)=some (uqF seen (l.drop i)):=by
 intro m
 induction m with
 | zero => intro i y seen h1 h2; omega
 | succ m ih =>
  intro i y seen h1 h2 h3
  unfold lists_unique.l0
  by_cases hi:i < l.length
  ·have hs:=hl _ (rd_mem hi)
   rw [if_pos (by simp; omega),if_pos (by omega),rd_drop hi,uqF,uqE_eq]
   have hj:∀ s,s=(keyE (rd l (i:Int))).2→lists_unique.j1 self (lists_unique.l0 k self l m) l y (i:Int) s=some (!(seen.contains (keyE (rd l (i:Int)))) && (uqF [] (rd l (i:Int)).List_ && uqF (seen ++ [keyE (rd l (i:Int))]) (l.drop (i + 1)))):=by
    intro s hse
    unfold lists_unique.j1
    have hk:(T_lists_key.mk ((T_lists_key.mk ((rd l (i:Int)).Kind) ((rd l (i:Int)).URI)).Kind_) s)=kOf (keyE (rd l (i:Int))):=by rw [hse]; rfl
    rw [hk,h3,wi (by omega),hs]
    have ih1:=ih (i + 1) (upm keq87 y (kOf (keyE (rd l (i:Int)))) true) (seen ++ [keyE (rd l (i:Int))]) (by omega) (by omega) (fun p => by
     rw [lkm_upm keq_iff,h3]
     have hkk:(keq87 (kOf p) (kOf (keyE (rd l (i:Int))))=true) ↔ p=keyE (rd l (i:Int)):=by
      rw [keq_iff]
      constructor
      ·intro h
       cases p
       generalize keyE (rd l (i:Int))=q at *
       cases q
       simp [kOf] at h
       simp [h]
      ·intro h; rw [h]
     by_cases hp:p=keyE (rd l (i:Int))
     ·rw [if_pos (hkk.2 hp),hp]; simp
     ·rw [if_neg (fun h => hp (hkk.1 h))]
      rw [Bool.eq_iff_iff]
      simp [hp])
    rw [ih1]
    cases seen.contains (keyE (rd l (i:Int))) <;> cases uqF [] (rd l (i:Int)).List_ <;> simp
   by_cases h2k:(rd l (i:Int)).Kind=2
   ·rw [if_pos (by simpa using h2k)]; exact hj _ (by unfold keyE; simp [h2k])
   ·rw [if_neg (by simpa using h2k)]; exact hj _ (by unfold keyE; simp [h2k])
  ·rw [if_neg (by simp; omega),List.drop_of_length_le (by omega)]; simp [uqF]
theorem luq_eq:∀ (d k:Nat) (l:List T_api_Entry),wEL l < d→wEL l ≤ 8000000000→wEL l + 12000000010 ≤ k→lists_unique k l=some (uqF [] l):=by
 intro d
 induction d with
 | zero => intro k l h1; omega
 | succ d ih =>
  intro k l h1 h2 h3
  obtain⟨k,rfl⟩:∃ z,k=z + 1:=⟨k - 1,by omega⟩
  have hlen:=wEL_len l
  have:=luq_loop k (lists_unique k) l (fun x hx => by
   have:=wEL_list hx
   exact ih k x.List_ (by omega) (by omega) (by omega)) (by omega) k 0 [] [] (by omega) (by omega) (fun p => by simp [lkm])
  rw [lists_unique]
  exact this
theorem plain_wt {n:T_api_Node} {e:T_api_Entry} (h:plainS n=some e):wE e ≤ wt n:=by
 have h0:=wt_pos n
 rcases told_plain h with ⟨_,rfl⟩ |⟨_,rfl⟩ |⟨_,rfl⟩ <;> rw [wE_eq] <;> simp only [wEL] <;> omega
mutual
theorem list_wt:∀ (n:T_api_Node) (e:T_api_Entry),listS n=some e→wE e ≤ wt n
 | .mk kd nm ats ks tx,e,h => by
  rw [listS] at h
  split at h
  ·obtain⟨r,hr,rfl⟩:=Option.map_eq_some_iff.1 h
   have h1:=items_wt ks true r hr
   rw [wE_eq,wt_eq]
   simp only [List.length_nil] at *
   omega
  ·cases h
theorem items_wt:∀ (ks:List T_api_Node) (f:Bool) (r:List T_api_Entry),itemsS ks f=some r→wEL r ≤ wtL ks
 | [],f,r,h => by rw [itemsS] at h; cases h; simp [wEL]
 | q :: ks,f,r,h => by
  rw [itemsS] at h
  rw [wtL]
  split at h
  ·split at h
   ·have:=items_wt ks false r h; omega
   ·obtain⟨e,he,h⟩:=Option.bind_eq_some_iff.1 h
    obtain⟨r',hr',rfl⟩:=Option.map_eq_some_iff.1 h
    have h1:=items_wt ks false r' hr'
    rw [wEL]
    split at he
    ·have:=list_wt q e he; omega
    ·have:=plain_wt he; omega
  ·have:=items_wt ks f r h; omega
end
theorem same16_l (k:Nat) (self:List T_api_Entry→List T_api_Entry→Option Bool) (l:List T_api_Entry) (hl:∀ x ∈ l,self x.List_ x.List_=some true) (h9:l.length ≤ 8000000000):∀ (m i:Nat),i ≤ l.length→l.length < i + m→watchbillref16_Same.l0 k self l l m (i:Int)=some true:=by
 intro m
 induction m with
 | zero => intro i h1 h2; omega
 | succ m ih =>
  intro i h1 h2
  unfold watchbillref16_Same.l0
  by_cases hi:i < l.length
  ·rw [if_pos (by simp; omega),if_pos (by omega),if_pos (by omega),wi (by omega),ih (i + 1) (by omega) (by omega)]
   unfold watchbillref16_One
   rw [hl _ (rd_mem hi)]
   simp
  ·rw [if_neg (by simp; omega)]
theorem same16_eq:∀ (d k:Nat) (l:List T_api_Entry),wEL l < d→wEL l ≤ 8000000000→wEL l + 12000000010 ≤ k→watchbillref16_Same k l l=some true:=by
 intro d
 induction d with
 | zero => intro k l h1; omega
 | succ d ih =>
  intro k l h1 h2 h3
  obtain⟨k,rfl⟩:∃ z,k=z + 1:=⟨k - 1,by omega⟩
  have hlen:=wEL_len l
  have:=same16_l k (watchbillref16_Same k) l (fun x hx => by
   have:=wEL_list hx
   exact ih k x.List_ (by omega) (by omega) (by omega)) (by omega) k 0 (by omega) (by omega)
  rw [watchbillref16_Same,if_neg (by simp)]
  exact this
mutual
def wN:T_api_Entry→Nat
 | .mk _ u n l => 1 + u.length + n.length + wNL l
def wNL:List T_api_Entry→Nat
 | [] => 0
 | x :: l => wN x + wNL l
end
theorem wN_eq (x:T_api_Entry):wN x=1 + x.URI.length + x.Name.length + wNL x.List_:=by cases x; rw [wN]
mutual
def wT:T_api_Entry→Nat
 | .mk kd _ n l => 1 + (if kd=1 then n.length else 0) + wTL l
def wTL:List T_api_Entry→Nat
 | [] => 0
 | x :: l => wT x + wTL l
end
theorem wT_eq (x:T_api_Entry):wT x=1 + (if x.Kind=1 then x.Name.length else 0) + wTL x.List_:=by cases x; rw [wT]
mutual
theorem wE_le:∀ x:T_api_Entry,wE x ≤ wT x
 | .mk kd u n l => by rw [wE,wT]; have:=wEL_le l; omega
theorem wEL_le:∀ l:List T_api_Entry,wEL l ≤ wTL l
 | [] => by rw [wEL,wTL]; exact Nat.le_refl _
 | x :: l => by rw [wEL,wTL]; have:=wE_le x; have:=wEL_le l; omega
end
mutual
theorem wT_le:∀ x:T_api_Entry,wT x ≤ wN x
 | .mk kd u n l => by rw [wT,wN]; have:=wTL_le l; split <;> omega
theorem wTL_le:∀ l:List T_api_Entry,wTL l ≤ wNL l
 | [] => by rw [wTL,wNL]; exact Nat.le_refl _
 | x :: l => by rw [wTL,wNL]; have:=wT_le x; have:=wTL_le l; omega
end
theorem weigh16_l (k:Nat) (self:List T_api_Entry→Int→Option Int) (q:Nat) (hq:q ≤ 5000) (l:List T_api_Entry)
  (hself:∀ (l:List T_api_Entry) (p:Nat),p < q→∃ w:Nat,self l (p:Int)=some (w:Int) ∧ w ≤ 4 * p + 1 ∧ (w ≤ p→wNL l ≤ w)):∀ (m i n:Nat),q + 2 ≤ n + m→i ≤ l.length→i ≤ n→n ≤ 4 * q + 1→0 < m→
  ∃ w:Nat,watchbilllaw16_weigh.l0 k self l (q:Int) m (n:Int) (i:Int)=some (w:Int) ∧ n ≤ w ∧ w ≤ 4 * q + 1 ∧ (w ≤ q→n + wNL (l.drop i) ≤ w):=by
 intro m
 induction m with
 | zero => intro i n h1 h2 h3 h4 h5; omega
 | succ m ih =>
  intro i n h1 h2 h3 h4 h5
  unfold watchbilllaw16_weigh.l0
  by_cases hi:i < l.length ∧ n ≤ q
  ·rw [if_pos (by simp; omega),if_pos (by omega),if_pos (by omega)]
   have c1:=mcap q ((rd l (i:Int)).URI.length:Int) (by omega) (by omega)
   have c2:=mcap q ((rd l (i:Int)).Name.length:Int) (by omega) (by omega)
   have hw:wNL (l.drop i)=1 + (rd l (i:Int)).URI.length + (rd l (i:Int)).Name.length + wNL (rd l (i:Int)).List_ + wNL (l.drop (i + 1)):=by rw [rd_drop hi.1,wNL,wN_eq]
   generalize (rd l (i:Int)).URI.length=l1 at *
   generalize (rd l (i:Int)).Name.length=l2 at *
   generalize (if (q:Int) < (l1:Int) then (q:Int) else (l1:Int))=x1 at *
   generalize (if (q:Int) < (l2:Int) then (q:Int) else (l2:Int))=x2 at *
   rw [w64 (x:=(n:Int) + 1) (by omega) (by omega),w64 (x:=(n:Int) + 1 + x1) (by omega) (by omega),w64 (x:=(n:Int) + 1 + x1 + x2) (by omega) (by omega)]
   obtain⟨v,hv⟩:=Int.eq_ofNat_of_zero_le (show 0 ≤ (n:Int) + 1 + x1 + x2 by omega)
   rw [hv,wi (by omega)]
   by_cases hvq:v ≤ q
   ·have e:IntKind.i64.wrap ((q:Int) - (v:Int))=((q - v:Nat):Int):=by rw [w64 (by omega) (by omega)]; omega
    obtain⟨t,ht,t2,t3⟩:=hself (rd l (i:Int)).List_ (q - v) (by omega)
    have e2:IntKind.i64.wrap ((v:Int) + (t:Int))=((v + t:Nat):Int):=by rw [w64 (by omega) (by omega)]; omega
    rw [if_pos (by simp; omega),if_pos (by omega),e,ht,Option.bind_some,e2]
    obtain⟨w,g1,g2,g3,g4⟩:=ih (i + 1) (v + t) (by omega) (by omega) (by omega) (by omega) (by omega)
    refine⟨w,g1,by omega,g3,fun h => ?_⟩
    have:=g4 h
    have:=t3 (by omega)
    omega
   ·rw [if_neg (by simp; omega)]
    by_cases hm:0 < m
    ·obtain⟨w,g1,g2,g3,g4⟩:=ih (i + 1) v (by omega) (by omega) (by omega) (by omega) hm
     exact⟨w,g1,by omega,g3,fun h => by omega⟩
    ·omega
  ·rw [if_neg (by simp; omega)]
   refine⟨n,rfl,Nat.le_refl _,h4,fun h => ?_⟩
   have:i=l.length:=by omega
   rw [this,List.drop_length,wNL]; omega
theorem weigh16_eq:∀ (d q k:Nat) (l:List T_api_Entry),q ≤ d→q ≤ 5000→q + 60010 ≤ k→∃ w:Nat,watchbilllaw16_weigh k l (q:Int)=some (w:Int) ∧ w ≤ 4 * q + 1 ∧ (w ≤ q→wNL l ≤ w):=by
 have main:∀ (q k:Nat) (l:List T_api_Entry),q ≤ 5000→q + 60010 ≤ k + 1→(∀ (l:List T_api_Entry) (p:Nat),p < q→∃ w:Nat,watchbilllaw16_weigh k l (p:Int)=some (w:Int) ∧ w ≤ 4 * p + 1 ∧ (w ≤ p→wNL l ≤ w))→
   ∃ w:Nat,watchbilllaw16_weigh (k + 1) l (q:Int)=some (w:Int) ∧ w ≤ 4 * q + 1 ∧ (w ≤ q→wNL l ≤ w):=by
  intro q k l hq hk hself
  rw [watchbilllaw16_weigh]
  obtain⟨w,g1,g2,g3,g4⟩:=weigh16_l k (watchbilllaw16_weigh k) q hq l hself k 0 0 (by omega) (by omega) (by omega) (by omega) (by omega)
  exact⟨w,g1,g3,fun h => by have:=g4 h; simpa using this⟩
 intro d
 induction d with
 | zero =>
  intro q k l h1 h2 h3
  obtain⟨k,rfl⟩:∃ z,k=z + 1:=⟨k - 1,by omega⟩
  exact main q k l h2 h3 (fun l p hp => by omega)
 | succ d ih =>
  intro q k l h1 h2 h3
  obtain⟨k,rfl⟩:∃ z,k=z + 1:=⟨k - 1,by omega⟩
  exact main q k l h2 h3 (fun l p hp => ih p k l (by omega) (by omega) (by omega))
theorem few16_eq (k:Nat) (hk:400000 ≤ k) (l:List T_api_Entry):∃ b,watchbilllaw16_Few k l=some b ∧ (b=true→wNL l ≤ 5000):=by
 obtain⟨w,hw,_,h⟩:=weigh16_eq 5000 5000 k l (by omega) (by omega) (by omega)
 refine⟨decide ((w:Int) ≤ 5000),?_,fun hb => ?_⟩
 ·unfold watchbilllaw16_Few
  rw [show ((5000:Nat):Int)=5000 from rfl] at hw
  rw [hw,Option.bind_some]
 ·have:(w:Int) ≤ 5000:=by simpa using hb
  have:=h (by omega)
  omega
def elS (sp lo nm v:Str) (ks:List T_api_Node):T_api_Node:=⟨1,⟨sp,lo⟩,if v=[] then [] else [⟨⟨[],nm⟩,v⟩],ks,[]⟩
def txtN (s:Str):T_api_Node:=⟨2,⟨[],[]⟩,[],[],s⟩
def noN:T_api_Node:=⟨0,⟨[],[]⟩,[],[],[]⟩
mutual
def mayE:T_api_Entry→Bool
 | .mk kd u n l => if kd=2 then mayL l && (u == []) else if kd=1 then (!(u == []) && l.isEmpty) && (trimS n == n) else if kd=3 ∨ kd=4 then (!(u == []) && l.isEmpty) && (n == []) else false
def mayL:List T_api_Entry→Bool
 | [] => true
 | x :: l => mayE x && mayL l
end
mutual
def encE:T_api_Entry→T_api_Node
 | .mk kd u n l => if kd=3 then elS SPl wExt wAnchor u [] else if kd=4 then elS SPl wRef wRf u [] else if kd=1 then elS SPl wEntry wUri u (if n=[] then [] else [elS SPl wDisp [] [] [txtN n]]) else elS SPl wList wName n (encL l)
def encL:List T_api_Entry→List T_api_Node
 | [] => []
 | x :: l => encE x :: encL l
end
theorem mayE_eq (x:T_api_Entry):mayE x=if x.Kind=2 then mayL x.List_ && (x.URI == []) else if x.Kind=1 then (!(x.URI == []) && x.List_.isEmpty) && (trimS x.Name == x.Name) else if x.Kind=3 ∨ x.Kind=4 then (!(x.URI == []) && x.List_.isEmpty) && (x.Name == []) else false:=by cases x; rw [mayE]
theorem encE_eq (x:T_api_Entry):encE x=if x.Kind=3 then elS SPl wExt wAnchor x.URI [] else if x.Kind=4 then elS SPl wRef wRf x.URI [] else if x.Kind=1 then elS SPl wEntry wUri x.URI (if x.Name=[] then [] else [elS SPl wDisp [] [] [txtN x.Name]]) else elS SPl wList wName x.Name (encL x.List_):=by cases x; rw [encE]
theorem encL_map:∀ l:List T_api_Entry,encL l=l.map encE
 | [] => rfl
 | x :: l => by rw [encL,encL_map l]; rfl
theorem wTL_mem {l:List T_api_Entry} {x:T_api_Entry} (h:x ∈ l):wT x ≤ wTL l:=by
 induction l with
 | nil => cases h
 | cons m l ih =>
  rw [wTL]
  rcases List.mem_cons.1 h with rfl | h
  ·omega
  ·have:=ih h; omega
theorem wTL_len:∀ l:List T_api_Entry,l.length ≤ wTL l:=fun l => Nat.le_trans (wEL_len l) (wEL_le l)
theorem lmay_l (k:Nat) (self:T_api_Entry→Option Bool) (x:T_api_Entry) (hl:∀ y ∈ x.List_,self y=some (mayE y)) (h9:x.List_.length ≤ 8000000000) (z0:Int) (u z2:Str) (z3:List T_api_Entry):∀ (m i:Nat),i ≤ x.List_.length→x.List_.length < i + m→
  lists_may.l0 k self x m z0 u z2 z3 (i:Int)=some (mayL (x.List_.drop i) && (u == [])):=by
 intro m
 induction m with
 | zero => intro i h1 h2; omega
 | succ m ih =>
  intro i h1 h2
  unfold lists_may.l0
  by_cases hi:i < x.List_.length
  ·rw [if_pos (by simp; omega),if_pos (by omega),hl _ (rd_mem hi),Option.bind_some,wi (by omega),ih (i + 1) (by omega) (by omega),rd_drop hi,mayL]
   cases mayE (rd x.List_ (i:Int)) <;> simp
  ·rw [if_neg (by simp; omega),List.drop_of_length_le (by omega)]; simp [mayL]
theorem lmay_eq:∀ (d k:Nat) (x:T_api_Entry),wT x ≤ d→wT x ≤ 8000000000→wT x + 12000000010 ≤ k→lists_may k x=some (mayE x):=by
 intro d
 induction d with
 | zero => intro k x h1; rw [wT_eq] at h1; omega
 | succ d ih =>
  intro k x h1 h2 h3
  obtain⟨k,rfl⟩:∃ z,k=z + 1:=⟨k - 1,by omega⟩
  have he:=wT_eq x
  have hlen:=wTL_len x.List_
  have h0:=lmay_l k (lists_may k) x (fun y hy => by have:=wTL_mem hy; exact ih k y (by omega) (by omega) (by omega)) (by omega) x.Kind x.URI x.Name x.List_ k 0 (by omega) (by omega)
  rw [lists_may,mayE_eq]
  have hem:((x.List_.length:Int) == 0)=x.List_.isEmpty:=by cases x.List_ <;> simp; omega
  by_cases h2k:x.Kind=2
  ·rw [if_pos (by simpa using h2k),if_pos h2k]
   simpa using h0
  ·rw [if_neg (by simpa using h2k),if_neg h2k,hem]
   by_cases h1k:x.Kind=1
   ·have htr:=tr_eq k (by omega) x.Name (by rw [if_pos h1k] at he; omega)
    rw [if_pos (by simpa using h1k),if_pos h1k,htr]
    cases x.URI == [] <;> cases x.List_.isEmpty <;> simp
   ·rw [if_neg (by simpa using h1k),if_neg h1k]
    unfold lists_may.j1
    rw [hem]
    by_cases h3k:x.Kind=3
    ·simp [h3k]
    ·by_cases h4k:x.Kind=4 <;> simp [h3k,h4k]
theorem lelem_eq (lo nm v:Str):lists_element lo nm v=some (elS SPl lo nm v []):=by
 unfold lists_element elS
 rw [lown,Option.bind_some]
 by_cases h:v=[] <;> simp [h]
theorem lenc_l (k:Nat) (self:T_api_Entry→Option T_api_Node) (x:T_api_Entry) (hl:∀ y ∈ x.List_,self y=some (encE y)) (h9:x.List_.length ≤ 8000000000) (z0:Int) (z1 z2:Str) (z3:List T_api_Attr) (z4:List T_api_Node) (z5:Str) (kd:Int) (sp lo:Str) (ats:List T_api_Attr) (tx:Str):∀ (m i:Nat) (y:List T_api_Node),i ≤ x.List_.length→x.List_.length < i + m→y.length ≤ i→
  lists_encode.l0 k self x m z0 z1 z2 z3 z4 z5 kd sp lo ats tx y (i:Int)=some ⟨kd,⟨sp,lo⟩,ats,y ++ encL (x.List_.drop i),tx⟩:=by
 intro m
 induction m with
 | zero => intro i y h1 h2; omega
 | succ m ih =>
  intro i y h1 h2 h3
  unfold lists_encode.l0
  by_cases hi:i < x.List_.length
  ·rw [if_pos (by simp; omega),if_pos (by omega),hl _ (rd_mem hi),Option.bind_some,if_pos (by simp; omega),wi (by omega),ih (i + 1) _ (by omega) (by omega) (by simp; omega),rd_drop hi,encL]
   simp
  ·rw [if_neg (by simp; omega),List.drop_of_length_le (by omega)]; simp [encL]
theorem lenc_eq:∀ (d k:Nat) (x:T_api_Entry),wE x ≤ d→wE x ≤ 8000000000→wE x + 12000000010 ≤ k→lists_encode k x=some (encE x):=by
 intro d
 induction d with
 | zero => intro k x h1; rw [wE_eq] at h1; omega
 | succ d ih =>
  intro k x h1 h2 h3
  obtain⟨k,rfl⟩:∃ z,k=z + 1:=⟨k - 1,by omega⟩
  have he:=wE_eq x
  have hlen:=wEL_len x.List_
  have e1:lists_element [101,120,116,101,114,110,97,108] [97,110,99,104,111,114] x.URI=some (elS SPl wExt wAnchor x.URI []):=lelem_eq _ _ _
  have e2:lists_element [101,110,116,114,121,45,114,101,102] [114,101,102] x.URI=some (elS SPl wRef wRf x.URI []):=lelem_eq _ _ _
  have e3:lists_element [101,110,116,114,121] [117,114,105] x.URI=some (elS SPl wEntry wUri x.URI []):=lelem_eq _ _ _
  have e4:lists_element [100,105,115,112,108,97,121,45,110,97,109,101] [] []=some (elS SPl wDisp [] [] []):=lelem_eq _ _ _
  have e5:lists_element [108,105,115,116] [110,97,109,101] x.Name=some (elS SPl wList wName x.Name []):=lelem_eq _ _ _
  rw [lists_encode,encE_eq,e1,e2,e3,e4,e5]
  by_cases h3k:x.Kind=3
  ·rw [if_pos (by simpa using h3k),if_pos h3k]; rfl
  ·rw [if_neg (by simpa using h3k),if_neg h3k]
   by_cases h4k:x.Kind=4
   ·rw [if_pos (by simpa using h4k),if_pos h4k]; rfl
   ·rw [if_neg (by simpa using h4k),if_neg h4k]
    by_cases h1k:x.Kind=1
    ·rw [if_pos (by simpa using h1k),if_pos h1k,Option.bind_some]
     by_cases hn:x.Name=[]
     ·rw [if_neg (by simp [hn]),if_pos hn]; rfl
     ·rw [if_pos (by simpa using hn),if_neg hn]; rfl
    ·rw [if_neg (by simpa using h1k),if_neg h1k,Option.bind_some]
     have h0:=lenc_l k (lists_encode k) x (fun y hy => by have:=wEL_mem hy; exact ih k y (by omega) (by omega) (by omega)) (by omega) 0 [] [] [] [] [] 1 SPl wList (elS SPl wList wName x.Name []).Attrs [] k 0 [] (by omega) (by omega) (by simp)
     refine Eq.trans h0 ?_
     rw [List.drop_zero]
     rfl
theorem el_attr (sp lo nm v:Str) (ks:List T_api_Node):attrS (elS sp lo nm v ks) nm=v:=by
 unfold attrS elS
 by_cases h:v=[]
 ·rw [if_pos h]; simp [getS,h]
 ·rw [if_neg h]; simp [getS]
theorem el_isE (sp lo nm v:Str) (ks:List T_api_Node) (sp' lo':Str):isE (elS sp lo nm v ks) sp' lo'=((sp == sp') && (lo == lo')):=by
 unfold isE elS; simp
theorem el_inS (sp lo nm v:Str) (ks:List T_api_Node) (sp':Str):inS sp' (elS sp lo nm v ks)=(sp == sp'):=by
 unfold inS elS; simp
theorem el_bad (sp lo nm v:Str) (ks:List T_api_Node):badT (elS sp lo nm v ks)=false:=by unfold badT elS; simp
theorem txt_in (sp s:Str):inS sp (txtN s)=false:=by unfold inS txtN; simp
theorem el_kids (sp lo nm v:Str) (ks:List T_api_Node) (sp':Str):kidsS (elS sp lo nm v ks) sp'=ks.filter (inS sp'):=rfl
theorem el_val (sp lo nm v s:Str):valS (elS sp lo nm v [txtN s])=s:=by
 unfold valS elS txtK txtN; simp
def elemL (sp:Str) (ks:List T_api_Node):Prop:=∀ q ∈ ks,∃ lo nm v r,q=elS sp lo nm v r
theorem elem_in {sp:Str} {ks:List T_api_Node} (h:elemL sp ks):ks.filter (inS sp)=ks:=by
 rw [List.filter_eq_self]
 intro q hq
 obtain⟨lo,nm,v,r,rfl⟩:=h q hq
 rw [el_inS]; simp
theorem elem_bad {sp:Str} {ks:List T_api_Node} (h:elemL sp ks):ks.any badT=false:=by
 rw [List.any_eq_false]
 intro q hq
 obtain⟨lo,nm,v,r,rfl⟩:=h q hq
 rw [el_bad]; simp
theorem enc_elem (x:T_api_Entry):∃ lo nm v r,encE x=elS SPl lo nm v r:=by
 rw [encE_eq]
 split
 ·exact⟨_,_,_,_,rfl⟩
 ·split
  ·exact⟨_,_,_,_,rfl⟩
  ·split
   ·exact⟨_,_,_,_,rfl⟩
   ·exact⟨_,_,_,_,rfl⟩
theorem encL_elem (l:List T_api_Entry):elemL SPl (encL l):=fun q hq => by
 rw [encL_map] at hq
 obtain⟨x,_,rfl⟩:=List.mem_map.1 hq
 exact enc_elem x
theorem enc_disp (x:T_api_Entry):dispS (encE x)=false:=by
 unfold dispS
 rw [encE_eq]
 split
 ·rw [el_isE]; rfl
 ·split
  ·rw [el_isE]; rfl
  ·split
   ·rw [el_isE]; rfl
   ·rw [el_isE]; rfl
theorem disp_el (s:Str):dispS (elS SPl wDisp [] [] [txtN s])=true:=by
 unfold dispS
 rw [el_isE,el_kids,List.filter_cons,txt_in]
 rfl
theorem plain_enc {x:T_api_Entry} (h:mayE x=true) (h2:x.Kind ≠ 2):plainS (encE x)=some x:=by
 rw [mayE_eq,if_neg h2] at h
 rw [encE_eq]
 obtain⟨kd,u,n,l⟩:=x
 simp only at h h2 ⊢
 by_cases h1:kd=1
 ·subst h1
  simp only [if_pos] at h
  simp only [Bool.and_eq_true,Bool.not_eq_true',beq_eq_false_iff_ne,ne_eq,List.isEmpty_iff,beq_iff_eq] at h
  obtain⟨⟨hu,rfl⟩,hn⟩:=h
  rw [if_neg (by decide),if_neg (by decide),if_pos rfl]
  have ha:attrK (elS SPl wEntry wUri u (if n=[] then [] else [elS SPl wDisp [] [] [txtN n]]))=(wUri,1):=by
   unfold attrK; rw [el_isE,if_pos (by rfl)]
  unfold plainS
  rw [ha]
  simp only [el_attr]
  by_cases hn0:n=[]
  ·subst hn0
   rw [if_pos rfl,if_neg ?_]
   ·rfl
   ·unfold blankS elS; simp [hu]
  ·rw [if_neg hn0,if_neg ?_,el_kids]
   ·have hf:[elS SPl wDisp [] [] [txtN n]].filter (inS SPl)=[elS SPl wDisp [] [] [txtN n]]:=by
     rw [List.filter_cons,el_inS]; rfl
    rw [hf]
    simp only
    rw [disp_el,el_val,if_pos rfl,if_pos trivial,hn]
   ·have hb:blankS (elS SPl wEntry wUri u [elS SPl wDisp [] [] [txtN n]])=true:=by
     unfold blankS
     have:(elS SPl wEntry wUri u [elS SPl wDisp [] [] [txtN n]]).Kids=[elS SPl wDisp [] [] [txtN n]]:=rfl
     rw [this,List.any_cons,el_bad]; rfl
    rw [hb]; simp [hu]
 ·rw [if_neg h1] at h
  by_cases h3:kd=3
  ·subst h3
   simp only [Bool.and_eq_true,Bool.not_eq_true',beq_eq_false_iff_ne,ne_eq,List.isEmpty_iff,beq_iff_eq,true_or,if_true] at h
   obtain⟨⟨hu,rfl⟩,rfl⟩:=h
   rw [if_pos rfl]
   have ha:attrK (elS SPl wExt wAnchor u [])=(wAnchor,3):=by
    unfold attrK; rw [el_isE,el_isE,if_neg (by decide),if_pos (by rfl)]
   unfold plainS
   rw [ha]
   simp only [el_attr]
   rw [if_neg ?_]
   ·rfl
   ·unfold blankS elS; simp [hu]
  ·by_cases h4:kd=4
   ·subst h4
    simp only [Bool.and_eq_true,Bool.not_eq_true',beq_eq_false_iff_ne,ne_eq,List.isEmpty_iff,beq_iff_eq,or_true,if_true] at h
    obtain⟨⟨hu,rfl⟩,rfl⟩:=h
    rw [if_neg (by decide),if_pos rfl]
    have ha:attrK (elS SPl wRef wRf u [])=(wRf,4):=by
     unfold attrK; rw [el_isE,el_isE,el_isE,if_neg (by decide),if_neg (by decide),if_pos (by rfl)]
    unfold plainS
    rw [ha]
    simp only [el_attr]
    rw [if_neg ?_]
    ·rfl
    ·unfold blankS elS; simp [hu]
   ·rw [if_neg (by rintro (h | h); exact h3 h; exact h4 h)] at h; cases h
theorem enc_list (x:T_api_Entry):isE (encE x) SPl wList=true ↔ (x.Kind ≠ 3 ∧ x.Kind ≠ 4 ∧ x.Kind ≠ 1):=by
 rw [encE_eq]
 split
 ·rename_i h; rw [el_isE]; simp [h]; decide
 ·split
  ·rename_i h; rw [el_isE]; simp [h]; decide
  ·split
   ·rename_i h; rw [el_isE]; simp [h]; decide
   ·rename_i h1 h2 h3; rw [el_isE]; simp [h1,h2,h3]
theorem may_kind {x:T_api_Entry} (h:mayE x=true):(x.Kind ≠ 3 ∧ x.Kind ≠ 4 ∧ x.Kind ≠ 1) ↔ x.Kind=2:=by
 rw [mayE_eq] at h
 constructor
 ·rintro ⟨h3,h4,h1⟩
  by_cases h2:x.Kind=2
  ·exact h2
  ·rw [if_neg h2,if_neg h1,if_neg (by rintro (h | h); exact h3 h; exact h4 h)] at h; cases h
 ·intro h2; rw [h2]; decide
mutual
theorem list_enc:∀ x:T_api_Entry,mayE x=true→x.Kind=2→listS (encE x)=some x
 | .mk kd u n l,h,h2 => by
  have h2':kd=2:=h2
  subst h2'
  rw [mayE_eq] at h
  simp only [if_pos,Bool.and_eq_true,beq_iff_eq] at h
  obtain⟨hl,rfl⟩:=h
  rw [encE_eq]
  simp only
  rw [if_neg (by decide),if_neg (by decide),if_neg (by decide),listS_eq,el_isE,el_kids,elem_in (encL_elem l),el_attr,items_enc l true hl]
  have hb:blankS (elS SPl wList wName n (encL l))=true:=by
   unfold blankS
   have:(elS SPl wList wName n (encL l)).Kids=encL l:=rfl
   rw [this,elem_bad (encL_elem l)]; rfl
  rw [hb,if_pos ⟨by rfl,rfl⟩]
  rfl
theorem items_enc:∀ (l:List T_api_Entry) (f:Bool),mayL l=true→itemsL (encL l) f=some l
 | [],f,_ => by rw [encL,itemsL]
 | x :: l,f,h => by
  rw [mayL] at h
  simp only [Bool.and_eq_true] at h
  rw [encL,itemsL,enc_disp,Bool.and_false,if_neg (by simp),items_enc l false h.2]
  by_cases h2:x.Kind=2
  ·rw [if_pos ((enc_list x).2 ((may_kind h.1).2 h2)),list_enc x h.1 h2]; rfl
  ·rw [if_neg (fun hh => h2 ((may_kind h.1).1 ((enc_list x).1 hh))),plain_enc h.1 h2]; rfl
end
theorem trim_idem (s:Str):trimS (trimS s)=trimS s:=by
 unfold trimS
 rw [ltrim_rtrim,rtrim_idem]
theorem plain_may {n:T_api_Node} {e:T_api_Entry} (h:plainS n=some e):mayE e=true:=by
 have hne:attrS n (attrK n).1 ≠ []:=by
  unfold plainS at h
  split at h
  ·cases h
  ·rename_i hn; exact fun e => hn (.inr (.inl e))
 rcases told_plain h with ⟨hx,rfl⟩ |⟨hx,rfl⟩ |⟨hx,rfl⟩
 ·have hk:attrK n=(wUri,1):=by unfold attrK; rw [hx,if_pos rfl]
  rw [hk] at hne
  rw [mayE_eq]
  simp only [show ¬ ((1:Int)=2) by decide,if_false,if_true]
  have hU:(attrS n wUri == [])=false:=by simpa using hne
  rw [hU]
  split
  ·rw [trim_idem]; simp
  ·simp [trimS,ltrim,rtrim]
 ·have h1:=lit_ne hx (b:=wEntry) (by decide)
  have hk:attrK n=(wAnchor,3):=by unfold attrK; rw [h1,hx,if_neg (by simp),if_pos rfl]
  rw [hk] at hne
  rw [mayE_eq]
  have hU:(attrS n wAnchor == [])=false:=by simpa using hne
  simp [hU]
 ·have h1:=lit_ne hx (b:=wEntry) (by decide)
  have h2:=lit_ne hx (b:=wExt) (by decide)
  have hk:attrK n=(wRf,4):=by unfold attrK; rw [h1,h2,hx,if_neg (by simp),if_neg (by simp),if_pos rfl]
  rw [hk] at hne
  rw [mayE_eq]
  have hU:(attrS n wRf == [])=false:=by simpa using hne
  simp [hU]
mutual
theorem list_may:∀ (n:T_api_Node) (e:T_api_Entry),listS n=some e→mayE e=true ∧ e.Kind=2 ∧ e.URI=[]
 | .mk kd nm ats ks tx,e,h => by
  rw [listS] at h
  split at h
  ·obtain⟨r,hr,rfl⟩:=Option.map_eq_some_iff.1 h
   refine⟨?_,rfl,rfl⟩
   rw [mayE_eq]
   simp [items_may ks true r hr]
  ·cases h
theorem items_may:∀ (ks:List T_api_Node) (f:Bool) (r:List T_api_Entry),itemsS ks f=some r→mayL r=true
 | [],f,r,h => by rw [itemsS] at h; cases h; rfl
 | q :: ks,f,r,h => by
  rw [itemsS] at h
  split at h
  ·split at h
   ·exact items_may ks false r h
   ·obtain⟨e,he,h⟩:=Option.bind_eq_some_iff.1 h
    obtain⟨r',hr',rfl⟩:=Option.map_eq_some_iff.1 h
    rw [mayL,items_may ks false r' hr']
    split at he
    ·rw [(list_may q e he).1]; rfl
    ·rw [plain_may he]; rfl
  ·exact items_may ks f r h
end
theorem wt_el (sp lo nm v:Str) (ks:List T_api_Node):wt (elS sp lo nm v ks) ≤ 2 + wtL ks:=by
 rw [wt_eq]
 unfold elS
 simp only [List.length_nil]
 split <;> simp <;> omega
theorem wt_txt (s:Str):wt (txtN s)=1 + s.length:=by rw [wt_eq]; simp [txtN,wtL]
mutual
theorem wt_enc:∀ x:T_api_Entry,wt (encE x) ≤ 6 * wT x
 | .mk kd u n l => by
  rw [encE_eq,wT_eq]
  simp only
  have h0:=wt_el SPl wExt wAnchor u []
  have h1:=wt_el SPl wRef wRf u []
  have h2:=wt_el SPl wEntry wUri u (if n=[] then [] else [elS SPl wDisp [] [] [txtN n]])
  have h3:=wt_el SPl wList wName n (encL l)
  have h4:=wtL_enc l
  have h5:=wt_el SPl wDisp [] [] [txtN n]
  simp only [wtL,wt_txt] at h0 h1 h2 h5
  split
  ·omega
  ·split
   ·omega
   ·split
    ·by_cases hn:n=[]
     ·rw [if_pos hn] at h2 ⊢
      simp only [wtL] at h2; omega
     ·rw [if_neg hn] at h2 ⊢
      simp only [wtL] at h2; omega
    ·omega
theorem wtL_enc:∀ l:List T_api_Entry,wtL (encL l) ≤ 6 * wTL l
 | [] => by rw [encL,wtL]; omega
 | x :: l => by rw [encL,wtL,wTL]; have:=wt_enc x; have:=wtL_enc l; omega
end
end Go.Proofs.YtapbckofgcmgmaaGreatDoor.Pure
