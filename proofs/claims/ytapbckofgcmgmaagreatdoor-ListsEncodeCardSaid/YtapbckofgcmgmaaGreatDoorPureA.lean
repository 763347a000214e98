import Derived.Test.YtapbckofgcmgmaaGreatDoorPureU
import Derived.Test.YtapbckofgcmgmaaGreatDoorVxP
import Derived.KernelRfl
namespace Go.Proofs.YtapbckofgcmgmaaGreatDoor.Pure
open Go Go.RowKit Go.Proofs.Vx Go.Proofs.YtapbckofgcmgmaaGreatDoor.Sh
set_option linter.unusedSimpArgs false
set_option linter.unusedVariables false
theorem wi {i:Nat} (h:i ≤ 9000000000000):IntKind.i64.wrap ((i:Int) + 1)=((i + 1:Nat):Int):=by rw [w64 (by omega) (by omega)]; omega
mutual
def wt:T_api_Node→Nat
 | .mk _ _ ats ks tx => 1 + tx.length + ats.length + wtL ks
def wtL:List T_api_Node→Nat
 | [] => 0
 | n :: l => wt n + wtL l
end
theorem wt_eq (n:T_api_Node):wt n=1 + n.Text.length + n.Attrs.length + wtL n.Kids:=by cases n; rw [wt]
theorem wt_pos (n:T_api_Node):1 ≤ wt n:=by rw [wt_eq]; omega
theorem wtL_len (l:List T_api_Node):l.length ≤ wtL l:=by
 induction l with
 | nil => rw [wtL]; exact Nat.le_refl _
 | cons n l ih => rw [wtL]; have:=wt_pos n; simp; omega
theorem wtL_mem {l:List T_api_Node} {n:T_api_Node} (h:n ∈ l):wt n ≤ wtL l:=by
 induction l with
 | nil => cases h
 | cons m l ih =>
  rw [wtL]
  rcases List.mem_cons.1 h with rfl | h
  ·omega
  ·have:=ih h; omega
theorem kid_lt {n m:T_api_Node} (h:m ∈ n.Kids):wt m < wt n:=by have:=wtL_mem h; rw [wt_eq n]; omega
theorem mcap (a b:Int) (ha:0 ≤ a) (hb:0 ≤ b):0 ≤ (if a < b then a else b) ∧ (if a < b then a else b) ≤ a ∧ ((if a < b then a else b) < a→(if a < b then a else b)=b) ∧ ((if a < b then a else b) ≤ b):=by
 split <;> omega
def blankB (c:UInt8):Bool:=c == 32 || c == 9 || c == 10 || c == 13
theorem blank_eq (s:Str) (i:Nat) (h:i < s.length):utf_Blank (bt s (i:Int))=some (blankB s[i]):=by
 unfold utf_Blank bt blankB
 rw [Int.toNat_natCast]
 simp only [List.getD_eq_getElem?_getD,List.getElem?_eq_getElem h,Option.getD_some]
 generalize s[i]=c
 have e:∀ n:Nat,n < 256→(((c.toNat:Int) == (n:Int))=(c == UInt8.ofNat n)):=by
  intro n hn
  rw [Bool.eq_iff_iff,beq_iff_eq,beq_iff_eq]
  constructor
  ·intro h; apply UInt8.toNat_inj.1; simp; omega
  ·rintro rfl; simp; omega
 exact congrArg some (by rw [show (32:Int)=((32:Nat):Int) from rfl,show (9:Int)=((9:Nat):Int) from rfl,show (10:Int)=((10:Nat):Int) from rfl,show (13:Int)=((13:Nat):Int) from rfl,e _ (by omega),e _ (by omega),e _ (by omega),e _ (by omega)]; rfl)
theorem rblank_eq (a:Int):watchbillref01_Blank a=utf_Blank a:=by
 unfold watchbillref01_Blank utf_Blank
 congr 1
 rw [Bool.eq_iff_iff]; simp; omega
def ltrim (s:Str):Str:=s.dropWhile blankB
def rtrim (s:Str):Str:=(s.reverse.dropWhile blankB).reverse
theorem trim1 (k:Nat):∀ (m:Nat) (s:Str),s.length < m→s.length ≤ 9223372036854775807→utf_Trim.l1 k m s=some (rtrim s):=by
 intro m
 induction m with
 | zero => intro s h _; omega
 | succ m ih =>
  intro s h h9
  unfold utf_Trim.l1
  by_cases hn:s=[]
  ·subst hn; simp [rtrim]
  ·have h0:0 < s.length:=List.length_pos_iff.2 hn
   have e:IntKind.i64.wrap ((s.length:Int) - 1)=((s.length - 1:Nat):Int):=by rw [w64 (by omega) (by omega)]; omega
   have hb:(s == ([]:Str))=false:=by simpa using hn
   rw [e,hb,if_pos (fun _ => by omega),if_pos (by simp),blank_eq s (s.length - 1) (by omega),Option.bind_some]
   have hs:s=s.take (s.length - 1) ++ [s[s.length - 1]]:=by
    conv => lhs; rw [← List.take_append_drop (s.length - 1) s]
    rw [List.drop_eq_getElem_cons (by omega),List.drop_of_length_le (by omega)]
   have hr:rtrim s=if blankB s[s.length - 1]=true then rtrim (s.take (s.length - 1)) else s:=by
    conv => lhs; rw [hs]
    unfold rtrim
    rw [List.reverse_append,List.reverse_singleton,List.singleton_append,List.dropWhile_cons]
    split
    ·rfl
    ·conv => rhs; rw [hs]
     simp
   rw [hr]
   by_cases hbl:blankB s[s.length - 1]=true
   ·rw [if_pos hbl,hbl,if_pos (by simp),if_pos (by omega)]
    have e2:sl s 0 ((s.length - 1:Nat):Int)=s.take (s.length - 1):=by simp [sl]
    rw [e2]
    exact ih _ (by simp; omega) (by simp; omega)
   ·rw [if_neg hbl,if_neg (by simp [hbl])]
theorem trim0 (k:Nat):∀ (m:Nat) (s:Str),s.length < m→s.length < k→s.length ≤ 9223372036854775807→utf_Trim.l0 k m s=some (rtrim (ltrim s)):=by
 intro m
 induction m with
 | zero => intro s h _; omega
 | succ m ih =>
  intro s h hk h9
  unfold utf_Trim.l0
  match s,h,hk,h9 with
  | [],h,hk,h9 => simp; exact trim1 k k [] hk h9
  | c :: s,h,hk,h9 =>
   have hb:((c :: s) == ([]:Str))=false:=rfl
   have:=blank_eq (c :: s) 0 (by simp)
   rw [show ((0:Nat):Int)=0 from rfl] at this
   rw [hb,if_pos (fun _ => by simp),if_pos (by simp),this,Option.bind_some]
   simp only [List.getElem_cons_zero,Bool.not_false,Bool.true_and,ltrim,List.dropWhile_cons]
   by_cases hbl:blankB c=true
   ·simp only [hbl,if_true]
    rw [if_pos (by simp; omega)]
    have e2:sl (c :: s) 1 ((c :: s).length:Int)=s:=by
     show List.take _ s=s
     apply List.take_of_length_le; simp
    rw [e2]
    exact ih s (by simp at h; omega) (by simp at hk; omega) (by simp at h9; omega)
   ·simp only [hbl,if_false]
    exact trim1 k k _ hk h9
theorem trim_eq (k:Nat) (s:Str) (h:s.length < k) (h9:s.length ≤ 9223372036854775807):utf_Trim k s=some (rtrim (ltrim s)):=trim0 k k s h h h9
theorem rtrim_l1 (k:Nat) (s:Str) (h9:s.length ≤ 9223372036854775807) (i:Nat):∀ (m e:Nat),i ≤ e→e ≤ s.length→watchbillref01_Trim.l1 k s (i:Int) m (e:Int)=utf_Trim.l1 k m ((s.take e).drop i):=by
 intro m
 induction m with
 | zero => intro e _ _; rfl
 | succ m ih =>
  intro e h1 h2
  unfold watchbillref01_Trim.l1 utf_Trim.l1
  by_cases he:i < e
  ·have hb:((s.take e).drop i == ([]:Str))=false:=by simp; omega
   have e1:IntKind.i64.wrap ((e:Int) - 1)=((e - 1:Nat):Int):=by rw [w64 (by omega) (by omega)]; omega
   have e2:IntKind.i64.wrap ((((s.take e).drop i).length:Int) - 1)=((e - i - 1:Nat):Int):=by
    rw [w64 (by simp; omega) (by simp; omega)]; simp; omega
   rw [hb,e1,e2,if_pos (by simp; omega),if_pos (by simp; omega),if_pos (by simp; omega),rblank_eq,blank_eq s (e - 1) (by omega),blank_eq ((s.take e).drop i) (e - i - 1) (by simp; omega)]
   have e3:((s.take e).drop i)[e - i - 1]'(by simp; omega)=s[e - 1]'(by omega):=by
    simp only [List.getElem_drop,List.getElem_take]; congr 1; omega
   rw [e3]
   simp only [Bool.not_false,beq_self_eq_true,if_true,Option.bind_some,Bool.true_and]
   cases blankB s[e - 1] with
   | false =>
    simp only [Bool.and_false,Bool.false_eq_true,if_false]
    rw [if_pos (fun _ => by simp; omega)]
    simp [sl,List.drop_take]
   | true =>
    simp only [Bool.and_true,if_true]
    rw [if_pos (by simp; omega),if_pos (by simp; omega),if_pos (by simp; omega),ih (e - 1) (by omega) (by omega)]
    congr 1
    simp only [sl,Int.toNat_natCast,List.drop_zero,Int.toNat_zero,Nat.sub_zero]
    rw [List.drop_take,List.drop_take,List.take_take]
    congr 1; omega
  ·have:e=i:=by omega
   subst this
   have hb:(s.take e).drop e=[]:=by apply List.drop_of_length_le; simp; omega
   rw [hb]
   simp
   simp [sl]
   omega
theorem rtrim_l0 (k:Nat) (s:Str) (h9:s.length ≤ 9223372036854775807):∀ (m i:Nat),i ≤ s.length→watchbillref01_Trim.l0 k s m (i:Int)=utf_Trim.l0 k m (s.drop i):=by
 intro m
 induction m with
 | zero => intro i _; rfl
 | succ m ih =>
  intro i h1
  unfold watchbillref01_Trim.l0 utf_Trim.l0
  have hl:=rtrim_l1 k s h9 i k s.length h1 (Nat.le_refl _)
  rw [List.take_length] at hl
  by_cases hi:i < s.length
  ·have hb:(s.drop i == ([]:Str))=false:=by simp; omega
   have:=blank_eq (s.drop i) 0 (by simp; omega)
   rw [show ((0:Nat):Int)=0 from rfl] at this
   rw [hb,hl,if_pos (by omega),if_pos (by simp; omega),if_pos (by simp; omega),if_pos (by simp),rblank_eq,blank_eq s i hi,this]
   have e:(s.drop i)[0]'(by simp; omega)=s[i]:=by simp
   rw [e,Option.bind_some,Option.bind_some,w64 (by omega) (by omega)]
   cases blankB s[i] with
   | false => simp
   | true =>
    rw [if_pos (by simp; omega),if_pos (by simp),if_pos (by simp; omega)]
    have:=ih (i + 1) (by omega)
    rw [show ((i + 1:Nat):Int)=(i:Int) + 1 by omega] at this
    rw [this]
    congr 1
    show _=List.take _ (List.drop 1 (List.drop i s))
    rw [List.drop_drop,List.take_of_length_le (by simp; omega)]
  ·have:s.drop i=[]:=List.drop_of_length_le (by omega)
   rw [hl,this]
   simp [show ¬ (i:Int) < s.length by omega]
theorem rtrim_eq (k:Nat) (s:Str) (h9:s.length ≤ 9223372036854775807):watchbillref01_Trim k s=utf_Trim k s:=rtrim_l0 k s h9 k 0 (by omega)
def SPl:Str:=[117,114,110,58,105,101,116,102,58,112,97,114,97,109,115,58,120,109,108,58,110,115,58,114,101,115,111,117,114,99,101,45,108,105,115,116,115]
def wList:Str:=[108,105,115,116]
def wDisp:Str:=[100,105,115,112,108,97,121,45,110,97,109,101]
def wEntry:Str:=[101,110,116,114,121]
def wExt:Str:=[101,120,116,101,114,110,97,108]
def wRef:Str:=[101,110,116,114,121,45,114,101,102]
def wUri:Str:=[117,114,105]
def wAnchor:Str:=[97,110,99,104,111,114]
def wRf:Str:=[114,101,102]
def wName:Str:=[110,97,109,101]
theorem space_l:uri_Space [114,101,115,111,117,114,99,101,45,108,105,115,116,115]=some SPl:=by kernel_rfl
theorem lown (a:Str):lists_own a=some ⟨SPl,a⟩:=by unfold lists_own; rw [space_l]; rfl
def trimS (s:Str):Str:=rtrim (ltrim s)
theorem tr_eq (k:Nat) (hk:3000000000 ≤ k) (s:Str) (h:s.length ≤ 2000000000):utf_Trim k s=some (trimS s):=trim_eq k s (by omega) (by omega)
theorem rtr_eq (k:Nat) (hk:3000000000 ≤ k) (s:Str) (h:s.length ≤ 2000000000):watchbillref01_Trim k s=some (trimS s):=by rw [rtrim_eq k s (by omega),tr_eq k hk s h]
theorem wt_kids (n:T_api_Node):n.Kids.length ≤ wt n:=by have:=wtL_len n.Kids; rw [wt_eq]; omega
theorem wt_attrs (n:T_api_Node):n.Attrs.length ≤ wt n:=by rw [wt_eq]; omega
theorem rd_mem {α:Type} [Inhabited α] {l:List α} {i:Nat} (h:i < l.length):rd l (i:Int) ∈ l:=by
 have:rd l (i:Int)=l[i]:=by simp [rd,h]
 rw [this]; exact List.getElem_mem h
def txtK (ks:List T_api_Node):Str:=(ks.filter fun q => q.Kind == 2).flatMap (·.Text)
def valS (n:T_api_Node):Str:=if (n.Kind == 2)=true then n.Text else txtK n.Kids
def keyE (x:T_api_Entry):Int × Str:=(x.Kind,if x.Kind=2 then x.Name else x.URI)
mutual
def uqE:T_api_Entry→Bool
 | .mk _ _ _ l => uqF [] l
def uqF:List (Int × Str)→List T_api_Entry→Bool
 | _,[] => true
 | seen,x :: l => !(seen.contains (keyE x)) && (uqE x && uqF (seen ++ [keyE x]) l)
end
theorem uqE_eq (x:T_api_Entry):uqE x=uqF [] x.List_:=by cases x; rw [uqE]
mutual
def wE:T_api_Entry→Nat
 | .mk _ _ _ l => 1 + wEL l
def wEL:List T_api_Entry→Nat
 | [] => 0
 | x :: l => wE x + wEL l
end
theorem wE_eq (x:T_api_Entry):wE x=1 + wEL x.List_:=by cases x; rw [wE]
theorem wE_pos (x:T_api_Entry):1 ≤ wE x:=by rw [wE_eq]; omega
theorem wEL_len:∀ l:List T_api_Entry,l.length ≤ wEL l
 | [] => by simp [wEL]
 | x :: l => by have:=wEL_len l; have:=wE_pos x; rw [wEL]; simp; omega
theorem wEL_mem {l:List T_api_Entry} {x:T_api_Entry} (h:x ∈ l):wE x ≤ wEL l:=by
 induction l with
 | nil => cases h
 | cons m l ih =>
  rw [wEL]
  rcases List.mem_cons.1 h with rfl | h
  ·omega
  ·have:=ih h; omega
theorem wEL_list {l:List T_api_Entry} {x:T_api_Entry} (h:x ∈ l):wEL x.List_ < wEL l:=by have:=wEL_mem h; rw [wE_eq] at this; omega
theorem lkm_upm {α β:Type} {keq:α→α→Bool} (hq:∀ a b,keq a b=true ↔ a=b) (z:β) (m:List (α × β)) (k:α) (v:β) (n:α):lkm keq z (upm keq m k v) n=if keq n k=true then v else lkm keq z m n:=by
 induction m with
 | nil => simp [upm,lkm]
 | cons p m ih =>
  simp only [upm]
  by_cases h:keq k p.1=true
  ·rw [if_pos h]
   have e:=(hq _ _).1 h
   simp only [lkm]
   by_cases h2:keq n k=true
   ·simp [h2]
   ·rw [if_neg h2,if_neg h2,if_neg (by rw [← e]; exact h2)]
  ·rw [if_neg h]
   simp only [lkm]
   by_cases h2:keq n p.1=true
   ·rw [if_pos h2,if_pos h2]
    have e:=(hq _ _).1 h2
    have:keq n k ≠ true:=fun h3 => h (by rw [← e,← (hq _ _).1 h3]; exact (hq _ _).2 rfl)
    rw [if_neg this]
   ·rw [if_neg h2,if_neg h2]; exact ih
theorem keq_iff (a b:T_lists_key):keq87 a b=true ↔ a=b:=by cases a; cases b; simp [keq87]
def kOf (p:Int × Str):T_lists_key:=⟨p.1,p.2⟩
theorem luq_loop (k:Nat) (self:List T_api_Entry→Option Bool) (l:List T_api_Entry) (hl:∀ x ∈ l,self x.List_=some (uqF [] x.List_)) (h9:l.length ≤ 2000000000):∀ (m i:Nat) (y:List (T_lists_key × Bool)) (seen:List (Int × Str)),i ≤ l.length→l.length < i + m→(∀ p,lkm keq87 false y (kOf p)=seen.contains p)→
  lists_unique.l0 k self l m y (i:Int)=some (uqF seen (l.drop i)):=by
 intro m
 induction m with
 | zero => intro i y seen h1 h2; omega
 | succ m ih =>
  intro i y seen h1 h2 h3
  unfold lists_unique.l0
  by_cases hi:i < l.length
  ·have hs:=hl _ (rd_mem hi)
   rw [if_pos (by simp; omega),if_pos (by omega),rd_drop hi,uqF,uqE_eq]
   have hj:∀ s,s=(keyE (rd l (i:Int))).2→lists_unique.j1 self (lists_unique.l0 k self l m) l y (i:Int) s=some (!(seen.contains (keyE (rd l (i:Int)))) && (uqF [] (rd l (i:Int)).List_ && uqF (seen ++ [keyE (rd l (i:Int))]) (l.drop (i + 1)))):=by
    intro s hse
    unfold lists_unique.j1
    have hk:(T_lists_key.mk ((T_lists_key.mk ((rd l (i:Int)).Kind) ((rd l (i:Int)).URI)).Kind_) s)=kOf (keyE (rd l (i:Int))):=by rw [hse]; rfl
    rw [hk,h3,wi (by omega),hs]
    have ih1:=ih (i + 1) (upm keq87 y (kOf (keyE (rd l (i:Int)))) true) (seen ++ [keyE (rd l (i:Int))]) (by omega) (by omega) (fun p => by
     rw [lkm_upm keq_iff,h3]
     have hkk:(keq87 (kOf p) (kOf (keyE (rd l (i:Int))))=true) ↔ p=keyE (rd l (i:Int)):=by
      rw [keq_iff]
      constructor
      ·intro h
       cases p
       generalize keyE (rd l (i:Int))=q at *
       cases q
       simp [kOf] at h
       simp [h]
      ·intro h; rw [h]
     by_cases hp:p=keyE (rd l (i:Int))
     ·rw [if_pos (hkk.2 hp),hp]; simp
     ·rw [if_neg (fun h => hp (hkk.1 h))]
      rw [Bool.eq_iff_iff]
      simp [hp])
    rw [ih1]
    cases seen.contains (keyE (rd l (i:Int))) <;> cases uqF [] (rd l (i:Int)).List_ <;> simp
   by_cases h2k:(rd l (i:Int)).Kind=2
   ·rw [if_pos (by simpa using h2k)]; exact hj _ (by unfold keyE; simp [h2k])
   ·rw [if_neg (by simpa using h2k)]; exact hj _ (by unfold keyE; simp [h2k])
  ·rw [if_neg (by simp; omega),List.drop_of_length_le (by omega)]; simp [uqF]
theorem luq_eq:∀ (d k:Nat) (l:List T_api_Entry),wEL l < d→wEL l ≤ 2000000000→wEL l + 3000000010 ≤ k→lists_unique k l=some (uqF [] l):=by
 intro d
 induction d with
 | zero => intro k l h1; omega
 | succ d ih =>
  intro k l h1 h2 h3
  obtain⟨k,rfl⟩:∃ z,k=z + 1:=⟨k - 1,by omega⟩
  have hlen:=wEL_len l
  have:=luq_loop k (lists_unique k) l (fun x hx => by
   have:=wEL_list hx
   exact ih k x.List_ (by omega) (by omega) (by omega)) (by omega) k 0 [] [] (by omega) (by omega) (fun p => by simp [lkm])
  rw [lists_unique]
  exact this
theorem ruq_l1 (k:Nat) (c0:Int→Option Bool) (l:List T_api_Entry) (i:Nat) (hi:i < l.length) (h9:l.length ≤ 2000000000):∀ (m j:Nat),j ≤ i→i < j + m→
  watchbillref16_Unique.l1 k c0 l (i:Int) m (j:Int)=if (((l.take i).drop j).map keyE).contains (keyE (rd l (i:Int)))=true then some false else c0 ((i + 1:Nat):Int):=by
 intro m
 induction m with
 | zero => intro j h1 h2; omega
 | succ m ih =>
  intro j h1 h2
  unfold watchbillref16_Unique.l1
  by_cases hj:j < i
  ·have ht:(l.take i).drop j=rd l (j:Int) :: (l.take i).drop (j + 1):=by
    rw [rd_drop (xs:=l.take i) (i:=j) (by simp; omega)]
    congr 1
    simp [rd,hj,show j < l.length by omega,List.getElem?_take]
   rw [if_pos (by simp; omega),if_pos (by omega),if_pos (by omega),ht,List.map_cons,wi (by omega),ih (j + 1) (by omega) (by omega)]
   generalize rd l (i:Int)=a at *
   generalize rd l (j:Int)=b at *
   unfold keyE
   by_cases hk:a.Kind=b.Kind
   ·rw [if_neg (by simpa using hk),if_pos (by omega),if_pos (fun _ => by omega),if_pos (fun _ => by omega),if_pos (fun _ => by omega),if_pos (fun _ => by omega),if_pos (fun _ => by omega)]
    by_cases h2:a.Kind=2
    ·rw [← hk]
     by_cases hn:a.Name=b.Name <;> simp [h2,hn]
    ·rw [← hk]
     by_cases hn:a.URI=b.URI <;> simp [h2,hn]
   ·rw [if_pos (by simpa using hk)]
    simp [hk]
  ·rw [if_neg (by simp; omega),wi (by omega)]
   have:(l.take i).drop j=[]:=List.drop_of_length_le (by simp; omega)
   rw [this]; simp
theorem ruq_loop (k:Nat) (hk:3000000000 ≤ k) (self:List T_api_Entry→Option Bool) (l:List T_api_Entry) (hl:∀ x ∈ l,self x.List_=some (uqF [] x.List_)) (h9:l.length ≤ 2000000000):∀ (m i:Nat),i ≤ l.length→l.length < i + m→
  watchbillref16_Unique.l0 k self l m (i:Int)=some (uqF ((l.take i).map keyE) (l.drop i)):=by
 intro m
 induction m with
 | zero => intro i h1 h2; omega
 | succ m ih =>
  intro i h1 h2
  unfold watchbillref16_Unique.l0
  by_cases hi:i < l.length
  ·have hs:=hl _ (rd_mem hi)
   have ht:l.take (i + 1)=l.take i ++ [rd l (i:Int)]:=by
    rw [show rd l (i:Int)=l[i] by simp [rd,hi]]; exact (List.take_append_getElem hi).symm
   have h0:=ruq_l1 k (watchbillref16_Unique.l0 k self l m) l i hi h9 k 0 (by omega) (by omega)
   rw [if_pos (by simp; omega),if_pos (by omega),hs,Option.bind_some,rd_drop hi,uqF,uqE_eq]
   have h0':watchbillref16_Unique.l1 k (watchbillref16_Unique.l0 k self l m) l (i:Int) k 0=_:=h0
   rw [h0',ih (i + 1) (by omega) (by omega),ht,List.map_append,List.map_singleton,List.drop_zero]
   cases ((l.take i).map keyE).contains (keyE (rd l (i:Int))) <;> cases uqF [] (rd l (i:Int)).List_ <;> simp
  ·rw [if_neg (by simp; omega),List.drop_of_length_le (by omega)]; simp [uqF]
theorem ruq_eq:∀ (d k:Nat) (l:List T_api_Entry),wEL l < d→wEL l ≤ 2000000000→wEL l + 3000000010 ≤ k→watchbillref16_Unique k l=some (uqF [] l):=by
 intro d
 induction d with
 | zero => intro k l h1; omega
 | succ d ih =>
  intro k l h1 h2 h3
  obtain⟨k,rfl⟩:∃ z,k=z + 1:=⟨k - 1,by omega⟩
  have hlen:=wEL_len l
  have:=ruq_loop k (by omega) (watchbillref16_Unique k) l (fun x hx => by
   have:=wEL_list hx
   exact ih k x.List_ (by omega) (by omega) (by omega)) (by omega) k 0 (by omega) (by omega)
  rw [watchbillref16_Unique]
  exact this
mutual
def wN:T_api_Entry→Nat
 | .mk _ u n l => 1 + u.length + n.length + wNL l
def wNL:List T_api_Entry→Nat
 | [] => 0
 | x :: l => wN x + wNL l
end
theorem wN_eq (x:T_api_Entry):wN x=1 + x.URI.length + x.Name.length + wNL x.List_:=by cases x; rw [wN]
mutual
def wT:T_api_Entry→Nat
 | .mk kd _ n l => 1 + (if kd=1 then n.length else 0) + wTL l
def wTL:List T_api_Entry→Nat
 | [] => 0
 | x :: l => wT x + wTL l
end
theorem wT_eq (x:T_api_Entry):wT x=1 + (if x.Kind=1 then x.Name.length else 0) + wTL x.List_:=by cases x; rw [wT]
mutual
theorem wE_le:∀ x:T_api_Entry,wE x ≤ wT x
 | .mk kd u n l => by rw [wE,wT]; have:=wEL_le l; omega
theorem wEL_le:∀ l:List T_api_Entry,wEL l ≤ wTL l
 | [] => by rw [wEL,wTL]; exact Nat.le_refl _
 | x :: l => by rw [wEL,wTL]; have:=wE_le x; have:=wEL_le l; omega
end
mutual
theorem wT_le:∀ x:T_api_Entry,wT x ≤ wN x
 | .mk kd u n l => by rw [wT,wN]; have:=wTL_le l; split <;> omega
theorem wTL_le:∀ l:List T_api_Entry,wTL l ≤ wNL l
 | [] => by rw [wTL,wNL]; exact Nat.le_refl _
 | x :: l => by rw [wTL,wNL]; have:=wT_le x; have:=wTL_le l; omega
end
theorem weigh16_l (k:Nat) (self:List T_api_Entry→Int→Option Int) (q:Nat) (hq:q ≤ 5000) (l:List T_api_Entry)
  (hself:∀ (l:List T_api_Entry) (p:Nat),p < q→∃ w:Nat,self l (p:Int)=some (w:Int) ∧ w ≤ 4 * p + 1 ∧ (w ≤ p→wNL l ≤ w)):∀ (m i n:Nat),q + 2 ≤ n + m→i ≤ l.length→i ≤ n→n ≤ 4 * q + 1→0 < m→
  ∃ w:Nat,watchbilllaw16_weigh.l0 k self l (q:Int) m (n:Int) (i:Int)=some (w:Int) ∧ n ≤ w ∧ w ≤ 4 * q + 1 ∧ (w ≤ q→n + wNL (l.drop i) ≤ w):=by
 intro m
 induction m with
 | zero => intro i n h1 h2 h3 h4 h5; omega
 | succ m ih =>
  intro i n h1 h2 h3 h4 h5
  unfold watchbilllaw16_weigh.l0
  by_cases hi:i < l.length ∧ n ≤ q
  ·rw [if_pos (by simp; omega),if_pos (by omega),if_pos (by omega)]
   have c1:=mcap q ((rd l (i:Int)).URI.length:Int) (by omega) (by omega)
   have c2:=mcap q ((rd l (i:Int)).Name.length:Int) (by omega) (by omega)
   have hw:wNL (l.drop i)=1 + (rd l (i:Int)).URI.length + (rd l (i:Int)).Name.length + wNL (rd l (i:Int)).List_ + wNL (l.drop (i + 1)):=by rw [rd_drop hi.1,wNL,wN_eq]
   generalize (rd l (i:Int)).URI.length=l1 at *
   generalize (rd l (i:Int)).Name.length=l2 at *
   generalize (if (q:Int) < (l1:Int) then (q:Int) else (l1:Int))=x1 at *
   generalize (if (q:Int) < (l2:Int) then (q:Int) else (l2:Int))=x2 at *
   rw [w64 (x:=(n:Int) + 1) (by omega) (by omega),w64 (x:=(n:Int) + 1 + x1) (by omega) (by omega),w64 (x:=(n:Int) + 1 + x1 + x2) (by omega) (by omega)]
   obtain⟨v,hv⟩:=Int.eq_ofNat_of_zero_le (show 0 ≤ (n:Int) + 1 + x1 + x2 by omega)
   rw [hv,wi (by omega)]
   by_cases hvq:v ≤ q
   ·have e:IntKind.i64.wrap ((q:Int) - (v:Int))=((q - v:Nat):Int):=by rw [w64 (by omega) (by omega)]; omega
    obtain⟨t,ht,t2,t3⟩:=hself (rd l (i:Int)).List_ (q - v) (by omega)
    have e2:IntKind.i64.wrap ((v:Int) + (t:Int))=((v + t:Nat):Int):=by rw [w64 (by omega) (by omega)]; omega
    rw [if_pos (by simp; omega),if_pos (by omega),e,ht,Option.bind_some,e2]
    obtain⟨w,g1,g2,g3,g4⟩:=ih (i + 1) (v + t) (by omega) (by omega) (by omega) (by omega) (by omega)
    refine⟨w,g1,by omega,g3,fun h => ?_⟩
    have:=g4 h
    have:=t3 (by omega)
    omega
   ·rw [if_neg (by simp; omega)]
    by_cases hm:0 < m
    ·obtain⟨w,g1,g2,g3,g4⟩:=ih (i + 1) v (by omega) (by omega) (by omega) (by omega) hm
     exact⟨w,g1,by omega,g3,fun h => by omega⟩
    ·omega
  ·rw [if_neg (by simp; omega)]
   refine⟨n,rfl,Nat.le_refl _,h4,fun h => ?_⟩
   have:i=l.length:=by omega
   rw [this,List.drop_length,wNL]; omega
theorem weigh16_eq:∀ (d q k:Nat) (l:List T_api_Entry),q ≤ d→q ≤ 5000→q + 60010 ≤ k→∃ w:Nat,watchbilllaw16_weigh k l (q:Int)=some (w:Int) ∧ w ≤ 4 * q + 1 ∧ (w ≤ q→wNL l ≤ w):=by
 have main:∀ (q k:Nat) (l:List T_api_Entry),q ≤ 5000→q + 60010 ≤ k + 1→(∀ (l:List T_api_Entry) (p:Nat),p < q→∃ w:Nat,watchbilllaw16_weigh k l (p:Int)=some (w:Int) ∧ w ≤ 4 * p + 1 ∧ (w ≤ p→wNL l ≤ w))→
   ∃ w:Nat,watchbilllaw16_weigh (k + 1) l (q:Int)=some (w:Int) ∧ w ≤ 4 * q + 1 ∧ (w ≤ q→wNL l ≤ w):=by
  intro q k l hq hk hself
  rw [watchbilllaw16_weigh]
  obtain⟨w,g1,g2,g3,g4⟩:=weigh16_l k (watchbilllaw16_weigh k) q hq l hself k 0 0 (by omega) (by omega) (by omega) (by omega) (by omega)
  exact⟨w,g1,g3,fun h => by have:=g4 h; simpa using this⟩
 intro d
 induction d with
 | zero =>
  intro q k l h1 h2 h3
  obtain⟨k,rfl⟩:∃ z,k=z + 1:=⟨k - 1,by omega⟩
  exact main q k l h2 h3 (fun l p hp => by omega)
 | succ d ih =>
  intro q k l h1 h2 h3
  obtain⟨k,rfl⟩:∃ z,k=z + 1:=⟨k - 1,by omega⟩
  exact main q k l h2 h3 (fun l p hp => ih p k l (by omega) (by omega) (by omega))
theorem few16_eq (k:Nat) (hk:400000 ≤ k) (l:List T_api_Entry):∃ b,watchbilllaw16_Few k l=some b ∧ (b=true→wNL l ≤ 5000):=by
 obtain⟨w,hw,_,h⟩:=weigh16_eq 5000 5000 k l (by omega) (by omega) (by omega)
 refine⟨decide ((w:Int) ≤ 5000),?_,fun hb => ?_⟩
 ·unfold watchbilllaw16_Few
  rw [show ((5000:Nat):Int)=5000 from rfl] at hw
  rw [hw,Option.bind_some]
 ·have:(w:Int) ≤ 5000:=by simpa using hb
  have:=h (by omega)
  omega
def elS (sp lo nm v:Str) (ks:List T_api_Node):T_api_Node:=⟨1,⟨sp,lo⟩,if v=[] then [] else [⟨⟨[],nm⟩,v⟩],ks,[]⟩
def txtN (s:Str):T_api_Node:=⟨2,⟨[],[]⟩,[],[],s⟩
def noN:T_api_Node:=⟨0,⟨[],[]⟩,[],[],[]⟩
mutual
def mayE:T_api_Entry→Bool
 | .mk kd u n l => if kd=2 then mayL l && (u == []) else if kd=1 then (!(u == []) && l.isEmpty) && (trimS n == n) else if kd=3 ∨ kd=4 then (!(u == []) && l.isEmpty) && (n == []) else false
def mayL:List T_api_Entry→Bool
 | [] => true
 | x :: l => mayE x && mayL l
end
mutual
def encE:T_api_Entry→T_api_Node
 | .mk kd u n l => if kd=3 then elS SPl wExt wAnchor u [] else if kd=4 then elS SPl wRef wRf u [] else if kd=1 then elS SPl wEntry wUri u (if n=[] then [] else [elS SPl wDisp [] [] [txtN n]]) else elS SPl wList wName n (encL l)
def encL:List T_api_Entry→List T_api_Node
 | [] => []
 | x :: l => encE x :: encL l
end
theorem mayE_eq (x:T_api_Entry):mayE x=if x.Kind=2 then mayL x.List_ && (x.URI == []) else if x.Kind=1 then (!(x.URI == []) && x.List_.isEmpty) && (trimS x.Name == x.Name) else if x.Kind=3 ∨ x.Kind=4 then (!(x.URI == []) && x.List_.isEmpty) && (x.Name == []) else false:=by cases x; rw [mayE]
theorem encE_eq (x:T_api_Entry):encE x=if x.Kind=3 then elS SPl wExt wAnchor x.URI [] else if x.Kind=4 then elS SPl wRef wRf x.URI [] else if x.Kind=1 then elS SPl wEntry wUri x.URI (if x.Name=[] then [] else [elS SPl wDisp [] [] [txtN x.Name]]) else elS SPl wList wName x.Name (encL x.List_):=by cases x; rw [encE]
theorem wTL_mem {l:List T_api_Entry} {x:T_api_Entry} (h:x ∈ l):wT x ≤ wTL l:=by
 induction l with
 | nil => cases h
 | cons m l ih =>
  rw [wTL]
  rcases List.mem_cons.1 h with rfl | h
  ·omega
  ·have:=ih h; omega
theorem wTL_len:∀ l:List T_api_Entry,l.length ≤ wTL l:=fun l => Nat.le_trans (wEL_len l) (wEL_le l)
theorem lmay_l (k:Nat) (self:T_api_Entry→Option Bool) (x:T_api_Entry) (hl:∀ y ∈ x.List_,self y=some (mayE y)) (h9:x.List_.length ≤ 2000000000) (z0:Int) (u z2:Str) (z3:List T_api_Entry):∀ (m i:Nat),i ≤ x.List_.length→x.List_.length < i + m→
  lists_may.l0 k self x m z0 u z2 z3 (i:Int)=some (mayL (x.List_.drop i) && (u == [])):=by
 intro m
 induction m with
 | zero => intro i h1 h2; omega
 | succ m ih =>
  intro i h1 h2
  unfold lists_may.l0
  by_cases hi:i < x.List_.length
  ·rw [if_pos (by simp; omega),if_pos (by omega),hl _ (rd_mem hi),Option.bind_some,wi (by omega),ih (i + 1) (by omega) (by omega),rd_drop hi,mayL]
   cases mayE (rd x.List_ (i:Int)) <;> simp
  ·rw [if_neg (by simp; omega),List.drop_of_length_le (by omega)]; simp [mayL]
theorem lmay_eq:∀ (d k:Nat) (x:T_api_Entry),wT x ≤ d→wT x ≤ 2000000000→wT x + 3000000010 ≤ k→lists_may k x=some (mayE x):=by
 intro d
 induction d with
 | zero => intro k x h1; rw [wT_eq] at h1; omega
 | succ d ih =>
  intro k x h1 h2 h3
  obtain⟨k,rfl⟩:∃ z,k=z + 1:=⟨k - 1,by omega⟩
  have he:=wT_eq x
  have hlen:=wTL_len x.List_
  have h0:=lmay_l k (lists_may k) x (fun y hy => by have:=wTL_mem hy; exact ih k y (by omega) (by omega) (by omega)) (by omega) x.Kind x.URI x.Name x.List_ k 0 (by omega) (by omega)
  rw [lists_may,mayE_eq]
  have hem:((x.List_.length:Int) == 0)=x.List_.isEmpty:=by cases x.List_ <;> simp; omega
  by_cases h2k:x.Kind=2
  ·rw [if_pos (by simpa using h2k),if_pos h2k]
   simpa using h0
  ·rw [if_neg (by simpa using h2k),if_neg h2k,hem]
   by_cases h1k:x.Kind=1
   ·have htr:=tr_eq k (by omega) x.Name (by rw [if_pos h1k] at he; omega)
    rw [if_pos (by simpa using h1k),if_pos h1k,htr]
    cases x.URI == [] <;> cases x.List_.isEmpty <;> simp
   ·rw [if_neg (by simpa using h1k),if_neg h1k]
    unfold lists_may.j1
    rw [hem]
    by_cases h3k:x.Kind=3
    ·simp [h3k]
    ·by_cases h4k:x.Kind=4 <;> simp [h3k,h4k]
theorem lelem_eq (lo nm v:Str):lists_element lo nm v=some (elS SPl lo nm v []):=by
 unfold lists_element elS
 rw [lown,Option.bind_some]
 by_cases h:v=[] <;> simp [h]
theorem lenc_l (k:Nat) (self:T_api_Entry→Option T_api_Node) (x:T_api_Entry) (hl:∀ y ∈ x.List_,self y=some (encE y)) (h9:x.List_.length ≤ 2000000000) (z0:Int) (z1 z2:Str) (z3:List T_api_Attr) (z4:List T_api_Node) (z5:Str) (kd:Int) (sp lo:Str) (ats:List T_api_Attr) (tx:Str):∀ (m i:Nat) (y:List T_api_Node),i ≤ x.List_.length→x.List_.length < i + m→y.length ≤ i→
  lists_encode.l0 k self x m z0 z1 z2 z3 z4 z5 kd sp lo ats tx y (i:Int)=some ⟨kd,⟨sp,lo⟩,ats,y ++ encL (x.List_.drop i),tx⟩:=by
 intro m
 induction m with
 | zero => intro i y h1 h2; omega
 | succ m ih =>
  intro i y h1 h2 h3
  unfold lists_encode.l0
  by_cases hi:i < x.List_.length
  ·rw [if_pos (by simp; omega),if_pos (by omega),hl _ (rd_mem hi),Option.bind_some,if_pos (by simp; omega),wi (by omega),ih (i + 1) _ (by omega) (by omega) (by simp; omega),rd_drop hi,encL]
   simp
  ·rw [if_neg (by simp; omega),List.drop_of_length_le (by omega)]; simp [encL]
theorem lenc_eq:∀ (d k:Nat) (x:T_api_Entry),wE x ≤ d→wE x ≤ 2000000000→wE x + 3000000010 ≤ k→lists_encode k x=some (encE x):=by
 intro d
 induction d with
 | zero => intro k x h1; rw [wE_eq] at h1; omega
 | succ d ih =>
  intro k x h1 h2 h3
  obtain⟨k,rfl⟩:∃ z,k=z + 1:=⟨k - 1,by omega⟩
  have he:=wE_eq x
  have hlen:=wEL_len x.List_
  have e1:lists_element [101,120,116,101,114,110,97,108] [97,110,99,104,111,114] x.URI=some (elS SPl wExt wAnchor x.URI []):=lelem_eq _ _ _
  have e2:lists_element [101,110,116,114,121,45,114,101,102] [114,101,102] x.URI=some (elS SPl wRef wRf x.URI []):=lelem_eq _ _ _
  have e3:lists_element [101,110,116,114,121] [117,114,105] x.URI=some (elS SPl wEntry wUri x.URI []):=lelem_eq _ _ _
  have e4:lists_element [100,105,115,112,108,97,121,45,110,97,109,101] [] []=some (elS SPl wDisp [] [] []):=lelem_eq _ _ _
  have e5:lists_element [108,105,115,116] [110,97,109,101] x.Name=some (elS SPl wList wName x.Name []):=lelem_eq _ _ _
  rw [lists_encode,encE_eq,e1,e2,e3,e4,e5]
  by_cases h3k:x.Kind=3
  ·rw [if_pos (by simpa using h3k),if_pos h3k]; rfl
  ·rw [if_neg (by simpa using h3k),if_neg h3k]
   by_cases h4k:x.Kind=4
   ·rw [if_pos (by simpa using h4k),if_pos h4k]; rfl
   ·rw [if_neg (by simpa using h4k),if_neg h4k]
    by_cases h1k:x.Kind=1
    ·rw [if_pos (by simpa using h1k),if_pos h1k,Option.bind_some]
     by_cases hn:x.Name=[]
     ·rw [if_neg (by simp [hn]),if_pos hn]; rfl
     ·rw [if_pos (by simpa using hn),if_neg hn]; rfl
    ·rw [if_neg (by simpa using h1k),if_neg h1k,Option.bind_some]
     have h0:=lenc_l k (lists_encode k) x (fun y hy => by have:=wEL_mem hy; exact ih k y (by omega) (by omega) (by omega)) (by omega) 0 [] [] [] [] [] 1 SPl wList (elS SPl wList wName x.Name []).Attrs [] k 0 [] (by omega) (by omega) (by simp)
     refine Eq.trans h0 ?_
     rw [List.drop_zero]
     rfl
theorem wt_el (sp lo nm v:Str) (ks:List T_api_Node):wt (elS sp lo nm v ks) ≤ 2 + wtL ks:=by
 rw [wt_eq]
 unfold elS
 simp only [List.length_nil]
 split <;> simp <;> omega
theorem wt_txt (s:Str):wt (txtN s)=1 + s.length:=by rw [wt_eq]; simp [txtN,wtL]
mutual
theorem wt_enc:∀ x:T_api_Entry,wt (encE x) ≤ 6 * wT x
 | .mk kd u n l => by
  rw [encE_eq,wT_eq]
  simp only
  have h0:=wt_el SPl wExt wAnchor u []
  have h1:=wt_el SPl wRef wRf u []
  have h2:=wt_el SPl wEntry wUri u (if n=[] then [] else [elS SPl wDisp [] [] [txtN n]])
  have h3:=wt_el SPl wList wName n (encL l)
  have h4:=wtL_enc l
  have h5:=wt_el SPl wDisp [] [] [txtN n]
  simp only [wtL,wt_txt] at h0 h1 h2 h5
  split
  ·omega
  ·split
   ·omega
   ·split
    ·by_cases hn:n=[]
     ·rw [if_pos hn] at h2 ⊢
      simp only [wtL] at h2; omega
     ·rw [if_neg hn] at h2 ⊢
      simp only [wtL] at h2; omega
    ·omega
theorem wtL_enc:∀ l:List T_api_Entry,wtL (encL l) ≤ 6 * wTL l
 | [] => by rw [encL,wtL]; omega
 | x :: l => by rw [encL,wtL,wTL]; have:=wt_enc x; have:=wtL_enc l; omega
end
theorem rmay_l (k:Nat) (self:T_api_Entry→Option Bool) (l:List T_api_Entry) (hl:∀ y ∈ l,self y=some (mayE y)) (h9:l.length ≤ 2000000000) (z0:Int) (u z2:Str):∀ (m i:Nat),i ≤ l.length→l.length < i + m→
  watchbillref16_May.l0 k self m z0 u z2 l (i:Int)=some (mayL (l.drop i) && (u == [])):=by
 intro m
 induction m with
 | zero => intro i h1 h2; omega
 | succ m ih =>
  intro i h1 h2
  unfold watchbillref16_May.l0
  by_cases hi:i < l.length
  ·rw [if_pos (by simp; omega),if_pos (by omega),hl _ (rd_mem hi),Option.bind_some,wi (by omega),ih (i + 1) (by omega) (by omega),rd_drop hi,mayL]
   cases mayE (rd l (i:Int)) <;> simp
  ·rw [if_neg (by simp; omega),List.drop_of_length_le (by omega)]; simp [mayL]
theorem rmay_eq:∀ (d k:Nat) (x:T_api_Entry),wT x ≤ d→wT x ≤ 2000000000→wT x + 3000000010 ≤ k→watchbillref16_May k x=some (mayE x):=by
 intro d
 induction d with
 | zero => intro k x h1; rw [wT_eq] at h1; omega
 | succ d ih =>
  intro k x h1 h2 h3
  obtain⟨k,rfl⟩:∃ z,k=z + 1:=⟨k - 1,by omega⟩
  have he:=wT_eq x
  have hlen:=wTL_len x.List_
  have h0:=rmay_l k (watchbillref16_May k) x.List_ (fun y hy => by have:=wTL_mem hy; exact ih k y (by omega) (by omega) (by omega)) (by omega) x.Kind x.URI x.Name k 0 (by omega) (by omega)
  rw [watchbillref16_May,mayE_eq]
  have hem:decide ((x.List_.length:Int) > 0)=!x.List_.isEmpty:=by cases x.List_ <;> simp
  by_cases h2k:x.Kind=2
  ·rw [if_pos (by simpa using h2k),if_pos h2k]
   simpa using h0
  ·rw [if_neg (by simpa using h2k),if_neg h2k,hem]
   by_cases h1k:x.Kind=1
   ·have htr:=rtr_eq k (by omega) x.Name (by rw [if_pos h1k] at he; omega)
    rw [if_pos h1k,htr]
    cases x.URI == [] <;> cases x.List_.isEmpty <;> simp [h1k]
   ·rw [if_neg h1k]
    by_cases h3k:x.Kind=3
    ·cases x.URI == [] <;> cases x.List_.isEmpty <;> simp [h3k]
    ·by_cases h4k:x.Kind=4 <;> cases x.URI == [] <;> cases x.List_.isEmpty <;> simp [h1k,h3k,h4k]
theorem rel_eq (sp lo nm v:Str) (ks:List T_api_Node):watchbillref16_El sp lo nm v ks=some (elS sp lo nm v ks):=by
 unfold watchbillref16_El elS
 by_cases h:v=[] <;> simp [h]
theorem rmade_l (k:Nat) (self:T_api_Entry→Option T_api_Node) (l:List T_api_Entry) (hl:∀ y ∈ l,self y=some (encE y)) (h9:l.length ≤ 2000000000) (z0:Int) (u nm:Str) (w0:Int) (w1 w2:Str) (w3:List T_api_Attr) (w4:List T_api_Node) (w5:Str):∀ (m i:Nat) (y:List T_api_Node),i ≤ l.length→l.length < i + m→y.length ≤ i→
  watchbillref16_Made.l1 k self m z0 u nm l w0 w1 w2 w3 w4 w5 y (i:Int)=some (elS SPl wList wName nm (y ++ encL (l.drop i))):=by
 intro m
 induction m with
 | zero => intro i y h1 h2; omega
 | succ m ih =>
  intro i y h1 h2 h3
  unfold watchbillref16_Made.l1
  by_cases hi:i < l.length
  ·rw [if_pos (by simp; omega),if_pos (by omega),hl _ (rd_mem hi),Option.bind_some,if_pos (by simp; omega),wi (by omega),ih (i + 1) _ (by omega) (by omega) (by simp; omega),rd_drop hi,encL]
   simp
  ·rw [if_neg (by simp; omega),List.drop_of_length_le (by omega),rel_eq]; simp [encL]; rfl
theorem rmade_eq:∀ (d k:Nat) (x:T_api_Entry),wE x ≤ d→wE x ≤ 2000000000→wE x + 3000000010 ≤ k→watchbillref16_Made k x=some (encE x):=by
 intro d
 induction d with
 | zero => intro k x h1; rw [wE_eq] at h1; omega
 | succ d ih =>
  intro k x h1 h2 h3
  obtain⟨k,rfl⟩:∃ z,k=z + 1:=⟨k - 1,by omega⟩
  have he:=wE_eq x
  have hlen:=wEL_len x.List_
  rw [watchbillref16_Made,encE_eq,rel_eq,rel_eq,rel_eq]
  have hj:∀ ks,watchbillref16_Made.j0 x ks=some (elS SPl wEntry wUri x.URI ks):=fun ks => by
   unfold watchbillref16_Made.j0; rw [rel_eq]; rfl
  by_cases h3k:x.Kind=3
  ·rw [if_pos (by simpa using h3k),if_pos h3k]; rfl
  ·rw [if_neg (by simpa using h3k),if_neg h3k]
   by_cases h4k:x.Kind=4
   ·rw [if_pos (by simpa using h4k),if_pos h4k]; rfl
   ·rw [if_neg (by simpa using h4k),if_neg h4k]
    by_cases h1k:x.Kind=1
    ·rw [if_pos (by simpa using h1k),if_pos h1k,Option.bind_some]
     by_cases hn:x.Name=[]
     ·rw [if_neg (by simp [hn]),if_pos hn,hj]
     ·rw [if_pos (by simpa using hn),if_neg hn,if_pos (by simp),hj]; rfl
    ·rw [if_neg (by simpa using h1k),if_neg h1k]
     have h0:=rmade_l k (watchbillref16_Made k) x.List_ (fun y hy => by have:=wEL_mem hy; exact ih k y (by omega) (by omega) (by omega)) (by omega) x.Kind x.URI x.Name 0 [] [] [] [] [] k 0 [] (by omega) (by omega) (by simp)
     refine Eq.trans h0 ?_
     rw [List.drop_zero]; rfl
theorem tsame_l1 (k:Nat) (c0:Int→Str→Str→List T_api_Attr→List T_api_Node→Str→Int→Str→Str→List T_api_Attr→List T_api_Node→Str→Int→Option Bool) (a:Nat) (n0:Int) (n1 n2:Str) (ats:List T_api_Attr) (ks:List T_api_Node) (n5:Str) (ha:a < ats.length) (h9:ats.length ≤ 2000000000):∀ (m j c:Nat),j ≤ ats.length→ats.length < j + m→c ≤ j→
  watchbillref04_Same.l1 k c0 (a:Int) m n0 n1 n2 ats ks n5 n0 n1 n2 ats ks n5 (c:Int) (c:Int) (j:Int)=c0 n0 n1 n2 ats ks n5 n0 n1 n2 ats ks n5 ((a + 1:Nat):Int):=by
 intro m
 induction m with
 | zero => intro j c h1 h2; omega
 | succ m ih =>
  intro j c h1 h2 h3
  unfold watchbillref04_Same.l1
  by_cases hj:j < ats.length
  ·generalize hb:((rd ats (j:Int)).Name.Space == (rd ats (a:Int)).Name.Space && ((rd ats (j:Int)).Name.Local == (rd ats (a:Int)).Name.Local && ((rd ats (j:Int)).Value == (rd ats (a:Int)).Value && true)))=b
   have hj2:∀ x6,watchbillref04_Same.j2 (watchbillref04_Same.l1 k c0 (a:Int) m) (a:Int) n0 n1 n2 ats ks n5 n0 n1 n2 ats ks n5 (c:Int) (j:Int) x6=if b=true then watchbillref04_Same.l1 k c0 (a:Int) m n0 n1 n2 ats ks n5 n0 n1 n2 ats ks n5 x6 ((c + 1:Nat):Int) ((j + 1:Nat):Int) else watchbillref04_Same.l1 k c0 (a:Int) m n0 n1 n2 ats ks n5 n0 n1 n2 ats ks n5 x6 (c:Int) ((j + 1:Nat):Int):=by
    intro x6
    unfold watchbillref04_Same.j2
    rw [if_pos (by omega),if_pos (by omega),hb,wi (i:=j) (by omega),wi (i:=c) (by omega)]
   rw [if_pos (by simp; omega),if_pos (by omega),if_pos (by omega),hj2,hj2,wi (i:=c) (by omega)]
   cases b with
   | true => rw [if_pos rfl,if_pos rfl]; exact ih (j + 1) (c + 1) (by omega) (by omega) (by omega)
   | false => rw [if_neg (by simp),if_neg (by simp)]; exact ih (j + 1) c (by omega) (by omega) (by omega)
  ·rw [if_neg (by simp; omega),if_neg (by simp),wi (by omega)]
theorem tsame_l3 (k:Nat) (self:T_api_Node→T_api_Node→Option Bool) (n0:Int) (n1 n2:Str) (ats:List T_api_Attr) (ks:List T_api_Node) (n5:Str) (hl:∀ q ∈ ks,self q q=some true) (h9:ks.length ≤ 2000000000):∀ (m j:Nat),j ≤ ks.length→ks.length < j + m→
  watchbillref04_Same.l3 k self m n0 n1 n2 ats ks n5 n0 n1 n2 ats ks n5 (j:Int)=some true:=by
 intro m
 induction m with
 | zero => intro j h1 h2; omega
 | succ m ih =>
  intro j h1 h2
  unfold watchbillref04_Same.l3
  by_cases hj:j < ks.length
  ·rw [if_pos (by simp; omega),if_pos (by omega),if_pos (by omega),hl _ (rd_mem hj),Option.bind_some,if_neg (by simp),wi (by omega)]
   exact ih (j + 1) (by omega) (by omega)
  ·rw [if_neg (by simp; omega)]
theorem tsame_l0 (k:Nat) (hk:3000000000 ≤ k) (self:T_api_Node→T_api_Node→Option Bool) (n0:Int) (n1 n2:Str) (ats:List T_api_Attr) (ks:List T_api_Node) (n5:Str) (hl:∀ q ∈ ks,self q q=some true) (h9:ks.length ≤ 2000000000) (h8:ats.length ≤ 2000000000):∀ (m a:Nat),a ≤ ats.length→ats.length < a + m→
  watchbillref04_Same.l0 k self m n0 n1 n2 ats ks n5 n0 n1 n2 ats ks n5 (a:Int)=some true:=by
 intro m
 induction m with
 | zero => intro a h1 h2; omega
 | succ m ih =>
  intro a h1 h2
  unfold watchbillref04_Same.l0
  by_cases ha:a < ats.length
  ·rw [if_pos (by simp; omega)]
   have:=tsame_l1 k (watchbillref04_Same.l0 k self m) a n0 n1 n2 ats ks n5 ha h8 k 0 0 (by omega) (by omega) (by omega)
   refine Eq.trans this ?_
   exact ih (a + 1) (by omega) (by omega)
  ·rw [if_neg (by simp; omega)]
   exact tsame_l3 k self n0 n1 n2 ats ks n5 hl h9 k 0 (by omega) (by omega)
theorem tsame_eq:∀ (d k:Nat) (n:T_api_Node),wt n ≤ d→wt n ≤ 1000000000→wt n + 3000000010 ≤ k→watchbillref04_Same k n n=some true:=by
 intro d
 induction d with
 | zero => intro k n h1 h2; have:=wt_pos n; omega
 | succ d ih =>
  intro k n h1 h2 h3
  obtain⟨k,rfl⟩:∃ z,k=z + 1:=⟨k - 1,by omega⟩
  have hlen:=wt_kids n
  have hat:=wt_attrs n
  rw [watchbillref04_Same,if_neg (by simp)]
  exact tsame_l0 k (by omega) (watchbillref04_Same k) n.Kind n.Name.Space n.Name.Local n.Attrs n.Kids n.Text (fun q hq => by have:=kid_lt hq; exact ih k q (by omega) (by omega) (by omega)) (by omega) (by omega) k 0 (by omega) (by omega)
theorem asame_l (k:Nat) (a:List T_api_Attr) (h9:a.length ≤ 2000000000):∀ (m i:Nat),i ≤ a.length→a.length < i + m→watchbillref02_Same.l0 k a a m (i:Int)=some true:=by
 intro m
 induction m with
 | zero => intro i h1 h2; omega
 | succ m ih =>
  intro i h1 h2
  unfold watchbillref02_Same.l0
  by_cases hi:i < a.length
  ·rw [if_pos (by simp; omega),if_pos (by omega),if_pos (by omega),wi (by omega),if_neg (by simp)]
   exact ih (i + 1) (by omega) (by omega)
  ·rw [if_neg (by simp; omega)]
theorem teq_l (k:Nat) (self:T_api_Node→T_api_Node→Option Bool) (n0:Int) (n1 n2:Str) (ats:List T_api_Attr) (ks:List T_api_Node) (n5:Str) (hl:∀ q ∈ ks,self q q=some true) (h9:ks.length ≤ 2000000000):∀ (m j:Nat),j ≤ ks.length→ks.length < j + m→
  watchbillref04_Equal.l0 k self m n0 n1 n2 ats ks n5 n0 n1 n2 ats ks n5 (j:Int)=some true:=by
 intro m
 induction m with
 | zero => intro j h1 h2; omega
 | succ m ih =>
  intro j h1 h2
  unfold watchbillref04_Equal.l0
  by_cases hj:j < ks.length
  ·rw [if_pos (by simp; omega),if_pos (by omega),if_pos (by omega),hl _ (rd_mem hj),Option.bind_some,if_neg (by simp),wi (by omega)]
   exact ih (j + 1) (by omega) (by omega)
  ·rw [if_neg (by simp; omega)]
theorem teq_eq:∀ (d k:Nat) (n:T_api_Node),wt n ≤ d→wt n ≤ 1000000000→wt n + 3000000020 ≤ k→watchbillref04_Equal k n n=some true:=by
 intro d
 induction d with
 | zero => intro k n h1 h2; have:=wt_pos n; omega
 | succ d ih =>
  intro k n h1 h2 h3
  obtain⟨k,rfl⟩:∃ z,k=z + 1:=⟨k - 1,by omega⟩
  have hlen:=wt_kids n
  have hat:=wt_attrs n
  have ha:watchbillref02_Same k n.Attrs n.Attrs=some true:=by
   unfold watchbillref02_Same
   rw [if_neg (by simp)]
   exact asame_l k n.Attrs (by omega) k 0 (by omega) (by omega)
  rw [watchbillref04_Equal,tsame_eq (wt n) k n (Nat.le_refl _) (by omega) (by omega),Option.bind_some,ha,if_pos (by simp),Option.bind_some,if_neg (by simp)]
  exact teq_l k (watchbillref04_Equal k) n.Kind n.Name.Space n.Name.Local n.Attrs n.Kids n.Text (fun q hq => by have:=kid_lt hq; exact ih k q (by omega) (by omega) (by omega)) (by omega) k 0 (by omega) (by omega)
end Go.Proofs.YtapbckofgcmgmaaGreatDoor.Pure
