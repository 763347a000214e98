import Derived.Test.YtafoiodfflcpeaaPureH
namespace Go.Proofs.Ytafoiodfflcpeaa.Pure
open Go Go.RowKit Go.Proofs.Vx Go.Proofs.Ytafoiodfflcpeaa.Sh
set_option maxRecDepth 100000
theorem few_k (k:Nat) (hk:300000 ≤ k) (n:T_api_Node):∃ b,watchbilllaw04_Few k n=some b ∧ (b=true→wt n ≤ 30000 ∧ wf n ≤ 30000):=by
 obtain⟨w,hw,_,_,h⟩:=weigh_eq 30000 30000 k n (by omega) (by omega) (by omega)
 refine⟨decide ((w:Int) ≤ 30000),?_,fun hb => ?_⟩
 ·unfold watchbilllaw04_Few
  rw [show ((30000:Nat):Int)=30000 from rfl] at hw
  rw [hw,Option.bind_some]
 ·have:(w:Int) ≤ 30000:=by simpa using hb
  have:=h (by omega)
  have:=wt_wf n
  omega
theorem few10_l (k:Nat) (l:List T_api_Step) (h9:l.length ≤ 6000):∀ (m i:Nat) (n:Int),0 ≤ n→n ≤ 60000→i ≤ l.length→l.length < i + m→∃ b,watchbilllaw10_Few.l0 k l m n (i:Int)=some b ∧ (b=true→n < 5000 ∧ ∀ s ∈ l.drop i,s.Name.Space.length ≤ 5000 ∧ s.Name.Local.length ≤ 5000):=by
 intro m
 induction m with
 | zero => intro i n _ _ h1 h2; omega
 | succ m ih =>
  intro i n h0 hn h1 h2
  unfold watchbilllaw10_Few.l0
  by_cases hi:i < l.length ∧ n < 5000
  ·rw [if_pos (by simp; omega),if_pos (by omega),wi (by omega)]
   have hd:l.drop i=rd l (i:Int) :: l.drop (i + 1):=rd_drop hi.1
   rw [hd]
   have c1:=mcap 5000 ((rd l (i:Int)).Name.Space.length:Int) (by omega) (by omega)
   have c2:=mcap 5000 ((rd l (i:Int)).Name.Local.length:Int) (by omega) (by omega)
   have c3:=mcap 5000 ((rd l (i:Int)).Attr.Space.length:Int) (by omega) (by omega)
   have c4:=mcap 5000 ((rd l (i:Int)).Attr.Local.length:Int) (by omega) (by omega)
   have c5:=mcap 5000 ((rd l (i:Int)).Value.length:Int) (by omega) (by omega)
   generalize (if 5000 < ((rd l (i:Int)).Name.Space.length:Int) then (5000:Int) else ((rd l (i:Int)).Name.Space.length:Int))=x1 at *
   generalize (if 5000 < ((rd l (i:Int)).Name.Local.length:Int) then (5000:Int) else ((rd l (i:Int)).Name.Local.length:Int))=x2 at *
   generalize (if 5000 < ((rd l (i:Int)).Attr.Space.length:Int) then (5000:Int) else ((rd l (i:Int)).Attr.Space.length:Int))=x3 at *
   generalize (if 5000 < ((rd l (i:Int)).Attr.Local.length:Int) then (5000:Int) else ((rd l (i:Int)).Attr.Local.length:Int))=x4 at *
   generalize (if 5000 < ((rd l (i:Int)).Value.length:Int) then (5000:Int) else ((rd l (i:Int)).Value.length:Int))=x5 at *
   rw [w64 (x:=n + x1) (by omega) (by omega),w64 (x:=n + x1 + x2) (by omega) (by omega),w64 (x:=n + x1 + x2 + x3) (by omega) (by omega),w64 (x:=n + x1 + x2 + x3 + x4) (by omega) (by omega),w64 (x:=n + x1 + x2 + x3 + x4 + x5) (by omega) (by omega)]
   obtain⟨b,hb,hs⟩:=ih (i + 1) (n + x1 + x2 + x3 + x4 + x5) (by omega) (by omega) (by omega) (by omega)
   refine⟨b,hb,fun h => ?_⟩
   obtain⟨g1,g2⟩:=hs h
   refine⟨by omega,fun s hs => ?_⟩
   rcases List.mem_cons.1 hs with rfl | hs
   ·omega
   ·exact g2 s hs
  ·rw [if_neg (by simp; omega)]
   refine⟨_,rfl,fun h => ?_⟩
   have h:n < 5000:=by simpa using h
   refine⟨h,fun s hs => ?_⟩
   rw [List.drop_of_length_le (by omega)] at hs
   cases hs
theorem few10_k (k:Nat) (hk:10000 ≤ k) (l:List T_api_Step):∃ b,watchbilllaw10_Few k l=some b ∧ (b=true→∀ s ∈ l,s.Name.Space.length ≤ 5000 ∧ s.Name.Local.length ≤ 5000):=by
 unfold watchbilllaw10_Few
 by_cases h:l.length < 5000
 ·rw [if_neg (by omega)]
  obtain⟨b,hb,hs⟩:=few10_l k l (by omega) k 0 l.length (by omega) (by omega) (by omega) (by omega)
  exact⟨b,hb,fun h => by have:=(hs h).2; rw [List.drop_zero] at this; exact this⟩
 ·refine⟨false,?_,fun h => by cases h⟩
  have e:(if 5000 < (l.length:Int) then (5000:Int) else (l.length:Int))=5000:=by split <;> omega
  rw [e]
  obtain⟨k,rfl⟩:∃ z,k=z + 1:=⟨k - 1,by omega⟩
  unfold watchbilllaw10_Few.l0
  rw [if_neg (by simp)]; rfl
theorem few13 (k:Nat) (hk:9000000000 ≤ k) (root n:T_api_Node) (l:List T_api_Step):∃ b,watchbilllaw13_few k root n l=some b ∧ (b=true→wf root ≤ 30000 ∧ wf n ≤ 30000 ∧ l.length ≤ 30 ∧ ∀ s ∈ l,s.Name.Space.length ≤ 5000 ∧ s.Name.Local.length ≤ 5000):=by
 obtain⟨b1,e1,h1⟩:=few_k k (by omega) root
 obtain⟨b2,e2,h2⟩:=few_k k (by omega) n
 obtain⟨b3,e3,h3⟩:=few10_k k (by omega) l
 unfold watchbilllaw13_few
 rw [e1,Option.bind_some]
 cases b1 with
 | false => exact⟨false,by simp,fun h => by cases h⟩
 | true =>
  rw [if_pos (by simp),e2,Option.bind_some]
  cases b2 with
  | false => exact⟨false,by simp,fun h => by cases h⟩
  | true =>
   rw [if_pos (by simp),e3,Option.bind_some]
   refine⟨_,rfl,fun h => ?_⟩
   simp only [Bool.true_and,Bool.and_eq_true,decide_eq_true_eq] at h
   exact⟨(h1 rfl).2,(h2 rfl).2,by omega,h3 h.1⟩
def namesB (l:List T_api_Step):Bool:=l.all (fun s => s.Kind == 1) && decide (0 < l.length)
theorem names_l (k:Nat) (l:List T_api_Step) (h9:l.length ≤ 600000):∀ (m i:Nat),i ≤ l.length→l.length < i + m→change_names.l0 k l m (i:Int)=some ((l.drop i).all (fun s => s.Kind == 1) && decide (0 < l.length)):=by
 intro m
 induction m with
 | zero => intro i h1 h2; omega
 | succ m ih =>
  intro i h1 h2
  unfold change_names.l0
  by_cases hi:i < l.length
  ·have hd:l.drop i=rd l (i:Int) :: l.drop (i + 1):=rd_drop hi
   rw [if_pos (by simp; omega),if_pos (by omega),wi (by omega),hd,List.all_cons]
   by_cases hk:(rd l (i:Int)).Kind=1
   ·rw [if_neg (by simp [hk]),ih (i + 1) (by omega) (by omega),hk]; simp
   ·rw [if_pos (by simpa using hk)]
    have:((rd l (i:Int)).Kind == 1)=false:=by simpa using hk
    rw [this]; simp
  ·rw [if_neg (by simp; omega),List.drop_of_length_le (by omega)]
   simp
theorem cnames_eq (k:Nat) (l:List T_api_Step) (h9:l.length ≤ 600000) (hk:600000 < k):change_names k l=some (namesB l):=by
 have:=names_l k l h9 k 0 (by omega) (by omega)
 rw [List.drop_zero] at this
 exact this
def attrB (l:List T_api_Step):Bool:=(decide (1 < l.length) && ((lastS l).Kind == 2)) && namesB l.dropLast
theorem cattr_eq (k:Nat) (l:List T_api_Step) (h9:l.length ≤ 600000) (hk:600000 < k):change_attr k l=some (attrB l):=by
 unfold change_attr attrB
 by_cases h0:l.length=0
 ·have e:IntKind.i64.wrap ((l.length:Int) - 1)=-1:=by rw [h0]; decide
  rw [e,if_pos (by intro h; simp at h),if_pos (by intro h; simp at h),if_neg (by simp),Option.bind_some]
  have:decide (1 < l.length)=false:=decide_eq_false (by omega)
  rw [this]; simp
 ·have e:IntKind.i64.wrap ((l.length:Int) - 1)=((l.length - 1:Nat):Int):=by rw [w64 (by omega) (by omega)]; omega
  rw [e,if_pos (by intro _; omega),if_pos (by intro _; omega),sl_drop,cnames_eq k _ (by simp; omega) hk,show rd l ((l.length - 1:Nat):Int)=lastS l from rfl]
  have e2:decide (((l.length - 1:Nat):Int) > 0)=decide (1 < l.length):=decide_eq_decide.2 (by omega)
  rw [e2]
  cases h:(decide (1 < l.length) && ((lastS l).Kind == 2)) with
  | true => rw [if_pos (by rfl),Option.bind_some]
  | false => rw [if_neg (by simp),Option.bind_some]; simp
theorem namesB_last {l:List T_api_Step} (h:namesB l=true):0 < l.length ∧ (lastS l).Kind=1:=by
 unfold namesB at h
 rw [Bool.and_eq_true,decide_eq_true_eq] at h
 refine⟨h.2,?_⟩
 have hm:lastS l ∈ l:=by
  have:l.length - 1 < l.length:=by omega
  unfold lastS
  simp [rd,this]
 have:=List.all_eq_true.1 h.1 _ hm
 simpa using this
theorem attrB_parts {l:List T_api_Step} (h:attrB l=true):1 < l.length ∧ (lastS l).Kind=2 ∧ namesB l.dropLast=true:=by
 unfold attrB at h
 simp only [Bool.and_eq_true,decide_eq_true_eq] at h
 exact⟨h.1.1,by simpa using h.1.2,h.2⟩
theorem names_not_attr {l:List T_api_Step} (h:namesB l=true):attrB l=false:=by
 obtain⟨_,h2⟩:=namesB_last h
 unfold attrB; rw [h2]; simp
theorem rd_dropI {p:List Int} {j:Nat} (h:j < p.length):p.drop j=rd p (j:Int) :: p.drop (j + 1):=rd_drop h
theorem peq_l (k:Nat) (a b:List Int) (hab:a.length=b.length) (h9:a.length ≤ 2000000000):∀ (m j:Nat),j ≤ a.length→a.length < j + m→slices_Equal_64.l0 k a b m (j:Int)=some (decide (a.drop j=b.drop j)):=by
 intro m
 induction m with
 | zero => intro j h1 h2; omega
 | succ m ih =>
  intro j h1 h2
  unfold slices_Equal_64.l0
  by_cases hj:j < a.length
  ·rw [if_pos (by simp; omega),if_pos (by omega),if_pos (by omega),rd_dropI hj,rd_dropI (p:=b) (by omega)]
   by_cases he:rd a (j:Int)=rd b (j:Int)
   ·rw [if_neg (by simp [he]),wi (by omega),ih (j + 1) (by omega) (by omega),he]
    simp
   ·rw [if_pos (by simpa using he)]
    simp [he]
  ·rw [if_neg (by simp; omega),List.drop_of_length_le (by omega),List.drop_of_length_le (by omega)]
   rfl
theorem peq_eq (k:Nat) (a b:List Int) (h9:a.length ≤ 2000000000) (hk:a.length < k):slices_Equal_64 k a b=some (decide (a=b)):=by
 unfold slices_Equal_64
 by_cases hab:a.length=b.length
 ·have:=peq_l k a b hab h9 k 0 (by omega) (by omega)
  rw [List.drop_zero,List.drop_zero] at this
  rw [if_neg (by simp; omega)]
  exact this
 ·rw [if_pos (by simp; omega)]
  have:a ≠ b:=fun h => hab (by rw [h])
  simp [this]
def RB (n:T_api_Node):Bool:=n.Kind == 1 && (decide (cnt n ≤ 2000) && shp n 1 false)
def chk (n:T_api_Node) (l:List T_api_Step) (w:List Int):Int:=if (sel n l).2=0 ∧ (sel n l).1=w then (if RB n=true then 0 else 45) else 42
theorem checked_eq (k:Nat) (hk:9000000000 ≤ k) (n:T_api_Node) (l:List T_api_Step) (w:List Int) (hl:l.length ≤ 600000) (hw:wf n ≤ 300000):change_checked k n l w=some (chk n l w):=by
 have hwt:=wt_wf n
 have hlen:=sel_len (n:=n) (l:=l) (by omega)
 unfold change_checked change_selects chk
 rw [select_eq k hk n l hl (by omega),Option.bind_some]
 by_cases h:(sel n l).2=0
 ·rw [if_pos (by simp [h]),peq_eq k _ _ (by omega) (by omega),Option.bind_some,Option.bind_some]
  by_cases he:(sel n l).1=w
  ·rw [if_neg (by simp [h,he]),Right_eq k n (by omega) (by omega),Option.bind_some,if_pos (show (sel n l).2=0 ∧ (sel n l).1=w from⟨h,he⟩)]
   show (if (!RB n)=true then some 45 else some 0)=_
   cases RB n <;> rfl
  ·rw [if_pos (by simp [he]),if_neg (fun hc => he hc.2)]
 ·rw [if_neg (by simpa using h),Option.bind_some,Option.bind_some,if_pos (by
   have:((sel n l).2 == 0)=false:=by simpa using h
   rw [this]; simp),if_neg (fun hc => h hc.1)]
theorem chk_ok {n:T_api_Node} {l:List T_api_Step} {w:List Int} (h:chk n l w=0):sel n l=(w,0) ∧ RB n=true:=by
 unfold chk at h
 by_cases h1:(sel n l).2=0 ∧ (sel n l).1=w
 ·rw [if_pos h1] at h
  by_cases h2:RB n=true
  ·exact⟨by rw [← h1.2,← h1.1],h2⟩
  ·rw [if_neg h2] at h; cases h
 ·rw [if_neg h1] at h; cases h
theorem zero_mk:(T_api_Node.mk 0 (T_api_Name.mk ([]:Str) ([]:Str)) ([]:List T_api_Attr) ([]:List T_api_Node) ([]:Str))=zeroN:=rfl
end Go.Proofs.Ytafoiodfflcpeaa.Pure
