import Derived.Test.YtjhbedgepfkdbaaSh
import Derived.Test.YtjhbedgepfkdbaaVxP
namespace Go.Proofs.Ytjhbedgepfkdbaa.Pure
open Go Go.RowKit Go.Proofs.Vx Go.Proofs.Ytjhbedgepfkdbaa.Sh
theorem wi {i:Nat} (h:i ≤ 9000000000000):IntKind.i64.wrap ((i:Int) + 1)=((i + 1:Nat):Int):=by rw [w64 (by omega) (by omega)]; omega
def wtA:List T_api_Attr→Nat
 | [] => 0
 | a :: l => a.Name.Space.length + a.Name.Local.length + a.Value.length + wtA l
mutual
def wt:T_api_Node→Nat
 | .mk _ nm ats ks tx => 1 + tx.length + nm.Space.length + nm.Local.length + ats.length + wtL ks
def wtL:List T_api_Node→Nat
 | [] => 0
 | n :: l => wt n + wtL l
end
theorem wt_eq (n:T_api_Node):wt n=1 + n.Text.length + n.Name.Space.length + n.Name.Local.length + n.Attrs.length + wtL n.Kids:=by cases n; rw [wt]
theorem wt_pos (n:T_api_Node):1 ≤ wt n:=by rw [wt_eq]; omega
theorem wtL_len (l:List T_api_Node):l.length ≤ wtL l:=by
 induction l with
 | nil => rw [wtL]; exact Nat.le_refl _
 | cons n l ih => rw [wtL]; have:=wt_pos n; simp; omega
theorem wtL_mem {l:List T_api_Node} {n:T_api_Node} (h:n ∈ l):wt n ≤ wtL l:=by
 induction l with
 | nil => cases h
 | cons m l ih =>
  rw [wtL]
  rcases List.mem_cons.1 h with rfl | h
  ·omega
  ·have:=ih h; omega
theorem kid_lt {n m:T_api_Node} (h:m ∈ n.Kids):wt m < wt n:=by have:=wtL_mem h; rw [wt_eq n]; omega
theorem mcap (a b:Int) (ha:0 ≤ a) (hb:0 ≤ b):0 ≤ (if a < b then a else b) ∧ (if a < b then a else b) ≤ a ∧ ((if a < b then a else b) < a→(if a < b then a else b)=b) ∧ ((if a < b then a else b) ≤ b):=by
 split <;> omega
mutual
def wf:T_api_Node→Nat
 | .mk _ nm ats ks tx => 1 + tx.length + nm.Space.length + nm.Local.length + ats.length + wtA ats + wfL ks
def wfL:List T_api_Node→Nat
 | [] => 0
 | n :: l => wf n + wfL l
end
theorem wf_eq (n:T_api_Node):wf n=1 + n.Text.length + n.Name.Space.length + n.Name.Local.length + n.Attrs.length + wtA n.Attrs + wfL n.Kids:=by cases n; rw [wf]
theorem wf_pos (n:T_api_Node):1 ≤ wf n:=by rw [wf_eq]; omega
theorem wfL_mem {l:List T_api_Node} {n:T_api_Node} (h:n ∈ l):wf n ≤ wfL l:=by
 induction l with
 | nil => cases h
 | cons m l ih =>
  rw [wfL]
  rcases List.mem_cons.1 h with rfl | h
  ·omega
  ·have:=ih h; omega
theorem kid_ltf {n m:T_api_Node} (h:m ∈ n.Kids):wf m < wf n:=by have:=wfL_mem h; rw [wf_eq n]; omega
mutual
theorem wt_wf:∀ n:T_api_Node,wt n ≤ wf n
 | .mk a b c ks f => by have:=wtL_wfL ks; rw [wt,wf]; omega
theorem wtL_wfL:∀ l:List T_api_Node,wtL l ≤ wfL l
 | [] => by rw [wtL,wfL]; exact Nat.le_refl _
 | n :: l => by have:=wt_wf n; have:=wtL_wfL l; rw [wtL,wfL]; omega
end
theorem weighA (k:Nat) (self:T_api_Node→Int→Option Int) (q:Nat) (hq:q ≤ 30000) (a b c f:_) (ats:List T_api_Attr) (ks:List T_api_Node) (hat:ats.length ≤ q):∀ (m i w:Nat),i ≤ ats.length→ats.length < i + m→1 ≤ w→w ≤ 4 * q + 1→
  ∃ w',w ≤ w' ∧ w' ≤ 4 * q + 1 ∧ (w' ≤ q→w'=w + wtA (ats.drop i)) ∧ watchbilllaw04_weigh.l0 k self (q:Int) m a b c ats ks f (w:Int) (i:Int)=watchbilllaw04_weigh.l1 k self (q:Int) k a b c ats ks f (w':Int) 0:=by
 intro m
 induction m with
 | zero => intro i w h1 h2; omega
 | succ m ih =>
  intro i w h1 h2 h0 h3
  unfold watchbilllaw04_weigh.l0
  by_cases hi:i < ats.length ∧ w ≤ q
  ·rw [if_pos (by simp; omega),if_pos (by omega),if_pos (by omega),if_pos (by omega),wi (by omega)]
   have hd:=rd_drop hi.1
   have c1:=mcap q ((rd ats (i:Int)).Name.Space.length:Int) (by omega) (by omega)
   have c2:=mcap q ((rd ats (i:Int)).Name.Local.length:Int) (by omega) (by omega)
   have c3:=mcap q ((rd ats (i:Int)).Value.length:Int) (by omega) (by omega)
   have hw:wtA (ats.drop i)=(rd ats (i:Int)).Name.Space.length + (rd ats (i:Int)).Name.Local.length + (rd ats (i:Int)).Value.length + wtA (ats.drop (i + 1)):=by rw [hd,wtA]
   generalize (rd ats (i:Int)).Name.Space.length=l1 at *
   generalize (rd ats (i:Int)).Name.Local.length=l2 at *
   generalize (rd ats (i:Int)).Value.length=l3 at *
   generalize (if (q:Int) < (l1:Int) then (q:Int) else (l1:Int))=x1 at *
   generalize (if (q:Int) < (l2:Int) then (q:Int) else (l2:Int))=x2 at *
   generalize (if (q:Int) < (l3:Int) then (q:Int) else (l3:Int))=x3 at *
   rw [w64 (x:=(w:Int) + x1) (by omega) (by omega),w64 (x:=(w:Int) + x1 + x2) (by omega) (by omega),w64 (x:=(w:Int) + x1 + x2 + x3) (by omega) (by omega)]
   obtain⟨v,hv⟩:=Int.eq_ofNat_of_zero_le (show 0 ≤ (w:Int) + x1 + x2 + x3 by omega)
   rw [hv]
   obtain⟨w',g1,g2,g3,g4⟩:=ih (i + 1) v (by omega) (by omega) (by omega) (by omega)
   refine⟨w',by omega,g2,fun h => ?_,g4⟩
   have:=g3 h
   omega
  ·rw [if_neg (by simp; omega)]
   refine⟨w,Nat.le_refl _,h3,fun h => ?_,rfl⟩
   have:i=ats.length:=by omega
   rw [this,List.drop_length]; rfl
theorem weighK (k:Nat) (self:T_api_Node→Int→Option Int) (q:Nat) (hq:q ≤ 30000) (a b c f:_) (ats:List T_api_Attr) (ks:List T_api_Node)
  (hself:∀ (n:T_api_Node) (p:Nat),p < q→∃ w:Nat,self n (p:Int)=some (w:Int) ∧ 1 ≤ w ∧ w ≤ 8 * p + 1 ∧ (w ≤ p→wf n ≤ w)):∀ (m i w:Nat),8 * q + 3 ≤ w + m→i ≤ ks.length→1 ≤ w→w ≤ 8 * q + 1→i ≤ w→
  ∃ w',w ≤ w' ∧ w' ≤ 8 * q + 1 ∧ (w' ≤ q→w + wfL (ks.drop i) ≤ w') ∧ watchbilllaw04_weigh.l1 k self (q:Int) m a b c ats ks f (w:Int) (i:Int)=some (w':Int):=by
 intro m
 induction m with
 | zero =>
  intro i w h1 h2 h3 h4
  omega
 | succ m ih =>
  intro i w h1 h2 h3 h4 h5
  unfold watchbilllaw04_weigh.l1
  by_cases hi:i < ks.length ∧ w ≤ q
  ·rw [if_pos (by simp; omega),if_pos (by omega),wi (by omega)]
   have e:IntKind.i64.wrap ((q:Int) - (w:Int))=((q - w:Nat):Int):=by rw [w64 (by omega) (by omega)]; omega
   obtain⟨t,ht,t1,t2,t3⟩:=hself (rd ks (i:Int)) (q - w) (by omega)
   have e2:IntKind.i64.wrap ((w:Int) + (t:Int))=((w + t:Nat):Int):=by rw [w64 (by omega) (by omega)]; omega
   rw [e,ht,Option.bind_some,e2]
   obtain⟨w',g1,g2,g3,g4⟩:=ih (i + 1) (w + t) (by omega) (by omega) (by omega) (by omega) (by omega)
   refine⟨w',by omega,g2,fun h => ?_,g4⟩
   have:=g3 h
   have:=t3 (by omega)
   rw [rd_drop hi.1,wfL]
   omega
  ·rw [if_neg (by simp; omega)]
   refine⟨w,Nat.le_refl _,h4,fun h => ?_,rfl⟩
   have:i=ks.length:=by omega
   rw [this,List.drop_length,wfL]; omega
theorem weigh_eq:∀ (d q k:Nat) (n:T_api_Node),q ≤ d→q ≤ 30000→q + 240010 ≤ k→∃ w:Nat,watchbilllaw04_weigh k n (q:Int)=some (w:Int) ∧ 1 ≤ w ∧ w ≤ 8 * q + 1 ∧ (w ≤ q→wf n ≤ w):=by
 have main:∀ (q k:Nat) (n:T_api_Node),q ≤ 30000→q + 240010 ≤ k + 1→(∀ (n:T_api_Node) (p:Nat),p < q→∃ w:Nat,watchbilllaw04_weigh k n (p:Int)=some (w:Int) ∧ 1 ≤ w ∧ w ≤ 8 * p + 1 ∧ (w ≤ p→wf n ≤ w))→
   ∃ w:Nat,watchbilllaw04_weigh (k + 1) n (q:Int)=some (w:Int) ∧ 1 ≤ w ∧ w ≤ 8 * q + 1 ∧ (w ≤ q→wf n ≤ w):=by
  intro q k n hq hk hself
  rw [watchbilllaw04_weigh,wf_eq]
  have c1:=mcap q (n.Text.length:Int) (by omega) (by omega)
  have c2:=mcap q (n.Name.Space.length:Int) (by omega) (by omega)
  have c3:=mcap q (n.Name.Local.length:Int) (by omega) (by omega)
  have c4:=mcap q (n.Attrs.length:Int) (by omega) (by omega)
  generalize (if (q:Int) < (n.Text.length:Int) then (q:Int) else (n.Text.length:Int))=x1 at *
  generalize (if (q:Int) < (n.Name.Space.length:Int) then (q:Int) else (n.Name.Space.length:Int))=x2 at *
  generalize (if (q:Int) < (n.Name.Local.length:Int) then (q:Int) else (n.Name.Local.length:Int))=x3 at *
  generalize (if (q:Int) < (n.Attrs.length:Int) then (q:Int) else (n.Attrs.length:Int))=x4 at *
  rw [w64 (x:=1 + x1) (by omega) (by omega),w64 (x:=1 + x1 + x2) (by omega) (by omega),w64 (x:=1 + x1 + x2 + x3) (by omega) (by omega),w64 (x:=1 + x1 + x2 + x3 + x4) (by omega) (by omega)]
  obtain⟨v,hv⟩:=Int.eq_ofNat_of_zero_le (show 0 ≤ 1 + x1 + x2 + x3 + x4 by omega)
  rw [hv]
  by_cases hat:n.Attrs.length ≤ q
  ·obtain⟨w1,a1,a2,a3,a4⟩:=weighA k (watchbilllaw04_weigh k) q hq n.Kind n.Name.Space n.Name.Local n.Text n.Attrs n.Kids hat k 0 v (by omega) (by omega) (by omega) (by omega)
   obtain⟨w2,b1,b2,b3,b4⟩:=weighK k (watchbilllaw04_weigh k) q hq n.Kind n.Name.Space n.Name.Local n.Text n.Attrs n.Kids hself k 0 w1 (by omega) (by omega) (by omega) (by omega) (by omega)
   refine⟨w2,a4.trans b4,by omega,b2,fun h => ?_⟩
   have:=b3 h
   have:=a3 (by omega)
   simp only [List.drop_zero] at *
   omega
  ·obtain⟨k,rfl⟩:∃ z,k=z + 1:=⟨k - 1,by omega⟩
   refine⟨v,?_,by omega,by omega,fun h => by omega⟩
   unfold watchbilllaw04_weigh.l0
   rw [if_neg (by simp; omega)]
   unfold watchbilllaw04_weigh.l1
   rw [if_neg (by simp; omega)]
 intro d
 induction d with
 | zero =>
  intro q k n hq hd hk
  obtain⟨k,rfl⟩:∃ z,k=z + 1:=⟨k - 1,by omega⟩
  exact main q k n hd hk (fun n p hp => by omega)
 | succ d ih =>
  intro q k n hq hd hk
  obtain⟨k,rfl⟩:∃ z,k=z + 1:=⟨k - 1,by omega⟩
  exact main q k n hd hk (fun n p hp => ih p k n (by omega) (by omega) (by omega))
theorem copy_0 (k:Nat) (self:T_api_Node→Option T_api_Node) (ks:List T_api_Node) (h9:ks.length ≤ 2000000000) (hself:∀ q ∈ ks,self q=some q) (a b c d f:_):∀ (m i:Nat) (a1:Int) (b1 c1:Str) (d1:List T_api_Attr) (e1:List T_api_Node) (f1:Str),i ≤ ks.length→ks.length < i + m→
  tree_Copy.l0 k self ks m a b c d f a1 b1 c1 d1 e1 f1 ks (i:Int)=some (T_api_Node.mk a (T_api_Name.mk b c) d ks f):=by
 intro m
 induction m with
 | zero => intro i a1 b1 c1 d1 e1 f1 h1 h2; omega
 | succ m ih =>
  intro i a1 b1 c1 d1 e1 f1 h1 h2
  unfold tree_Copy.l0
  by_cases hi:i < ks.length
  ·have hm:rd ks (i:Int) ∈ ks:=by simp [rd,hi]
   have hset:ks.set i (rd ks (i:Int))=ks:=by
    have:rd ks (i:Int)=ks[i]:=by simp [rd,hi]
    rw [this,List.set_getElem_self]
   rw [if_pos (by simp; omega),if_pos (by omega),hself _ hm,Option.bind_some,if_pos (by omega),Int.toNat_natCast,hset,wi (by omega)]
   exact ih (i + 1) a1 b1 c1 d1 e1 f1 (by omega) (by omega)
  ·rw [if_neg (by simp; omega)]
theorem copy_eq:∀ (d k:Nat) (n:T_api_Node),wt n ≤ d→wt n ≤ 1000000000→wt n + 3000000010 ≤ k→tree_Copy k n=some n:=by
 intro d
 induction d with
 | zero => intro k n h1 h2; have:=wt_pos n; omega
 | succ d ih =>
  intro k n h1 h2 h3
  obtain⟨k,rfl⟩:∃ z,k=z + 1:=⟨k - 1,by omega⟩
  have hw:=wt_eq n
  have hl:=wtL_len n.Kids
  have c1:slices_Clone_45 n.Attrs=some n.Attrs:=by
   have:(([]:List T_api_Attr).length + n.Attrs.length) * 48 ≤ 140737488355328:=by rw [List.length_nil]; omega
   unfold slices_Clone_45; rw [if_pos this,List.nil_append]
  have c2:slices_Clone_46_o n.Kids=some n.Kids:=by
   have:(([]:List T_api_Node).length + n.Kids.length) * 104 ≤ 140737488355328:=by rw [List.length_nil]; omega
   unfold slices_Clone_46_o; rw [if_pos this,List.nil_append]
  rw [tree_Copy,c1,c2,Option.bind_some,Option.bind_some]
  have:=copy_0 k (tree_Copy k) n.Kids (by omega) (fun q hq => ih k q (by have:=kid_lt hq; omega) (by have:=kid_lt hq; omega) (by have:=kid_lt hq; omega)) n.Kind n.Name.Space n.Name.Local n.Attrs n.Text k 0 0 ([]:Str) ([]:Str) ([]:List T_api_Attr) ([]:List T_api_Node) ([]:Str) (by omega) (by omega)
  rw [show ((0:Nat):Int)=0 from rfl] at this
  rw [this]
  cases n; rfl
theorem rd_mem {α:Type} [Inhabited α] {l:List α} {i:Nat} (h:i < l.length):rd l (i:Int) ∈ l:=by
 have:rd l (i:Int)=l[i]:=by simp [rd,h]
 rw [this]; exact List.getElem_mem h
theorem wt_kids (n:T_api_Node):n.Kids.length ≤ wt n:=by have:=wtL_len n.Kids; rw [wt_eq]; omega
theorem wt_attrs (n:T_api_Node):n.Attrs.length ≤ wt n:=by rw [wt_eq]; omega
theorem tsame_l1 (k:Nat) (c0:Int→Str→Str→List T_api_Attr→List T_api_Node→Str→Int→Str→Str→List T_api_Attr→List T_api_Node→Str→Int→Option Bool) (a:Nat) (n0:Int) (n1 n2:Str) (ats:List T_api_Attr) (ks:List T_api_Node) (n5:Str) (ha:a < ats.length) (h9:ats.length ≤ 2000000000):∀ (m j c:Nat),j ≤ ats.length→ats.length < j + m→c ≤ j→
  watchbillref04_Same.l1 k c0 (a:Int) m n0 n1 n2 ats ks n5 n0 n1 n2 ats ks n5 (c:Int) (c:Int) (j:Int)=c0 n0 n1 n2 ats ks n5 n0 n1 n2 ats ks n5 ((a + 1:Nat):Int):=by
 intro m
 induction m with
 | zero => intro j c h1 h2; omega
 | succ m ih =>
  intro j c h1 h2 h3
  unfold watchbillref04_Same.l1
  by_cases hj:j < ats.length
  ·generalize hb:((rd ats (j:Int)).Name.Space == (rd ats (a:Int)).Name.Space && ((rd ats (j:Int)).Name.Local == (rd ats (a:Int)).Name.Local && ((rd ats (j:Int)).Value == (rd ats (a:Int)).Value && true)))=b
   have hj2:∀ x6,watchbillref04_Same.j2 (watchbillref04_Same.l1 k c0 (a:Int) m) (a:Int) n0 n1 n2 ats ks n5 n0 n1 n2 ats ks n5 (c:Int) (j:Int) x6=if b=true then watchbillref04_Same.l1 k c0 (a:Int) m n0 n1 n2 ats ks n5 n0 n1 n2 ats ks n5 x6 ((c + 1:Nat):Int) ((j + 1:Nat):Int) else watchbillref04_Same.l1 k c0 (a:Int) m n0 n1 n2 ats ks n5 n0 n1 n2 ats ks n5 x6 (c:Int) ((j + 1:Nat):Int):=by
    intro x6
    unfold watchbillref04_Same.j2
    rw [if_pos (by omega),if_pos (by omega),hb,wi (i:=j) (by omega),wi (i:=c) (by omega)]
   rw [if_pos (by simp; omega),if_pos (by omega),if_pos (by omega),hj2,hj2,wi (i:=c) (by omega)]
   cases b with
   | true => rw [if_pos rfl,if_pos rfl]; exact ih (j + 1) (c + 1) (by omega) (by omega) (by omega)
   | false => rw [if_neg (by simp),if_neg (by simp)]; exact ih (j + 1) c (by omega) (by omega) (by omega)
  ·rw [if_neg (by simp; omega),if_neg (by simp),wi (by omega)]
theorem tsame_l3 (k:Nat) (self:T_api_Node→T_api_Node→Option Bool) (n0:Int) (n1 n2:Str) (ats:List T_api_Attr) (ks:List T_api_Node) (n5:Str) (hl:∀ q ∈ ks,self q q=some true) (h9:ks.length ≤ 2000000000):∀ (m j:Nat),j ≤ ks.length→ks.length < j + m→
  watchbillref04_Same.l3 k self m n0 n1 n2 ats ks n5 n0 n1 n2 ats ks n5 (j:Int)=some true:=by
 intro m
 induction m with
 | zero => intro j h1 h2; omega
 | succ m ih =>
  intro j h1 h2
  unfold watchbillref04_Same.l3
  by_cases hj:j < ks.length
  ·rw [if_pos (by simp; omega),if_pos (by omega),if_pos (by omega),hl _ (rd_mem hj),Option.bind_some,if_neg (by simp),wi (by omega)]
   exact ih (j + 1) (by omega) (by omega)
  ·rw [if_neg (by simp; omega)]
theorem tsame_l0 (k:Nat) (hk:3000000000 ≤ k) (self:T_api_Node→T_api_Node→Option Bool) (n0:Int) (n1 n2:Str) (ats:List T_api_Attr) (ks:List T_api_Node) (n5:Str) (hl:∀ q ∈ ks,self q q=some true) (h9:ks.length ≤ 2000000000) (h8:ats.length ≤ 2000000000):∀ (m a:Nat),a ≤ ats.length→ats.length < a + m→
  watchbillref04_Same.l0 k self m n0 n1 n2 ats ks n5 n0 n1 n2 ats ks n5 (a:Int)=some true:=by
 intro m
 induction m with
 | zero => intro a h1 h2; omega
 | succ m ih =>
  intro a h1 h2
  unfold watchbillref04_Same.l0
  by_cases ha:a < ats.length
  ·rw [if_pos (by simp; omega)]
   have:=tsame_l1 k (watchbillref04_Same.l0 k self m) a n0 n1 n2 ats ks n5 ha h8 k 0 0 (by omega) (by omega) (by omega)
   refine Eq.trans this ?_
   exact ih (a + 1) (by omega) (by omega)
  ·rw [if_neg (by simp; omega)]
   exact tsame_l3 k self n0 n1 n2 ats ks n5 hl h9 k 0 (by omega) (by omega)
theorem tsame_eq:∀ (d k:Nat) (n:T_api_Node),wt n ≤ d→wt n ≤ 1000000000→wt n + 3000000010 ≤ k→watchbillref04_Same k n n=some true:=by
 intro d
 induction d with
 | zero => intro k n h1 h2; have:=wt_pos n; omega
 | succ d ih =>
  intro k n h1 h2 h3
  obtain⟨k,rfl⟩:∃ z,k=z + 1:=⟨k - 1,by omega⟩
  have hlen:=wt_kids n
  have hat:=wt_attrs n
  rw [watchbillref04_Same,if_neg (by simp)]
  exact tsame_l0 k (by omega) (watchbillref04_Same k) n.Kind n.Name.Space n.Name.Local n.Attrs n.Kids n.Text (fun q hq => by have:=kid_lt hq; exact ih k q (by omega) (by omega) (by omega)) (by omega) (by omega) k 0 (by omega) (by omega)
theorem asame_l (k:Nat) (a:List T_api_Attr) (h9:a.length ≤ 2000000000):∀ (m i:Nat),i ≤ a.length→a.length < i + m→watchbillref02_Same.l0 k a a m (i:Int)=some true:=by
 intro m
 induction m with
 | zero => intro i h1 h2; omega
 | succ m ih =>
  intro i h1 h2
  unfold watchbillref02_Same.l0
  by_cases hi:i < a.length
  ·rw [if_pos (by simp; omega),if_pos (by omega),if_pos (by omega),wi (by omega),if_neg (by simp)]
   exact ih (i + 1) (by omega) (by omega)
  ·rw [if_neg (by simp; omega)]
theorem teq_l (k:Nat) (self:T_api_Node→T_api_Node→Option Bool) (n0:Int) (n1 n2:Str) (ats:List T_api_Attr) (ks:List T_api_Node) (n5:Str) (hl:∀ q ∈ ks,self q q=some true) (h9:ks.length ≤ 2000000000):∀ (m j:Nat),j ≤ ks.length→ks.length < j + m→
  watchbillref04_Equal.l0 k self m n0 n1 n2 ats ks n5 n0 n1 n2 ats ks n5 (j:Int)=some true:=by
 intro m
 induction m with
 | zero => intro j h1 h2; omega
 | succ m ih =>
  intro j h1 h2
  unfold watchbillref04_Equal.l0
  by_cases hj:j < ks.length
  ·rw [if_pos (by simp; omega),if_pos (by omega),if_pos (by omega),hl _ (rd_mem hj),Option.bind_some,if_neg (by simp),wi (by omega)]
   exact ih (j + 1) (by omega) (by omega)
  ·rw [if_neg (by simp; omega)]
theorem teq_eq:∀ (d k:Nat) (n:T_api_Node),wt n ≤ d→wt n ≤ 1000000000→wt n + 3000000020 ≤ k→watchbillref04_Equal k n n=some true:=by
 intro d
 induction d with
 | zero => intro k n h1 h2; have:=wt_pos n; omega
 | succ d ih =>
  intro k n h1 h2 h3
  obtain⟨k,rfl⟩:∃ z,k=z + 1:=⟨k - 1,by omega⟩
  have hlen:=wt_kids n
  have hat:=wt_attrs n
  have ha:watchbillref02_Same k n.Attrs n.Attrs=some true:=by
   unfold watchbillref02_Same
   rw [if_neg (by simp)]
   exact asame_l k n.Attrs (by omega) k 0 (by omega) (by omega)
  rw [watchbillref04_Equal,tsame_eq (wt n) k n (Nat.le_refl _) (by omega) (by omega),Option.bind_some,ha,if_pos (by simp),Option.bind_some,if_neg (by simp)]
  exact teq_l k (watchbillref04_Equal k) n.Kind n.Name.Space n.Name.Local n.Attrs n.Kids n.Text (fun q hq => by have:=kid_lt hq; exact ih k q (by omega) (by omega) (by omega)) (by omega) k 0 (by omega) (by omega)
end Go.Proofs.Ytjhbedgepfkdbaa.Pure
