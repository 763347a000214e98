import Derived.Test.YtjhbedgepfkdbaaPureF
import Derived.Test.YtjhbedgepfkdbaaVxFl
namespace Go.Proofs.Ytjhbedgepfkdbaa.Pure
open Go Go.RowKit Go.Proofs.Vx Go.Proofs.Ytjhbedgepfkdbaa.Sh
mutual
def dep:T_api_Node→Int→Int
 | .mk kd _ _ ks _,a => if kd ≠ 1 ∨ a < 0 then 0 else 1 + depL ks (a - 1)
def depL:List T_api_Node→Int→Int
 | [],_ => 0
 | n :: l,a => max (dep n a) (depL l a)
end
theorem dep_eq (n:T_api_Node) (a:Int):dep n a=if n.Kind ≠ 1 ∨ a < 0 then 0 else 1 + depL n.Kids (a - 1):=by cases n; rw [dep]
theorem kids_wf {n q:T_api_Node} (h:q ∈ n.Kids):wf q + 1 ≤ wf n:=by
 have h1:=wfL_mem h
 have h2:=wf_eq n
 omega
theorem depL_bd {l:List T_api_Node} {a B:Int} (hB:0 ≤ B) (h:∀ q ∈ l,0 ≤ dep q a ∧ dep q a ≤ B):0 ≤ depL l a ∧ depL l a ≤ B:=by
 induction l with
 | nil => rw [depL]; omega
 | cons n l ih =>
  have h1:=h n List.mem_cons_self
  have h2:=ih fun q hq => h q (List.mem_cons_of_mem _ hq)
  rw [depL]; omega
theorem dep_bd:∀ (d:Nat) (n:T_api_Node) (a:Int),wf n ≤ d→-1 ≤ a→0 ≤ dep n a ∧ dep n a ≤ a + 1:=by
 intro d
 induction d with
 | zero => intro n a h; have:=wf_pos n; omega
 | succ d ih =>
  intro n a h ha
  rw [dep_eq]
  by_cases hc:n.Kind ≠ 1 ∨ a < 0
  ·rw [if_pos hc]; omega
  ·rw [if_neg hc]
   have:=depL_bd (l:=n.Kids) (a:=a - 1) (B:=a) (by omega) fun q hq => by
    have h1:=kids_wf hq
    have:=ih q (a - 1) (by omega) (by omega)
    omega
   omega
theorem dep_mem {l:List T_api_Node} {q:T_api_Node} {a:Int} (h:q ∈ l):dep q a ≤ depL l a:=by
 induction l with
 | nil => cases h
 | cons n l ih =>
  rw [depL]
  rcases List.mem_cons.1 h with rfl | h
  ·omega
  ·have:=ih h; omega
theorem deep_l (k:Nat) (self:T_api_Node→Int→Option Int) (a:Int) (ha:0 ≤ a ∧ a ≤ 1000) (y0:Int) (y1 y2:Str) (y3:List T_api_Attr) (l:List T_api_Node) (y5:Str) (h9:l.length ≤ 1000000000) (hs:∀ q ∈ l,self q (a - 1)=some (dep q (a - 1))) (hb:∀ q ∈ l,0 ≤ dep q (a - 1) ∧ dep q (a - 1) ≤ 1000) :
  ∀ (m j:Nat) (x:Int),j ≤ l.length→l.length < j + m→0 ≤ x→x ≤ 1000→watchbillref04_Deep.l0 k self a m y0 y1 y2 y3 l y5 x (j:Int)=some (1 + max x (depL (l.drop j) (a - 1))):=by
 intro m
 induction m with
 | zero => intro j x h1 h2; omega
 | succ m ih =>
  intro j x h1 h2 h3 h4
  unfold watchbillref04_Deep.l0
  by_cases hj:j < l.length
  ·rw [if_pos (by simp; omega),if_pos (by omega),w64 (x:=a - 1) (by omega) (by omega),hs _ (rd_mem hj),Option.bind_some,w64 (x:=(j:Int) + 1) (by omega) (by omega),rd_dropN hj,depL]
   have hq:=hb _ (rd_mem hj)
   have e:(j:Int) + 1=((j + 1:Nat):Int):=by omega
   rw [e]
   by_cases hc:dep (rd l (j:Int)) (a - 1) > x
   ·rw [if_pos (by simpa using hc),ih (j + 1) _ (by omega) (by omega) (by omega) (by omega)]
    congr 1; omega
   ·rw [if_neg (by simpa using hc),ih (j + 1) _ (by omega) (by omega) (by omega) (by omega)]
    congr 1; omega
  ·rw [if_neg (by simp; omega),List.drop_of_length_le (by omega),depL,w64 (x:=x + 1) (by omega) (by omega)]
   congr 1; omega
theorem deep_eq:∀ (d k:Nat) (n:T_api_Node) (a:Int),wf n ≤ d→wf n ≤ 1000000000→wf n + 10 ≤ k→-1 ≤ a→a ≤ 100→watchbillref04_Deep k n a=some (dep n a):=by
 intro d
 induction d with
 | zero => intro k n a h; have:=wf_pos n; omega
 | succ d ih =>
  intro k n a h1 h2 h3 h4 h5
  obtain⟨k,rfl⟩:∃ z,k=z + 1:=⟨k - 1,by omega⟩
  have hlen:=Nat.le_trans (wt_kids n) (wt_wf n)
  rw [watchbillref04_Deep,dep_eq]
  by_cases hc:n.Kind ≠ 1 ∨ a < 0
  ·rw [if_pos (by simpa using hc),if_pos hc]
  ·rw [if_neg (by simpa using hc),if_neg hc]
   have:=deep_l k (watchbillref04_Deep k) a (by omega) n.Kind n.Name.Space n.Name.Local n.Attrs n.Kids n.Text (by omega)
    (fun q hq => by have:=kids_wf hq; exact ih k q (a - 1) (by omega) (by omega) (by omega) (by omega) (by omega))
    (fun q hq => by have:=dep_bd _ q (a - 1) (Nat.le_refl _) (by omega); omega) k 0 0 (by omega) (by omega) (by omega) (by omega)
   rw [List.drop_zero] at this
   have hb:=depL_bd (l:=n.Kids) (a:=a - 1) (B:=a) (by omega) fun q hq => by
    have:=dep_bd _ q (a - 1) (Nat.le_refl _) (by omega)
    omega
   rw [show ((0:Nat):Int)=0 from rfl] at this
   rw [this]
   congr 1; omega
theorem cntL_wfL {l:List T_api_Node} (h:∀ q ∈ l,cnt q ≤ wf q):cntL l ≤ wfL l:=by
 induction l with
 | nil => rw [cntL,wfL]; omega
 | cons n l ih =>
  have h1:=h n List.mem_cons_self
  have h2:=ih fun q hq => h q (List.mem_cons_of_mem _ hq)
  rw [cntL,wfL]; omega
theorem cnt_wf:∀ (d:Nat) (n:T_api_Node),wf n ≤ d→cnt n ≤ wf n:=by
 intro d
 induction d with
 | zero => intro n h; have:=wf_pos n; omega
 | succ d ih =>
  intro n h
  have h1:=cnt_eq n
  have h2:=wf_eq n
  have h3:=cntL_wfL (l:=n.Kids) fun q hq => by have:=kids_wf hq; exact ih q (by omega)
  omega
theorem cost_l (k:Nat) (self:T_api_Node→Option (Nat × Nat)) (l:List T_api_Node) (h9:l.length ≤ 1000000000) (hs:∀ q ∈ l,∃ b,b ≤ wf q ∧ cnt q ≤ wf q ∧ self q=some (N64 (cnt q),N64 b)) :
  ∀ (m j c b:Nat),j ≤ l.length→l.length < j + m→c + wfL (l.drop j) ≤ 4000000000→b + wfL (l.drop j) ≤ 4000000000→∃ b',b' ≤ b + wfL (l.drop j) ∧ tree_Cost.l0 k self l m (j:Int) (N64 c,N64 b)=some (N64 (c + cntL (l.drop j)),N64 b'):=by
 intro m
 induction m with
 | zero => intro j c b h1 h2; omega
 | succ m ih =>
  intro j c b h1 h2 h3 h4
  unfold tree_Cost.l0
  by_cases hj:j < l.length
  ·obtain⟨b1,hb1,hb2,e1⟩:=hs _ (rd_mem hj)
   rw [rd_dropN hj,wfL] at h3 h4
   rw [if_pos (by simp; omega),if_pos (by omega),e1,Option.bind_some]
   have hc:=csum_N c b (cnt (rd l (j:Int))) b1 (by omega) (by omega)
   rw [if_pos (by rw [hc]; rfl),w64 (x:=(j:Int) + 1) (by omega) (by omega),show cadd (N64 c,N64 b) (N64 (cnt (rd l (j:Int))),N64 b1)=(N64 (c + cnt (rd l (j:Int))),N64 (b + b1)) from by unfold cadd; rw [hc]; rfl]
   obtain⟨b',h5,e⟩:=ih (j + 1) (c + cnt (rd l (j:Int))) (b + b1) (by omega) (by omega) (by omega) (by omega)
   refine⟨b',by rw [rd_dropN hj,wfL]; omega,?_⟩
   rw [show (j:Int) + 1=((j + 1:Nat):Int) by omega,e,rd_dropN hj,cntL,Nat.add_assoc]
  ·rw [if_neg (by simp; omega),List.drop_of_length_le (by omega),cntL]
   exact⟨b,by omega,rfl⟩
theorem costA (k:Nat) (self:T_api_Node→Option (Nat × Nat)) (n:T_api_Node) (hw:wf n ≤ 1000000000) (y0:Int) (y1 y2:Str) (y3:List T_api_Attr) (y4:List T_api_Node) (y5:Str) :
  ∀ (m j s:Nat),j ≤ n.Attrs.length→n.Attrs.length < j + m→s + wtA (n.Attrs.drop j) ≤ 1000000000→tree_Cost.l2 k self n m y0 y1 y2 y3 y4 y5 (j:Int) (s:Int)=tree_Cost.j1 k self ((s + wtA (n.Attrs.drop j):Nat):Int) y0 y1 y2 y3 y4 y5:=by
 intro m
 induction m with
 | zero => intro j s h1 h2; omega
 | succ m ih =>
  intro j s h1 h2 h3
  unfold tree_Cost.l2
  have:=wf_eq n
  by_cases hj:j < n.Attrs.length
  ·rw [rd_dropA hj,wtA] at h3
   rw [if_pos (by simp; omega),if_pos (by omega)]
   unfold tree_bytes
   rw [Option.bind_some,w64 (x:=(j:Int) + 1) (by omega) (by omega),w64 (x:=((rd n.Attrs (j:Int)).Name.Space.length:Int) + ((rd n.Attrs (j:Int)).Name.Local.length:Int)) (by omega) (by omega),w64 (x:=((rd n.Attrs (j:Int)).Name.Space.length:Int) + ((rd n.Attrs (j:Int)).Name.Local.length:Int) + ((rd n.Attrs (j:Int)).Value.length:Int)) (by omega) (by omega),w64 (by omega) (by omega),rd_dropA hj,wtA]
   have:=ih (j + 1) (s + ((rd n.Attrs (j:Int)).Name.Space.length + (rd n.Attrs (j:Int)).Name.Local.length + (rd n.Attrs (j:Int)).Value.length)) (by omega) (by omega) (by omega)
   rw [show (j:Int) + 1=((j + 1:Nat):Int) by omega,show (s:Int) + (((rd n.Attrs (j:Int)).Name.Space.length:Int) + ((rd n.Attrs (j:Int)).Name.Local.length:Int) + ((rd n.Attrs (j:Int)).Value.length:Int))=((s + ((rd n.Attrs (j:Int)).Name.Space.length + (rd n.Attrs (j:Int)).Name.Local.length + (rd n.Attrs (j:Int)).Value.length):Nat):Int) by omega,this,Nat.add_assoc]
  ·rw [if_neg (by simp; omega),List.drop_of_length_le (by omega),wtA]; rfl
theorem one_N:4607182418800017408=N64 1:=by kernel_rfl
theorem two_N:4656510908468559872=N64 2000:=by kernel_rfl
theorem cost_eq:∀ (d k:Nat) (n:T_api_Node),wf n ≤ d→wf n ≤ 1000000000→wf n + 10 ≤ k→∃ b,b ≤ wf n ∧ tree_Cost k n=some (N64 (cnt n),N64 b):=by
 intro d
 induction d with
 | zero => intro k n h; have:=wf_pos n; omega
 | succ d ih =>
  intro k n h1 h2 h3
  obtain⟨k,rfl⟩:∃ z,k=z + 1:=⟨k - 1,by omega⟩
  have hlen:=Nat.le_trans (wt_kids n) (wt_wf n)
  have he:=wf_eq n
  have hj:∀ (b:Nat),b + wfL n.Kids ≤ wf n→∃ b',b' ≤ wf n ∧ tree_Cost.j1 k (tree_Cost k) (b:Int) n.Kind n.Name.Space n.Name.Local n.Attrs n.Kids n.Text=some (N64 (cnt n),N64 b'):=by
   intro b hb
   obtain⟨b',h4,e⟩:=cost_l k (tree_Cost k) n.Kids (by omega) (fun q hq => by
    have:=kids_wf hq
    obtain⟨b,h5,e⟩:=ih k q (by omega) (by omega) (by omega)
    exact⟨b,h5,cnt_wf _ q (Nat.le_refl _),e⟩) k 0 1 b (by omega) (by omega) (by rw [List.drop_zero]; omega) (by rw [List.drop_zero]; omega)
   rw [List.drop_zero] at h4 e
   refine⟨b',by omega,?_⟩
   unfold tree_Cost.j1
   rw [cnt_eq n,← e,one_N]; rfl
  rw [tree_Cost]
  have hlA:n.Attrs.length < 0 + k:=by omega
  by_cases hk:n.Kind=1
  ·rw [if_pos (by simp [hk])]
   unfold tree_bytes
   rw [Option.bind_some,w64 (by omega) (by omega)]
   have:=costA k (tree_Cost k) n h2 n.Kind n.Name.Space n.Name.Local n.Attrs n.Kids n.Text k 0 (n.Name.Space.length + n.Name.Local.length) (by omega) hlA (by rw [List.drop_zero]; omega)
   rw [List.drop_zero] at this
   rw [show (n.Name.Space.length:Int) + (n.Name.Local.length:Int)=((n.Name.Space.length + n.Name.Local.length:Nat):Int) by omega]
   rw [show ((0:Nat):Int)=0 from rfl] at this
   rw [this]
   exact hj _ (by omega)
  ·rw [if_neg (by simpa using hk)]
   exact hj _ (by omega)
theorem shp_el {n:T_api_Node} (hk:n.Kind ≠ 2) (dp:Int) (b c:Bool):shp n dp b=shp n dp c:=by rw [shp_eq,shp_eq,if_neg hk,if_neg hk]
theorem shpL_dep {a dp dp':Int}:∀ (l:List T_api_Node) (c:Bool),(∀ q ∈ l,∀ b,shp q dp b=true→shp q dp' b=true)→shpL l dp c=true→shpL l dp' c=true
 | [],_,_,_ => by rw [shpL]
 | n :: l,c,hq,h => by
  rw [shpL,Bool.and_eq_true] at *
  exact⟨hq n List.mem_cons_self c h.1,shpL_dep (a:=a) l _ (fun q hm => hq q (List.mem_cons_of_mem _ hm)) h.2⟩
theorem shp_dep:∀ (d:Nat) (n:T_api_Node) (dp dp' a:Int) (b:Bool),wf n ≤ d→shp n dp b=true→(n.Kind=2 ∨ dep n a ≤ a ∧ dp' + dep n a ≤ 25)→shp n dp' b=true:=by
 intro d
 induction d with
 | zero => intro n _ _ _ _ h; have:=wf_pos n; omega
 | succ d ih =>
  intro n dp dp' a b h1 h ha
  rw [shp_eq] at *
  by_cases hk:n.Kind=2
  ·rw [if_pos hk] at *; exact h
  ·rw [if_neg hk,Bool.and_eq_true,Bool.and_eq_true] at *
   have hx:=h.1.1
   unfold elB at hx
   simp only [Bool.and_eq_true] at hx
   have hk1:n.Kind=1:=by simpa using hx.1.1.1
   rcases ha with ha |⟨ha,hd⟩
   ·exact absurd ha hk
   ·rw [dep_eq] at ha hd
    by_cases h0:a < 0
    ·rw [if_pos (.inr h0)] at ha; omega
    ·rw [if_neg (by intro hc; rcases hc with hc | hc; exact hc hk1; exact h0 hc)] at ha hd
     have hb:=depL_bd (l:=n.Kids) (a:=a - 1) (B:=a) (by omega) fun q hq => by
      have:=dep_bd _ q (a - 1) (Nat.le_refl _) (by omega)
      omega
     refine⟨⟨h.1.1,by simp; omega⟩,shpL_dep (a:=a) _ _ (fun q hq b hs => ?_) h.2⟩
     have hm:=dep_mem (a:=a - 1) hq
     have hw:=kids_wf hq
     exact ih q (dp + 1) (dp' + 1) (a - 1) b (by omega) hs (.inr (by omega))
theorem shpL_set (y:T_api_Node) (dp:Int):∀ (l:List T_api_Node) (j:Nat) (c:Bool) (h:j < l.length),shpL l dp c=true→y.Kind=l[j].Kind→(∀ c,shp l[j] dp c=true→shp y dp c=true)→shpL (l.set j y) dp c=true
 | [],j,_,h,_,_,_ => by simp at h
 | n :: l,0,c,_,h,hy,hs => by
  rw [List.set_cons_zero]
  rw [shpL,Bool.and_eq_true] at *
  exact⟨hs c h.1,by rw [hy]; exact h.2⟩
 | n :: l,j + 1,c,hj,h,hy,hs => by
  rw [List.set_cons_succ]
  rw [shpL,Bool.and_eq_true] at *
  exact⟨h.1,shpL_set y dp l j _ (by simpa using hj) h.2 hy hs⟩
theorem shp_put (x:T_api_Node) (hx:x.Kind=1):∀ (p:List Int) (n:T_api_Node) (dp:Int) (b:Bool),shp n dp b=true→valid p n→(atN p n).Kind=1→shp x (dp + p.length) false=true→shp (put x p n) dp b=true ∧ (put x p n).Kind=n.Kind
 | [],n,dp,b,h,_,hk,hs => by
  refine⟨?_,by show x.Kind=n.Kind; rw [hx]; exact hk.symm⟩
  show shp x dp b=true
  rw [shp_el (by omega) dp b false]
  simpa using hs
 | i :: q,n,dp,b,h,hv,hk,hs => by
  have hj:i.toNat < n.Kids.length:=by have:=hv.1; omega
  have hk2:n.Kind ≠ 2:=fun hk => by
   have:=(shp_nj h).2 (fun h0 => by have:=hv.1; rw [h0] at this; simp at this; omega)
   omega
  have h3:rd n.Kids i=n.Kids[i.toNat]:=by simp [rd,hj]
  refine⟨?_,rfl⟩
  rw [shp_eq] at h ⊢
  rw [if_neg hk2,Bool.and_eq_true,Bool.and_eq_true] at h
  rw [if_neg (show (put x (i :: q) n).Kind ≠ 2 from hk2),Bool.and_eq_true,Bool.and_eq_true]
  refine⟨h.1,?_⟩
  show shpL (n.Kids.set i.toNat (put x q (rd n.Kids i))) (dp + 1) false=true
  have hs':shp x (dp + 1 + (q.length:Int)) false=true:=by
   have e:dp + ((i :: q).length:Int)=dp + 1 + (q.length:Int):=by rw [List.length_cons]; omega
   rw [← e]; exact hs
  obtain⟨c,hc⟩:=shpL_mem _ _ _ h.2 (rd n.Kids i) (by rw [h3]; exact List.getElem_mem hj)
  refine shpL_set _ _ _ _ _ hj h.2 ?_ fun c hc => ?_
  ·rw [← h3]; exact (shp_put x hx q (rd n.Kids i) (dp + 1) c hc hv.2 hk hs').2
  ·rw [← h3] at hc; exact (shp_put x hx q (rd n.Kids i) (dp + 1) c hc hv.2 hk hs').1
theorem wfL_set (r:T_api_Node):∀ (l:List T_api_Node) (i:Nat) (h:i < l.length),wfL (l.set i r) + wf l[i]=wfL l + wf r
 | [],i,h => by simp at h
 | a :: l,0,h => by rw [List.set_cons_zero,wfL,wfL]; show _ + wf a=_; omega
 | a :: l,i + 1,h => by
  have:=wfL_set r l i (by simpa using h)
  rw [List.set_cons_succ,wfL,wfL,List.getElem_cons_succ]
  omega
theorem wf_put (y:T_api_Node):∀ (p:List Int) (n:T_api_Node),valid p n→wf (put y p n) ≤ wf n + wf y
 | [],n,_ => by show wf y ≤ _; omega
 | i :: q,n,hv => by
  have hj:i.toNat < n.Kids.length:=by have:=hv.1; omega
  have h1:=wf_put y q _ hv.2
  have h2:=wfL_set (put y q (rd n.Kids i)) n.Kids i.toNat hj
  have h3:rd n.Kids i=n.Kids[i.toNat]:=by simp [rd,hj]
  rw [← h3] at h2
  have e1:=wf_eq (put y (i :: q) n)
  have e2:=wf_eq n
  have e3:(put y (i :: q) n).Kids=n.Kids.set i.toNat (put y q (rd n.Kids i)):=rfl
  rw [e3] at e1
  have e4:(put y (i :: q) n).Attrs=n.Attrs:=rfl
  have e5:(put y (i :: q) n).Text=n.Text:=rfl
  have e6:(put y (i :: q) n).Name=n.Name:=rfl
  rw [e4] at e1
  simp only [e5,e6] at e1
  omega
theorem rd_set_ne {l:List T_api_Node} {i j:Int} {r:T_api_Node} (hi:0 ≤ i) (hj:0 ≤ j) (h:j ≠ i):rd (l.set i.toNat r) j=rd l j:=by
 have hne:¬ i.toNat=j.toNat:=by omega
 simp only [rd,List.getD_eq_getElem?_getD,List.getElem?_set,if_neg hne]
theorem atS_far (x:T_api_Node):∀ (p o:List Int) (n:T_api_Node),valid p n→¬ (p.length ≤ o.length ∧ o.take p.length=p)→¬ (o.length ≤ p.length ∧ p.take o.length=o)→atS o (put x p n)=atS o n
 | [],o,n,_,h,_ => absurd ⟨Nat.zero_le _,by simp⟩ h
 | i :: p,[],n,_,_,h => absurd ⟨Nat.zero_le _,by simp⟩ h
 | i :: p,j :: o,n,hv,h1,h2 => by
  show (if 0 ≤ j ∧ j < ((n.Kids.set i.toNat (put x p (rd n.Kids i))).length:Int) then atS o (rd (n.Kids.set i.toNat (put x p (rd n.Kids i))) j) else (zeroN,false))=_
  rw [List.length_set,atS]
  by_cases hj:0 ≤ j ∧ j < (n.Kids.length:Int)
  ·rw [if_pos hj,if_pos hj]
   by_cases hij:j=i
   ·subst hij
    rw [rd_setN hv.1]
    refine atS_far x p o _ hv.2 (fun h => h1 ⟨?_,?_⟩) (fun h => h2 ⟨?_,?_⟩)
    ·simpa using h.1
    ·rw [List.length_cons,List.take_succ_cons,h.2]
    ·simpa using h.1
    ·rw [List.length_cons,List.take_succ_cons,h.2]
   ·rw [rd_set_ne hv.1.1 hj.1 hij]
  ·rw [if_neg hj,if_neg hj]
theorem njB_set:∀ (l:List Bool) (i:Nat),njB l=true→njB (l.set i false)=true
 | [],_,_ => rfl
 | a :: l,0,h => njB_false (njB_cons h)
 | [a],i + 1,_ => rfl
 | a :: b :: l,1,h => by
  show njB (a :: false :: l)=true
  rw [njB,njB_false (njB_cons (njB_cons h))]; simp
 | a :: b :: l,i + 2,h => by
  have:=njB_set (b :: l) (i + 1) (njB_cons h)
  rw [njB,Bool.and_eq_true] at h
  show njB (a :: b :: l.set i false)=true
  rw [njB,h.1]
  exact this
theorem nj_set2 {l:List T_api_Node} {x:T_api_Node} (i:Nat) (h:nj l=true) (hx:x.Kind=1):nj (l.set i x)=true:=by
 unfold nj at *
 have hx2:isT x=false:=by simp [isT,hx]
 rw [List.map_set,hx2]
 exact njB_set _ i h
theorem replace_some (k:Nat) (n x:T_api_Node) (p:List Int) (hw:wt n ≤ 100000000) (hx:wt x ≤ 100000000) (h9:p.length ≤ 100000000) (hR:RtN n) (hx1:x.Kind=1):∃ z,path_Replace k n x p=some z:=by
 rcases List.eq_nil_or_concat p with rfl |⟨q,i,rfl⟩
 ·exact⟨_,replace_nil k n x (by omega) (by omega)⟩
 ·rw [List.concat_eq_append] at *
  by_cases hq:valid q n
  ·unfold path_Replace
   have hlen:=wt_kids (atN q n)
   have hww:=atN_wt q n hq
   rw [if_pos ⟨by omega,by omega,by omega⟩,if_neg (by simp),rd_last,List.dropLast_concat]
   by_cases hi:0 ≤ i ∧ i < ((atN q n).Kids.length:Int)
   ·have hF:repF i x (atN q n).Kids=some ((atN q n).Kids.set i.toNat x):=by unfold repF; rw [if_pos hi]
    by_cases hk:(atN q n).Kind=1
    ·exact⟨_,chg_T _ q n _ hq (kidsG_T hF hk (by simp; omega) (nj_set2 _ (hR q hq).1 hx1))⟩
    ·obtain⟨z,e⟩:=chg_F _ q n _ hq (kidsG_K hF hk)
     exact⟨_,e⟩
   ·have hF:repF i x (atN q n).Kids=none:=by unfold repF; rw [if_neg hi]
    obtain⟨z,e⟩:=chg_F _ q n _ hq (kidsG_N hF)
    exact⟨_,e⟩
  ·unfold path_Replace
   rw [if_pos ⟨by omega,by omega,by omega⟩,if_neg (by simp),rd_last,List.dropLast_concat]
   exact⟨_,chg_not _ q n hq⟩
end Go.Proofs.Ytjhbedgepfkdbaa.Pure
