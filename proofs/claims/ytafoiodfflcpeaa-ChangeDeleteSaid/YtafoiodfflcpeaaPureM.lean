import Derived.Test.YtafoiodfflcpeaaPureF
namespace Go.Proofs.Ytafoiodfflcpeaa.Pure
open Go Go.RowKit Go.Proofs.Vx Go.Proofs.Ytafoiodfflcpeaa.Sh
def named (n:T_api_Node) (s:T_api_Step):Bool:=(n.Kind == 1) && (s.Any || (n.Name.Space == s.Name.Space && (n.Name.Local == s.Name.Local && true)))
def tested (n:T_api_Node) (s:T_api_Step):Bool:=!s.By || ((getS n.Attrs s.Attr.Space s.Attr.Local).2 && ((getS n.Attrs s.Attr.Space s.Attr.Local).1 == s.Value))
def fit (n:T_api_Node) (s:T_api_Step) (pos:Nat):Bool:=named n s && (((s.Pos == 0) || (s.Pos == ((pos + 1:Nat):Int))) && tested n s)
def nums:List T_api_Node→T_api_Step→Nat→Nat→List Int
 | [],_,_,_ => []
 | n :: l,s,i,pos => if named n s then (if fit n s pos then (i:Int) :: nums l s (i + 1) (pos + 1) else nums l s (i + 1) (pos + 1)) else nums l s (i + 1) pos
def bnd (l:List T_api_Node):Prop:=l.length ≤ 600000 ∧ ∀ n ∈ l,n.Attrs.length ≤ 900000
theorem tested_eq (k:Nat) (n:T_api_Node) (s:T_api_Step) (h9:n.Attrs.length ≤ 900000) (hk:900000 < k):match_tested k n s=some (tested n s):=by
 unfold match_tested tested
 rw [get_eq k n s.Attr (by omega) (by omega)]
 cases s.By <;> simp
theorem nums_len:∀ (l:List T_api_Node) (s:T_api_Step) (i pos:Nat),(nums l s i pos).length ≤ l.length
 | [],_,_,_ => by simp [nums]
 | n :: l,s,i,pos => by
  rw [nums]
  have h1:=nums_len l s (i + 1) (pos + 1)
  have h2:=nums_len l s (i + 1) pos
  split
  ·split <;> simp <;> omega
  ·simp; omega
theorem numbers_l (k:Nat) (hk:900000 < k) (l:List T_api_Node) (s:T_api_Step) (hb:bnd l):∀ (m i pos:Nat) (y:List Int),i ≤ l.length→l.length < i + m→pos ≤ i→y.length ≤ i→
  match_numbers.l0 k l m s.Kind s.Any s.Name.Space s.Name.Local s.Pos s.By s.Attr.Space s.Attr.Local s.Value y (i:Int) (pos:Int)=some (y ++ nums (l.drop i) s i pos):=by
 intro m
 induction m with
 | zero => intro i pos y h1 h2; omega
 | succ m ih =>
  intro i pos y h1 h2 h3 h4
  have hb1:=hb.1
  unfold match_numbers.l0
  by_cases hi:i < l.length
  ·have hmem:rd l (i:Int) ∈ l:=by simp [rd,hi]
   have hs:(T_api_Step.mk s.Kind s.Any (T_api_Name.mk s.Name.Space s.Name.Local) s.Pos s.By (T_api_Name.mk s.Attr.Space s.Attr.Local) s.Value)=s:=rfl
   have hn:match_named (rd l (i:Int)) s=some (named (rd l (i:Int)) s):=rfl
   rw [if_pos (by simp; omega),if_pos (by omega),hs,hn,Option.bind_some,wi (by omega),wi (i:=pos) (by omega),tested_eq k _ s (hb.2 _ hmem) hk,rd_drop hi]
   rw [nums]
   cases hnm:named (rd l (i:Int)) s with
   | false =>
    rw [if_pos (by rfl),if_neg (by simp)]
    exact ih (i + 1) pos y (by omega) (by omega) (by omega) (by omega)
   | true =>
    rw [if_neg (by simp),if_pos rfl]
    unfold fit
    rw [hnm,Bool.true_and]
    generalize ((s.Pos == 0) || (s.Pos == ((pos + 1:Nat):Int)))=c
    have hbig:(y.length + ([(i:Int)]:List Int).length) * 8 ≤ 140737488355328:=by simp; omega
    cases c
    ·simp
     exact ih (i + 1) (pos + 1) y (by omega) (by omega) (by omega) (by omega)
    ·cases ht:tested (rd l (i:Int)) s
     ·simp
      exact ih (i + 1) (pos + 1) y (by omega) (by omega) (by omega) (by omega)
     ·simp only [beq_self_eq_true,if_true,Option.bind_some,Bool.and_self]
      rw [if_pos hbig,ih (i + 1) (pos + 1) (y ++ [(i:Int)]) (by omega) (by omega) (by omega) (by simp; omega)]
      simp
  ·rw [if_neg (by simp; omega),List.drop_of_length_le (by omega),nums,List.append_nil]
theorem numbers_eq (k:Nat) (hk:900000 < k) (l:List T_api_Node) (s:T_api_Step) (hb:bnd l):match_numbers k l s=some (nums l s 0 0):=by
 have hb1:=hb.1
 have:=numbers_l k (by omega) l s hb k 0 0 [] (by omega) (by omega) (by omega) (by simp)
 simpa [match_numbers] using this
theorem idxf_l (k:Nat) (l:List T_api_Step) (h9:l.length ≤ 600000):∀ (m i:Nat),i ≤ l.length→l.length < i + m→∃ r,slices_IndexFunc_76.l0 k l m (i:Int)=some r ∧ decide (r ≥ 0)=(l.drop i).any fun s => s.Kind != 1:=by
 intro m
 induction m with
 | zero => intro i h1 h2; omega
 | succ m ih =>
  intro i h1 h2
  unfold slices_IndexFunc_76.l0
  by_cases hi:i < l.length
  ·rw [if_pos (by simp; omega),if_pos (by omega),wi (by omega),rd_drop hi,List.any_cons]
   unfold match_names_1
   rw [Option.bind_some]
   cases hc:((rd l (i:Int)).Kind != 1) with
   | true => rw [if_pos rfl]; exact⟨_,rfl,by simp⟩
   | false => rw [if_neg (by simp)]; simpa using ih (i + 1) (by omega) (by omega)
  ·rw [if_neg (by simp; omega),List.drop_of_length_le (by omega)]; exact⟨_,rfl,rfl⟩
theorem names_eq (k:Nat) (l:List T_api_Step) (h9:l.length ≤ 600000) (hk:l.length < k):match_names k l=some (!(l.any fun s => s.Kind != 1)):=by
 obtain⟨r,hr,hd⟩:=idxf_l k l h9 k 0 (by omega) (by omega)
 unfold match_names slices_ContainsFunc_65 slices_IndexFunc_76
 rw [show ((0:Nat):Int)=0 from rfl] at hr
 rw [hr,Option.bind_some,Option.bind_some,hd,List.drop_zero]
def cntN (l:List T_api_Node) (s:T_api_Step):Nat:=l.countP fun n => named n s
def fitS (kids:List T_api_Node) (s:T_api_Step) (i:Int):Bool:=(s.Kind == 1) && ((decide (0 ≤ i) && decide (i < (kids.length:Int))) && fit (rd kids i) s (cntN (kids.take i.toNat) s))
theorem fit_named {n:T_api_Node} {s:T_api_Step} {p:Nat} (h:fit n s p=true):named n s=true:=by unfold fit at h; simp only [Bool.and_eq_true] at h; exact h.1
theorem not_named {n:T_api_Node} {s:T_api_Step} {p:Nat} (h:named n s=false):fit n s p=false:=by unfold fit; rw [h]; rfl
theorem nums_any:∀ (l pre:List T_api_Node) (s:T_api_Step) (a:Int),(nums l s pre.length (cntN pre s)).any (fun x => a == x)=((decide ((pre.length:Int) ≤ a) && decide (a < ((pre ++ l).length:Int))) && fit (rd (pre ++ l) a) s (cntN ((pre ++ l).take a.toNat) s))
 | [],pre,s,a => by
  have:(decide ((pre.length:Int) ≤ a) && decide (a < (((pre ++ []):List T_api_Node).length:Int)))=false:=by simp
  rw [this]; simp [nums]
 | n :: l,pre,s,a => by
  have ih:=nums_any l (pre ++ [n]) s a
  have e1:cntN (pre ++ [n]) s=cntN pre s + (if named n s then 1 else 0):=by unfold cntN; rw [List.countP_append,List.countP_singleton]
  have e2:(pre ++ [n]) ++ l=pre ++ n :: l:=by simp
  have e3:(pre ++ [n]).length=pre.length + 1:=by simp
  rw [e1,e2,e3] at ih
  by_cases ha:a=(pre.length:Int)
  ·subst ha
   have hr:rd (pre ++ n :: l) (pre.length:Int)=n:=by simp [rd]
   have ht:(pre ++ n :: l).take ((pre.length:Int).toNat)=pre:=by simp
   rw [hr,ht]
   have hin:(decide ((pre.length:Int) ≤ (pre.length:Int)) && decide ((pre.length:Int) < ((pre ++ n :: l).length:Int)))=true:=by simp; omega
   rw [hin,Bool.true_and,nums]
   have hout:(decide (((pre.length + 1:Nat):Int) ≤ (pre.length:Int)) && decide ((pre.length:Int) < ((pre ++ n :: l).length:Int)))=false:=by simp; omega
   rw [hout,Bool.false_and] at ih
   cases hn:named n s with
   | false => rw [hn] at ih; simp only [Bool.false_eq_true,if_false,Nat.add_zero] at ih ⊢; rw [ih,not_named hn]
   | true =>
    rw [hn] at ih
    simp only [if_true] at ih ⊢
    cases hf:fit n s (cntN pre s) with
    | true => simp
    | false => simp only [Bool.false_eq_true,if_false]; exact ih
  ·have hne:∀ c:Bool,(decide (((pre.length + 1:Nat):Int) ≤ a) && c)=(decide ((pre.length:Int) ≤ a) && c):=fun c => by
    have:(decide (((pre.length + 1:Nat):Int) ≤ a))=decide ((pre.length:Int) ≤ a):=by rw [Bool.eq_iff_iff]; simp; omega
    rw [this]
   rw [hne] at ih
   rw [← ih,nums]
   cases hn:named n s with
   | false => simp
   | true =>
    simp only [if_true]
    split
    ·rw [List.any_cons]
     have:(a == (pre.length:Int))=false:=by simpa using ha
     rw [this,Bool.false_or]
    ·rfl
mutual
def plc:T_api_Node→List (List Int)
 | .mk kind _ _ ks _ => if kind == 1 then [] :: plcL ks 0 else []
def plcL:List T_api_Node→Nat→List (List Int)
 | [],_ => []
 | n :: l,i => (plc n).map (fun p => (i:Int) :: p) ++ plcL l (i + 1)
end
theorem plc_eq (n:T_api_Node):plc n=if n.Kind == 1 then [] :: plcL n.Kids 0 else []:=by cases n; rw [plc]
mutual
theorem plc_bnd:∀ n:T_api_Node,(plc n).length ≤ wt n ∧ ∀ p ∈ plc n,p.length ≤ wt n
 | .mk kind nm ats ks tx => by
  have h:=plcL_bnd ks 0
  rw [plc,wt]
  split
  ·refine⟨by simp; omega,fun p hp => ?_⟩
   rcases List.mem_cons.1 hp with rfl | hp
   ·simp
   ·have:=h.2 p hp; omega
  ·exact⟨by simp,fun p hp => by cases hp⟩
theorem plcL_bnd:∀ (l:List T_api_Node) (i:Nat),(plcL l i).length ≤ wtL l ∧ ∀ p ∈ plcL l i,p.length ≤ wtL l + 1
 | [],i => by rw [plcL]; exact⟨by simp,fun p hp => by cases hp⟩
 | n :: l,i => by
  have h1:=plc_bnd n
  have h2:=plcL_bnd l (i + 1)
  rw [plcL,wtL]
  refine⟨by simp; omega,fun p hp => ?_⟩
  rcases List.mem_append.1 hp with hp | hp
  ·obtain⟨q,hq,rfl⟩:=List.mem_map.1 hp
   have:=h1.2 q hq; simp; omega
  ·have:=h2.2 p hp; omega
end
def selS:List T_api_Node→List T_api_Step→List Int→Bool
 | kids,s :: l,i :: p => fitS kids s i && selS (rd kids i).Kids l p
 | _,[],[] => true
 | _,_,_ => false
theorem selS_len:∀ (l:List T_api_Step) (kids:List T_api_Node) (p:List Int),selS kids l p=true→l.length=p.length ∧ ∀ s ∈ l,s.Kind=1
 | [],_,[],_ =>⟨rfl,fun s h => by cases h⟩
 | [],_,_ :: _,h => by simp [selS] at h
 | _ :: _,_,[],h => by simp [selS] at h
 | s :: l,kids,i :: p,h => by
  simp only [selS,Bool.and_eq_true] at h
  obtain⟨h1,h2⟩:=selS_len l _ p h.2
  refine⟨by simp [h1],fun q hq => ?_⟩
  rcases List.mem_cons.1 hq with rfl | hq
  ·have:=h.1; simp only [fitS,Bool.and_eq_true,beq_iff_eq] at this; exact this.1
  ·exact h2 q hq
def small (l:List T_api_Node):Prop:=wtL l ≤ 400000
theorem small_bnd {l:List T_api_Node} (h:small l):bnd l:=by
 unfold small at h
 refine⟨by have:=wtL_len l; omega,fun n hn => ?_⟩
 have:=wtL_mem hn; have:=wt_eq n; omega
theorem small_kids {l:List T_api_Node} (h:small l) {n:T_api_Node} (hn:n ∈ l):small n.Kids:=by
 unfold small at *
 have:=wtL_mem hn; have:=wt_eq n; omega
def findS:List T_api_Step→List T_api_Node→List (List Int)
 | [],_ => []
 | s :: l,kids => (nums kids s 0 0).flatMap fun i => if l.length=0 then [[i]] else (findS l (rd kids i).Kids).map fun p => i :: p
theorem plcL_cons:∀ (l:List T_api_Node) (i:Nat) (p:List Int),p ∈ plcL l i→∃ j q,p=j :: q
 | [],i,p,h => by rw [plcL] at h; cases h
 | n :: l,i,p,h => by
  rw [plcL] at h
  rcases List.mem_append.1 h with h | h
  ·obtain⟨q,_,rfl⟩:=List.mem_map.1 h; exact⟨_,_,rfl⟩
  ·exact plcL_cons l (i + 1) p h
theorem find_main:∀ (l:List T_api_Step) (kids:List T_api_Node),l ≠ []→(∀ s ∈ l,s.Kind=1)→findS l kids=(plcL kids 0).filter (selS kids l)
 | [],_,h,_ => absurd rfl h
 | s :: l,kids,_,hk => by
  have hks:(s.Kind == 1)=true:=by simpa using hk s (by simp)
  have ih:=fun (kids:List T_api_Node) (hl:l ≠ []) => find_main l kids hl (fun q hq => hk q (by simp [hq]))
  have suf:∀ (suf pre:List T_api_Node),kids=pre ++ suf→(plcL suf pre.length).filter (selS kids (s :: l))=(nums suf s pre.length (cntN pre s)).flatMap fun i => if l.length=0 then [[i]] else (findS l (rd kids i).Kids).map fun p => i :: p:=by
   intro suf
   induction suf with
   | nil => intro pre _; rw [plcL,nums]; rfl
   | cons n suf ihs =>
    intro pre hpre
    have ih2:=ihs (pre ++ [n]) (by rw [hpre]; simp)
    have e1:cntN (pre ++ [n]) s=cntN pre s + (if named n s then 1 else 0):=by unfold cntN; rw [List.countP_append,List.countP_singleton]
    have e3:(pre ++ [n]).length=pre.length + 1:=by simp
    rw [e1,e3] at ih2
    have hr:rd kids (pre.length:Int)=n:=by rw [hpre]; simp [rd]
    have ht:kids.take ((pre.length:Int).toNat)=pre:=by rw [hpre]; simp
    have hfit:fitS kids s (pre.length:Int)=fit n s (cntN pre s):=by
     unfold fitS
     rw [hks,hr,ht]
     have:(decide (0 ≤ (pre.length:Int)) && decide ((pre.length:Int) < (kids.length:Int)))=true:=by rw [hpre]; simp; omega
     rw [this,Bool.true_and,Bool.true_and]
    rw [plcL,List.filter_append,ih2,nums]
    have hhead:((plc n).map fun p => (pre.length:Int) :: p).filter (selS kids (s :: l))=if fit n s (cntN pre s)=true then (if l.length=0 then [[(pre.length:Int)]] else (findS l n.Kids).map fun p => (pre.length:Int) :: p) else []:=by
     rw [List.filter_map]
     have ef:(selS kids (s :: l) ∘ fun p => (pre.length:Int) :: p)=fun p => fit n s (cntN pre s) && selS n.Kids l p:=by
      funext p; simp only [Function.comp,selS,hfit,hr]
     rw [ef]
     cases hf:fit n s (cntN pre s) with
     | false => simp
     | true =>
      have hnm:=fit_named hf
      have hkind:(n.Kind == 1)=true:=by unfold named at hnm; simp only [Bool.and_eq_true] at hnm; exact hnm.1
      rw [if_pos rfl,plc_eq,if_pos hkind]
      simp only [Bool.true_and]
      cases l with
      | nil =>
       have:(plcL n.Kids 0).filter (fun p => selS n.Kids [] p)=[]:=by
        rw [List.filter_eq_nil_iff]
        intro p hp
        obtain⟨j,q,rfl⟩:=plcL_cons _ _ _ hp
        simp [selS]
       rw [List.filter_cons,this]; simp [selS]
      | cons s2 l2 =>
       rw [List.filter_cons,if_neg (by simp [selS]),if_neg (by simp),ih n.Kids (by simp)]
    rw [hhead]
    cases hn:named n s with
    | false => rw [not_named hn]; simp
    | true =>
     simp only [if_true]
     cases hf:fit n s (cntN pre s) with
     | false => simp
     | true => simp only [if_true,List.flatMap_cons,hr]
  have:=suf kids [] rfl
  simp only [List.length_nil,cntN,List.countP_nil] at this
  rw [this,findS]
theorem find_bnd (l:List T_api_Step) (kids:List T_api_Node) (hl:l ≠ []) (hk:∀ s ∈ l,s.Kind=1):(findS l kids).length ≤ wtL kids ∧ ∀ p ∈ findS l kids,p.length=l.length:=by
 rw [find_main l kids hl hk]
 refine⟨Nat.le_trans (List.length_filter_le _ _) (plcL_bnd kids 0).1,fun p hp => ?_⟩
 exact (selS_len l kids p (List.mem_filter.1 hp).2).1.symm
theorem nums_in {kids:List T_api_Node} {s:T_api_Step} {a:Int} (h:a ∈ nums kids s 0 0):0 ≤ a ∧ a < (kids.length:Int) ∧ rd kids a ∈ kids:=by
 have h1:=nums_any kids [] s a
 simp only [List.length_nil,List.nil_append,cntN,List.countP_nil] at h1
 have h2:(nums kids s 0 0).any (fun x => a == x)=true:=List.any_eq_true.2 ⟨a,h,by simp⟩
 rw [h1] at h2
 simp only [Bool.and_eq_true,decide_eq_true_eq] at h2
 have hi:=h2.1
 refine⟨by omega,hi.2,?_⟩
 have:a.toNat < kids.length:=by omega
 simp [rd,this]
theorem sl_tail {α:Type} (l:List α):sl l 1 (l.length:Int)=l.tail:=by
 unfold sl
 rw [show (1:Int).toNat=1 from rfl,Int.toNat_natCast,List.drop_one]
 apply List.take_of_length_le; simp
theorem find1_1 (k:Nat) (c0:List (List Int)→Int→Option (List (List Int))) (kids:List T_api_Node) (l:List T_api_Step) (t2:List Int) (x:Nat) (hx:x ≤ 900000) (t:List (List Int)) (ht:t.length ≤ 900000) (hp:∀ p ∈ t,p.length ≤ 900000):∀ (m i:Nat) (y:List (List Int)),i ≤ t.length→t.length < i + m→y.length ≤ 900000 + i→
  match_find_1.l1 k c0 kids l t2 (x:Int) t m y (i:Int)=c0 (y ++ (t.drop i).map (fun p => rd t2 (x:Int) :: p)) ((x + 1:Nat):Int):=by
 intro m
 induction m with
 | zero => intro i y h1 h2; omega
 | succ m ih =>
  intro i y h1 h2 h3
  unfold match_find_1.l1
  by_cases hi:i < t.length
  ·have hm:rd t (i:Int) ∈ t:=by simp [rd,hi]
   have:=hp _ hm
   rw [if_pos (by simp; omega),if_pos (by omega),if_pos (by simp; omega),if_pos (by simp; omega),wi (by omega),ih (i + 1) _ (by omega) (by omega) (by simp; omega),rd_drop hi]
   simp
  ·rw [if_neg (by simp; omega),List.drop_of_length_le (by omega),wi (by omega)]; simp
theorem o1 (k:Nat) (c0:List (List Int)→Int→Option (List (List Int))) (kids:List T_api_Node) (l:List T_api_Step) (t2:List Int) (x:Int) (t:List (List Int)):∀ (m:Nat) (y:List (List Int)) (i:Int),match_find_o.l1 k c0 kids l t2 x t m y i=match_find_1.l1 k c0 kids l t2 x t m y i:=by
 intro m
 induction m with
 | zero => intro y i; rfl
 | succ m ih => intro y i; rw [match_find_o.l1,match_find_1.l1]; simp only [ih]
theorem o0 (k:Nat) (kids:List T_api_Node) (l:List T_api_Step) (t2:List Int):∀ (m:Nat),match_find_o.l0 k kids l t2 m=match_find_1.l0 k (match_find_1 k) kids l t2 m:=by
 intro m
 induction m with
 | zero => rfl
 | succ m ih => funext y i; rw [match_find_o.l0,match_find_1.l0]; simp only [ih,o1]
theorem o_eq (k:Nat) (kids:List T_api_Node) (l:List T_api_Step):match_find_o k kids l=match_find_1 (k + 1) kids l:=by
 rw [match_find_o,match_find_1]; simp only [o0]
theorem find1_0 (k:Nat) (hk:1000000 < k) (self:List T_api_Node→List T_api_Step→Option (List (List Int))) (kids:List T_api_Node) (s:T_api_Step) (l:List T_api_Step) (hkind:∀ q ∈ l,q.Kind=1) (hl:l.length ≤ 600000) (hs:small kids)
  (hself:l ≠ []→∀ n ∈ kids,self n.Kids l=some (findS l n.Kids)):∀ (m i:Nat) (y:List (List Int)),i ≤ (nums kids s 0 0).length→(nums kids s 0 0).length < i + m→
   y.length + (((nums kids s 0 0).drop i).flatMap fun i => if l.length=0 then [[i]] else (findS l (rd kids i).Kids).map fun p => i :: p).length ≤ 900000→
   match_find_1.l0 k self kids (s :: l) (nums kids s 0 0) m y (i:Int)=some (y ++ ((nums kids s 0 0).drop i).flatMap fun i => if l.length=0 then [[i]] else (findS l (rd kids i).Kids).map fun p => i :: p):=by
 have hn:=nums_len kids s 0 0
 have hb:=(small_bnd hs).1
 intro m
 induction m with
 | zero => intro i y h1 h2; omega
 | succ m ih =>
  intro i y h1 h2 h3
  unfold match_find_1.l0
  by_cases hi:i < (nums kids s 0 0).length
  ·have hm:rd (nums kids s 0 0) (i:Int) ∈ nums kids s 0 0:=by simp [rd,hi]
   obtain⟨g1,g2,g3⟩:=nums_in hm
   rw [rd_drop hi,List.flatMap_cons] at h3 ⊢
   rw [if_pos (by simp; omega),if_pos (by omega),wi (by omega)]
   by_cases hl0:l.length=0
   ·rw [if_pos hl0] at h3 ⊢
    simp at h3
    rw [if_pos (by simp; omega),if_pos (by simp; omega),ih (i + 1) _ (by omega) (by omega) (by simp; omega)]
    simp
   ·have hne:l ≠ []:=by intro e; apply hl0; rw [e]; rfl
    obtain⟨f1,f2⟩:=find_bnd l (rd kids (rd (nums kids s 0 0) (i:Int))).Kids hne hkind
    have hw:=small_kids hs g3
    unfold small at hw
    rw [if_neg hl0] at h3 ⊢
    simp only [List.length_append,List.length_map] at h3
    have e1:sl (s :: l) 1 ((s :: l).length:Int)=l:=sl_tail (s :: l)
    have h1':=find1_1 k (match_find_1.l0 k self kids (s :: l) (nums kids s 0 0) m) kids (s :: l) (nums kids s 0 0) i (by omega) (findS l (rd kids (rd (nums kids s 0 0) (i:Int))).Kids) (by omega) (fun p hp => by rw [f2 p hp]; omega) k 0 y (by omega) (by omega) (by omega)
    rw [show ((0:Nat):Int)=0 from rfl,List.drop_zero] at h1'
    rw [if_neg (by simp; omega),if_pos ⟨g1,g2⟩,if_pos (by simp; omega),e1,hself hne _ g3,Option.bind_some,h1',ih (i + 1) _ (by omega) (by omega) (by rw [List.length_append,List.length_map]; omega)]
    simp
  ·rw [if_neg (by simp; omega),List.drop_of_length_le (by omega)]; simp
theorem find1_eq:∀ (l:List T_api_Step) (k:Nat) (kids:List T_api_Node),l ≠ []→(∀ q ∈ l,q.Kind=1)→l.length ≤ 600000→l.length + 1000010 ≤ k→small kids→match_find_1 k kids l=some (findS l kids)
 | [],_,_,h,_,_,_,_ => absurd rfl h
 | s :: l,k,kids,_,hkind,hl,hk,hs => by
  obtain⟨k,rfl⟩:∃ z,k=z + 1:=⟨k - 1,by omega⟩
  have hlen:(s :: l).length=l.length + 1:=rfl
  have ih:=fun (n:T_api_Node) (hn:n ∈ kids) (hne:l ≠ []) => find1_eq l k n.Kids hne (fun q hq => hkind q (by simp [hq])) (by omega) (by omega) (small_kids hs hn)
  have hb:=find_bnd (s :: l) kids (by simp) hkind
  unfold small at hs
  have hnl:=nums_len kids s 0 0
  have hbl:=(small_bnd hs).1
  rw [match_find_1,if_pos (by simp)]
  have e:rd (s :: l) 0=s:=rfl
  rw [e,numbers_eq k (by omega) kids s (small_bnd hs),Option.bind_some]
  have:=find1_0 k (by omega) (match_find_1 k) kids s l (fun q hq => hkind q (by simp [hq])) (by omega) hs (fun hne n hn => ih n hn hne) k 0 [] (by omega) (by omega) (by
   have h1:=hb.1; rw [findS] at h1; simp only [List.drop_zero,List.length_nil]; omega)
  rw [show ((0:Nat):Int)=0 from rfl,List.drop_zero,List.nil_append] at this
  rw [this,findS]
theorem tails_l (k:Nat) (t:List (List Int)) (h9:t.length ≤ 900000) (hp:∀ p ∈ t,1 ≤ p.length):∀ (m i:Nat),i ≤ t.length→t.length < i + m→match_Find.l0 k t m ((t.take i).map List.tail ++ t.drop i) (i:Int)=some (t.map List.tail):=by
 intro m
 induction m with
 | zero => intro i h1 h2; omega
 | succ m ih =>
  intro i h1 h2
  unfold match_Find.l0
  by_cases hi:i < t.length
  ·have hA:((t.take i).map List.tail).length=i:=by simp; omega
   have hr:rd ((t.take i).map List.tail ++ t.drop i) (i:Int)=t[i]:=by
    unfold rd
    rw [Int.toNat_natCast,List.getD_eq_getElem?_getD,List.getElem?_append_right (by omega),hA,Nat.sub_self,List.drop_eq_getElem_cons hi]; rfl
   have hpos:=hp _ (List.getElem_mem hi)
   have hln:(((t.take i).map List.tail ++ t.drop i).length:Int)=t.length:=by simp; omega
   rw [if_pos (by simp; omega),hln,if_pos (by omega),hr,if_pos (by omega),if_pos (by omega),sl_tail,wi (by omega),Int.toNat_natCast]
   have hs:((t.take i).map List.tail ++ t.drop i).set i (t[i]).tail=(t.take (i + 1)).map List.tail ++ t.drop (i + 1):=by
    rw [List.set_append_right _ _ (by omega),hA,Nat.sub_self,List.drop_eq_getElem_cons hi,List.set_cons_zero,List.take_succ_eq_append_getElem hi,List.map_append,List.append_assoc]; rfl
   rw [hs]
   exact ih (i + 1) (by omega) (by omega)
  ·have:i=t.length:=by omega
   rw [if_neg (by simp; omega),this,List.take_length,List.drop_length,List.append_nil]
def FS (n:T_api_Node) (l:List T_api_Step):List (List Int):=(plc n).filter fun p => selS [n] l (0 :: p)
theorem mFind_eq (k:Nat) (hk9:9000000000 ≤ k) (n:T_api_Node) (l:List T_api_Step) (hl:l.length ≤ 600000) (hw:wt n ≤ 300000):match_Find k n l=some (FS n l):=by
 unfold match_Find
 rw [names_eq k l hl (by omega)]
 have hsm:small [n]:=by unfold small; rw [wtL,wtL]; omega
 by_cases h0:l=[]
 ·subst h0
  have:FS n []=[]:=by unfold FS; rw [List.filter_eq_nil_iff]; intro p _; simp [selS]
  rw [this]; simp
 ·have hpos:0 < l.length:=List.length_pos_iff.2 h0
  have e0:((l.length:Int) == 0)=false:=by simpa using h0
  rw [e0]
  simp only [beq_self_eq_true,if_true,Option.bind_some,Bool.false_or,Bool.not_not]
  cases hk:(l.any fun s => s.Kind != 1) with
  | true =>
   rw [if_pos rfl]
   have:FS n l=[]:=by
    unfold FS; rw [List.filter_eq_nil_iff]
    intro p _ hc
    have h2:=(selS_len l _ _ hc).2
    obtain⟨s,hs,hsk⟩:=List.any_eq_true.1 hk
    simp [h2 s hs] at hsk
   rw [this]
  | false =>
   rw [if_neg (by simp),o_eq]
   have hkind:∀ s ∈ l,s.Kind=1:=fun s hs => by
    have:=List.any_eq_false.1 hk s hs
    simpa using this
   have hb:=find_bnd l [n] h0 hkind
   have hbw:wtL [n]=wt n:=by rw [wtL,wtL]; omega
   rw [find1_eq l (k + 1) [n] h0 hkind hl (by omega) hsm,Option.bind_some]
   have:=tails_l k (findS l [n]) (by omega) (fun p hp => by rw [hb.2 p hp]; omega) k 0 (by omega) (by omega)
   rw [List.take_zero,List.map_nil,List.drop_zero,List.nil_append,show ((0:Nat):Int)=0 from rfl] at this
   rw [this,find_main l [n] h0 hkind]
   congr 1
   have e1:plcL [n] 0=(plc n).map fun p => (0:Int) :: p:=by rw [plcL,plcL,List.append_nil]; rfl
   rw [e1,List.filter_map,List.map_map]
   unfold FS
   have e2:(List.tail ∘ fun p => (0:Int) :: p)=id:=by funext p; rfl
   rw [e2,List.map_id]; rfl
theorem FS_bnd (n:T_api_Node) (l:List T_api_Step) (hw:wt n ≤ 300000):(FS n l).length ≤ 300000 ∧ ∀ p ∈ FS n l,p ∈ plc n ∧ p.length ≤ 300000:=by
 have hb:=plc_bnd n
 unfold FS
 refine⟨Nat.le_trans (List.length_filter_le _ _) (by omega),fun p hp => ?_⟩
 have:=(List.mem_filter.1 hp).1
 exact⟨this,by have:=hb.2 p this; omega⟩
theorem clone_eq (l:List T_api_Step) (h:l.length ≤ 600000):slices_Clone_43 l=some l:=by
 have:(([]:List T_api_Step).length + l.length) * 112 ≤ 140737488355328:=by rw [List.length_nil]; omega
 unfold slices_Clone_43; rw [if_pos this,List.nil_append]
theorem plcL_mem:∀ (l:List T_api_Node) (i:Nat) (p:List Int),p ∈ plcL l i→∃ (j:Nat) (q:List Int),p=((i + j:Nat):Int) :: q ∧ j < l.length ∧ q ∈ plc (rd l (j:Int))
 | [],i,p,h => by rw [plcL] at h; cases h
 | n :: l,i,p,h => by
  rw [plcL] at h
  rcases List.mem_append.1 h with h | h
  ·obtain⟨q,hq,rfl⟩:=List.mem_map.1 h
   exact⟨0,q,by simp,by simp,hq⟩
  ·obtain⟨j,q,h1,h2,h3⟩:=plcL_mem l (i + 1) p h
   refine⟨j + 1,q,by rw [h1]; congr 2; omega,by simp; omega,?_⟩
   have:rd (n :: l) ((j + 1:Nat):Int)=rd l (j:Int):=by simp [rd]
   rw [this]; exact h3
theorem plc_mem {n:T_api_Node} {p:List Int} (h:p ∈ plc n):n.Kind=1 ∧ (p=[] ∨ ∃ (j:Nat) (q:List Int),p=(j:Int) :: q ∧ j < n.Kids.length ∧ q ∈ plc (rd n.Kids (j:Int)) ∧ rd n.Kids (j:Int) ∈ n.Kids):=by
 rw [plc_eq] at h
 split at h
 ·rename_i hk
  refine⟨by simpa using hk,?_⟩
  rcases List.mem_cons.1 h with h | h
  ·exact .inl h
  ·obtain⟨j,q,h1,h2,h3⟩:=plcL_mem _ _ _ h
   right
   refine⟨j,q,by rw [h1]; congr 2; omega,h2,h3,?_⟩
   simp [rd,h2]
 ·cases h
def atM:T_api_Node→List Int→T_api_Node
 | n,[] => n
 | n,i :: p => atM (rd n.Kids i) p
theorem atM_wt:∀ (p:List Int) (n:T_api_Node),p ∈ plc n→wt (atM n p) ≤ wt n ∧ (atM n p).Kind=1
 | [],n,h =>⟨Nat.le_refl _,(plc_mem h).1⟩
 | i :: p,n,h => by
  rcases (plc_mem h).2 with h0 |⟨j,q,h1,h2,h3,h4⟩
  ·cases h0
  ·injection h1 with e1 e2
   subst e1; subst e2
   have hi:=atM_wt p _ h3
   have:=kid_lt h4
   exact⟨by rw [atM]; omega,by rw [atM]; exact hi.2⟩
theorem atm_l (k:Nat) (p:List Int) (h9:p.length ≤ 600000):∀ (m i:Nat) (n:T_api_Node),i ≤ p.length→p.length < i + m→p.drop i ∈ plc n→
  ∀ (a b c d e f:_),match_at.l0 k p m n.Kind n.Name.Space n.Name.Local n.Attrs n.Kids n.Text a b c d e f (i:Int)=some (atM n (p.drop i)):=by
 intro m
 induction m with
 | zero => intro i n h1 h2; omega
 | succ m ih =>
  intro i n h1 h2 h3 a b c d e f
  unfold match_at.l0
  by_cases hi:i < p.length
  ·rw [rd_drop hi] at h3 ⊢
   rcases (plc_mem h3).2 with h0 |⟨j,q,g1,g2,g3,g4⟩
   ·cases h0
   ·injection g1 with e1 e2
    subst e2
    rw [if_pos (by simp; omega),if_pos (by omega),e1,if_pos (by omega),wi (by omega),atM]
    exact ih (i + 1) (rd n.Kids (j:Int)) (by omega) (by omega) g3 a b c d e f
  ·rw [if_neg (by simp; omega),List.drop_of_length_le (by omega)]
   cases n; rfl
theorem atm_eq (k:Nat) (hk9:9000000000 ≤ k) (n:T_api_Node) (p:List Int) (h9:p.length ≤ 600000) (hp:p ∈ plc n):match_at k n p=some (atM n p):=by
 have:=atm_l k p h9 k 0 n (by omega) (by omega) (by simpa using hp) 0 ([]:Str) ([]:Str) ([]:List T_api_Attr) ([]:List T_api_Node) ([]:Str)
 rw [List.drop_zero,show ((0:Nat):Int)=0 from rfl] at this
 exact this
end Go.Proofs.Ytafoiodfflcpeaa.Pure
