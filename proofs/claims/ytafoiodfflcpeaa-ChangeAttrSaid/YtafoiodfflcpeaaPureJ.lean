import Derived.Test.YtafoiodfflcpeaaPureI
namespace Go.Proofs.Ytafoiodfflcpeaa.Pure
open Go Go.RowKit Go.Proofs.Vx Go.Proofs.Ytafoiodfflcpeaa.Sh
set_option maxRecDepth 100000
theorem awake9:watchbilllaw13_awake 9000000000=some true:=by kernel_rfl
theorem eta (n:T_api_Node):T_api_Node.mk n.Kind (T_api_Name.mk n.Name.Space n.Name.Local) n.Attrs n.Kids n.Text=n:=by cases n; rfl
theorem teq1 (k:Nat) (hk:9000000000 ≤ k) (n:T_api_Node) (hw:wt n ≤ 1000000000):watchbillref04_Equal k n n=some true:=teq_eq _ k n (Nat.le_refl _) hw (by omega)
theorem ixA_no {sp lo:Str}:∀ {l:List T_api_Attr},(∀ a ∈ l,isA sp lo a=false)→ixA sp lo l=none
 | [],_ => rfl
 | b :: l,h => by rw [ixA,h b List.mem_cons_self,if_neg (by simp),ixA_no fun a ha => h a (List.mem_cons_of_mem _ ha)]; rfl
def dj (m:T_api_Node) (l:List T_api_Step):T_api_Node × Int:=if (sel m l).2 ≠ 5 then (zeroN,50) else (m,0)
theorem dj_eq (k:Nat) (hk:9000000000 ≤ k) (m:T_api_Node) (l:List T_api_Step) (hl:l.length ≤ 30) (hw:wf m ≤ 200000):change_Delete.j0 k l m.Kind m.Name.Space m.Name.Local m.Attrs m.Kids m.Text=some (dj m l):=by
 have hwt:=wt_wf m
 unfold change_Delete.j0 dj
 rw [eta,select_eq k hk m l (by omega) (by omega),Option.bind_some]
 by_cases h:(sel m l).2=5
 ·rw [if_neg (by simp [h]),if_neg (by simp [h])]
 ·rw [if_pos (by simpa using h),if_pos h,zero_mk]
def dt (k:Nat) (n:T_api_Node) (l:List T_api_Step) (b:Bool):Option (T_api_Node × Int):=(match_Select k n l).bind fun (t7:(List Int) × Int) => if (t7.2 != 0)=true then some (zeroN,t7.2) else if b=true then (if (0:Int) ≤ (IntKind.i64.wrap ((l.length:Int) - 1)) ∧ (IntKind.i64.wrap ((l.length:Int) - 1)) < (l.length:Int) then ((path_DropAttr k n ((rd l (IntKind.i64.wrap ((l.length:Int) - 1))).Name) t7.1).bind fun (t21:T_api_Node × Bool) => change_Delete.j0 k l t21.1.Kind t21.1.Name.Space t21.1.Name.Local t21.1.Attrs t21.1.Kids t21.1.Text) else none) else ((path_Remove k n t7.1).bind fun (t23:T_api_Node × Bool) => if (!t23.2)=true then some (zeroN,50) else change_Delete.j0 k l t23.1.Kind t23.1.Name.Space t23.1.Name.Local t23.1.Attrs t23.1.Kids t23.1.Text)
theorem delete_unf (k:Nat) (hk:9000000000 ≤ k) (n:T_api_Node) (l:List T_api_Step) (hl:l.length ≤ 30):change_Delete k n l=if (namesB l || attrB l)=true then dt k n l (attrB l) else some (zeroN,33):=by
 unfold change_Delete dt
 rw [cnames_eq k l (by omega) (by omega),cattr_eq k l (by omega) (by omega)]
 cases namesB l <;> cases attrB l <;> rfl
theorem ChangeAttr_k (k:Nat) (hk:9000000000 ≤ k) (ha9:watchbilllaw13_awake k=some true) (n:T_api_Node) (v:Str) (l:List T_api_Step):watchbilllaw13_ChangeAttr k n v l=some true:=by
 unfold watchbilllaw13_ChangeAttr
 obtain⟨f,e,hf⟩:=few13 k hk n n l
 rw [ha9,Option.bind_some,if_neg (by simp),e,Option.bind_some]
 by_cases hc:f=true ∧ v.length ≤ 5000
 ·obtain⟨rfl,hv⟩:=hc
  obtain⟨hw,_,hl30,hln⟩:=hf rfl
  have hwt:=wt_wf n
  obtain⟨p1,p2⟩:=putattr_eq k hk n v l (by omega) ⟨hl30,hln⟩ hv
  rw [if_neg (by simp; omega),p1,Option.bind_some]
  by_cases hz:(paS n v l).2.2=0
  ·rw [if_neg (by simp [hz])]
   unfold paS at hz p2 ⊢
   cases ha:attrB l with
   | false => rw [if_pos ha] at hz; cases hz
   | true =>
    rw [ha] at hz p2
    simp only [Bool.true_eq_false,if_false] at hz p2 ⊢
    by_cases h0:(sel n l.dropLast).2=0
    ·rw [if_neg (by simp [h0])] at hz p2 ⊢
     obtain⟨g1,g2,g3⟩:=sel_place h0
     obtain⟨o1,_⟩:=sel_ok h0
     have hsp:=splitS_attr ha
     obtain⟨hl2,hlk,hln2⟩:=attrB_parts ha
     have hsd:=splitS_names hln2
     have hlen:=sel_len (n:=n) (l:=l.dropLast) (by omega)
     generalize hww:(sel n l.dropLast).1=w at *
     by_cases hcz:chk (paM n v l w) l w=0
     ·rw [if_neg (by simp [hcz])] at hz p2 ⊢
      clear hz
      obtain⟨c1,c2⟩:=chk_ok hcz
      generalize hm:paM n v l w=m at *
      have hm':put (withA (atN w n) (attS (atA l v) (atN w n).Attrs)) w n=m:=hm
      have hvm:valid w m:=by rw [← hm']; exact valid_put _ w n g1
      have ham:atN w m=withA (atN w n) (attS (atA l v) (atN w n).Attrs):=by rw [← hm']; exact atN_put _ w n g1
      have hp2:wf m ≤ wf n + 16000:=p2
      have hwm:=wt_wf m
      have hc0:(sel m l).2=0:=by rw [c1]
      obtain⟨q1,q2⟩:=sel_ok hc0
      rw [c1,hsp] at q1 q2
      have hwa:=wt_attrs (atN w m)
      have hwb:=atN_wt w m hvm
      have hget:getS (atN w m).Attrs (lastS l).Name.Space (lastS l).Name.Local=(v,true):=by rw [ham]; exact getS_attS (atA l v) (atN w n).Attrs
      have hselm:sel m l.dropLast=(w,0):=sel_of (by rw [hsd]; exact q1) (by rw [hsd]; intro h; cases h)
      have hself:withA (withA (atN w n) (attS (atA l v) (atN w n).Attrs)) (attS (atA l v) (withA (atN w n) (attS (atA l v) (atN w n).Attrs)).Attrs)=withA (atN w n) (attS (atA l v) (atN w n).Attrs):=by
       show withA (atN w n) (attS (atA l v) (attS (atA l v) (atN w n).Attrs))=_
       rw [attS_idem]
      have hpm:paM m v l w=m:=by
       unfold paM
       rw [ham,hself,← hm',put_put _ _ w n g1]
      have hagain:paS m v l=(m,false,0):=by
       unfold paS
       rw [ha,if_neg (by simp),hselm]
       simp only
       rw [if_neg (by simp),hpm,hcz,if_neg (by simp)]
       have:hasA (atN w m) (lastS l)=true:=by unfold hasA; rw [hget]
       rw [this]; rfl
      obtain⟨a1,_⟩:=putattr_eq k hk m v l (by omega) ⟨hl30,hln⟩ hv
      rw [hagain] at a1
      have hlast:rd l (IntKind.i64.wrap ((l.length:Int) - 1))=lastS l:=by
       have:IntKind.i64.wrap ((l.length:Int) - 1)=((l.length - 1:Nat):Int):=by rw [w64 (by omega) (by omega)]; omega
       rw [this]; rfl
      simp only
      rw [select_eq k hk m l (by omega) (by omega),Option.bind_some,c1]
      simp only
      rw [at_eq k (by omega) w (by omega) m (by omega),Option.bind_some,atS_T w m hvm,if_pos (by rw [w64 (by omega) (by omega)]; omega),hlast]
      simp only
      rw [get_eq k _ _ (by omega) (by omega),Option.bind_some,hget,a1,Option.bind_some,if_pos (by simp),Right_eq k m (by omega) (by omega),Option.bind_some,show (m.Kind == 1 && (decide (cnt m ≤ 2000) && shp m 1 false))=true from c2,
       if_pos (by simp),teq1 k hk m (by omega),Option.bind_some,if_neg (by simp)]
      cases hh:hasA (atN w n) (lastS l) with
      | true => rw [if_pos (by simp)]
      | false =>
       rw [if_neg (by simp)]
       have hno:=getS_no hh
       have hS:attS (atA l v) (atN w n).Attrs=(atN w n).Attrs ++ [atA l v]:=attS_none (ixA_no hno)
       have hdrop:=dropattr_eq k m (atA l v) (atN w n).Attrs w (by omega) hvm (by rw [ham]; exact g3) (by rw [ham]; exact hS) hno
       have hback:put (withA (atN w m) (atN w n).Attrs) w m=n:=by
        rw [ham,← hm',put_put _ _ w n g1]
        have:withA (withA (atN w n) (attS (atA l v) (atN w n).Attrs)) (atN w n).Attrs=atN w n:=by cases atN w n; rfl
        rw [this,put_self w n g1]
       rw [hback] at hdrop
       have hseln:sel n l=([],5):=sel_no (by rw [hsp]; rw [hsd] at o1; exact o1) (by rw [hsp]; exact hlk) (by rw [hsp,← g2]; exact hh)
       have hdel:change_Delete k m l=some (n,0):=by
        rw [delete_unf k hk m l hl30,ha,if_pos (by simp)]
        unfold dt
        rw [select_eq k hk m l (by omega) (by omega),Option.bind_some,c1]
        simp only
        rw [if_neg (by simp),if_pos trivial,if_pos (by rw [w64 (by omega) (by omega)]; omega),hlast]
        have:path_DropAttr k m (lastS l).Name w=some (n,true):=hdrop
        rw [this,Option.bind_some]
        simp only
        rw [dj_eq k hk n l hl30 (by omega)]
        unfold dj
        rw [hseln,if_neg (by simp)]
       rw [hdel,Option.bind_some,if_pos (by simp),teq1 k hk n (by omega),Option.bind_some]
       simp
     ·rw [if_pos (by simpa using hcz)] at hz; exact absurd hz hcz
    ·rw [if_pos (by simpa using h0)] at hz; cases hz
  ·rw [if_pos (by simpa using hz)]
   unfold paS at hz ⊢
   cases ha:attrB l with
   | false => rw [if_pos rfl]; rfl
   | true =>
    rw [ha] at hz
    simp only [Bool.true_eq_false,if_false] at hz ⊢
    by_cases h0:(sel n l.dropLast).2=0
    ·rw [if_neg (by simp [h0])] at hz ⊢
     by_cases hcz:chk (paM n v l (sel n l.dropLast).1) l (sel n l.dropLast).1=0
     ·rw [if_neg (by simp [hcz])] at hz; exact absurd rfl hz
     ·rw [if_pos (by simpa using hcz)]; rfl
    ·rw [if_pos (by simpa using h0)]; rfl
 ·rw [if_pos (by
   cases f with
   | false => simp
   | true =>
    have:¬ v.length ≤ 5000:=fun h => hc ⟨rfl,h⟩
    simp; omega)]
theorem ChangeAttr (n:T_api_Node) (v:Str) (l:List T_api_Step) (_:v.length ≤ 140737488351232):∃ k,watchbilllaw13_ChangeAttr k n v l=some true:=⟨9000000000,ChangeAttr_k _ (Nat.le_refl _) awake9 n v l⟩
end Go.Proofs.Ytafoiodfflcpeaa.Pure
