import Derived.Test.YtafoiodfflcpeaaPureI
namespace Go.Proofs.Ytafoiodfflcpeaa.Pure
open Go Go.RowKit Go.Proofs.Vx Go.Proofs.Ytafoiodfflcpeaa.Sh
set_option maxRecDepth 100000
theorem awake9:watchbilllaw13_awake 9000000000=some true:=by kernel_rfl
theorem eta (n:T_api_Node):T_api_Node.mk n.Kind (T_api_Name.mk n.Name.Space n.Name.Local) n.Attrs n.Kids n.Text=n:=by cases n; rfl
theorem teq1 (k:Nat) (hk:9000000000 ≤ k) (n:T_api_Node) (hw:wt n ≤ 1000000000):watchbillref04_Equal k n n=some true:=teq_eq _ k n (Nat.le_refl _) hw (by omega)
def dj (m:T_api_Node) (l:List T_api_Step):T_api_Node × Int:=if (sel m l).2 ≠ 5 then (zeroN,50) else (m,0)
theorem dj_eq (k:Nat) (hk:9000000000 ≤ k) (m:T_api_Node) (l:List T_api_Step) (hl:l.length ≤ 30) (hw:wf m ≤ 200000):change_Delete.j0 k l m.Kind m.Name.Space m.Name.Local m.Attrs m.Kids m.Text=some (dj m l):=by
 have hwt:=wt_wf m
 unfold change_Delete.j0 dj
 rw [eta,select_eq k hk m l (by omega) (by omega),Option.bind_some]
 by_cases h:(sel m l).2=5
 ·rw [if_neg (by simp [h]),if_neg (by simp [h])]
 ·rw [if_pos (by simpa using h),if_pos h,zero_mk]
def dt (k:Nat) (n:T_api_Node) (l:List T_api_Step) (b:Bool):Option (T_api_Node × Int):=(match_Select k n l).bind fun (t7:(List Int) × Int) => if (t7.2 != 0)=true then some (zeroN,t7.2) else if b=true then (if (0:Int) ≤ (IntKind.i64.wrap ((l.length:Int) - 1)) ∧ (IntKind.i64.wrap ((l.length:Int) - 1)) < (l.length:Int) then ((path_DropAttr k n ((rd l (IntKind.i64.wrap ((l.length:Int) - 1))).Name) t7.1).bind fun (t21:T_api_Node × Bool) => change_Delete.j0 k l t21.1.Kind t21.1.Name.Space t21.1.Name.Local t21.1.Attrs t21.1.Kids t21.1.Text) else none) else ((path_Remove k n t7.1).bind fun (t23:T_api_Node × Bool) => if (!t23.2)=true then some (zeroN,50) else change_Delete.j0 k l t23.1.Kind t23.1.Name.Space t23.1.Name.Local t23.1.Attrs t23.1.Kids t23.1.Text)
theorem delete_unf (k:Nat) (hk:9000000000 ≤ k) (n:T_api_Node) (l:List T_api_Step) (hl:l.length ≤ 30):change_Delete k n l=if (namesB l || attrB l)=true then dt k n l (attrB l) else some (zeroN,33):=by
 unfold change_Delete dt
 rw [cnames_eq k l (by omega) (by omega),cattr_eq k l (by omega) (by omega)]
 cases namesB l <;> cases attrB l <;> rfl
theorem delete_some (k:Nat) (hk:9000000000 ≤ k) (n:T_api_Node) (l:List T_api_Step) (hl:l.length ≤ 30) (hw:wf n ≤ 200000) :
  ∃ r,change_Delete k n l=some r ∧ (r.2=0→(namesB l || attrB l)=true ∧ (sel r.1 l).2=5 ∧ wf r.1 ≤ wf n):=by
 have hwt:=wt_wf n
 rw [delete_unf k hk n l hl]
 cases hna:(namesB l || attrB l) with
 | false => rw [if_neg (by simp)]; exact⟨_,rfl,fun h => by cases h⟩
 | true =>
  unfold dt
  rw [if_pos rfl,select_eq k hk n l (by omega) (by omega),Option.bind_some]
  by_cases h0:(sel n l).2=0
  ·have hlen:=sel_len (n:=n) (l:=l) (by omega)
   rw [if_neg (by simp [h0])]
   have fin:∀ m:T_api_Node,wf m ≤ wf n→∃ r,change_Delete.j0 k l m.Kind m.Name.Space m.Name.Local m.Attrs m.Kids m.Text=some r ∧ (r.2=0→true=true ∧ (sel r.1 l).2=5 ∧ wf r.1 ≤ wf n):=fun m hm => by
    refine⟨_,dj_eq k hk m l hl (by omega),fun h => ?_⟩
    unfold dj at h ⊢
    by_cases h5:(sel m l).2=5
    ·rw [if_neg (by simp [h5])]; exact⟨rfl,h5,hm⟩
    ·rw [if_pos h5] at h; cases h
   cases ha:attrB l with
   | true =>
    have hp:=attrB_parts ha
    obtain⟨r,e1,e2⟩:=drop_any k n ((rd l (IntKind.i64.wrap ((l.length:Int) - 1))).Name) (sel n l).1 (by omega)
    rw [if_pos rfl,if_pos (by rw [w64 (by omega) (by omega)]; omega),e1,Option.bind_some]
    exact fin r.1 e2
   | false =>
    obtain⟨r,e1,e2⟩:=remove_any k n (sel n l).1 (by omega) (by omega)
    rw [if_neg (by simp),e1,Option.bind_some]
    by_cases hr:r.2=true
    ·rw [if_neg (by simp [hr])]
     exact fin r.1 e2
    ·rw [if_pos (by simpa using hr)]
     exact⟨_,rfl,fun h => by cases h⟩
  ·rw [if_pos (by simpa using h0)]
   exact⟨_,rfl,fun h => absurd h h0⟩
theorem delete_none (k:Nat) (hk:9000000000 ≤ k) (n:T_api_Node) (l:List T_api_Step) (hl:l.length ≤ 30) (hw:wf n ≤ 200000) (hna:(namesB l || attrB l)=true) (h5:(sel n l).2=5):change_Delete k n l=some (zeroN,5):=by
 have hwt:=wt_wf n
 rw [delete_unf k hk n l hl,if_pos hna]
 unfold dt
 rw [select_eq k hk n l (by omega) (by omega),Option.bind_some,if_pos (by simp [h5]),h5]
end Go.Proofs.Ytafoiodfflcpeaa.Pure
