import Derived.Test.YtafoiodfflcpeaaPureU
namespace Go.Proofs.Ytafoiodfflcpeaa.Pure
open Go Go.RowKit Go.Proofs.Vx Go.Proofs.Ytafoiodfflcpeaa.Sh
def atS:List Int→T_api_Node→T_api_Node × Bool
 | [],n => (n,true)
 | i :: q,n => if 0 ≤ i ∧ i < (n.Kids.length:Int) then atS q (rd n.Kids i) else (zeroN,false)
theorem rd_dropN {l:List T_api_Node} {j:Nat} (h:j < l.length):l.drop j=rd l (j:Int) :: l.drop (j + 1):=by
 have:rd l (j:Int)=l[j]:=by simp [rd,h]
 rw [this]; exact List.drop_eq_getElem_cons h
theorem at_l (k:Nat) (hk:4000000010 ≤ k) (p:List Int) (h9:p.length ≤ 1000000000) (y0:Int) (y1 y2:Str) (y3:List T_api_Attr) (y4:List T_api_Node) (y5:Str):∀ (m j:Nat) (n:T_api_Node),wt n ≤ 1000000000→j ≤ p.length→p.length < j + m→
  path_At.l0 k p m n.Kind n.Name.Space n.Name.Local n.Attrs n.Kids n.Text y0 y1 y2 y3 y4 y5 (j:Int)=some (atS (p.drop j) n):=by
 intro m
 induction m with
 | zero => intro j n _ h1 h2; omega
 | succ m ih =>
  intro j n hw h1 h2
  unfold path_At.l0
  by_cases hj:j < p.length
  ·rw [if_pos (by simp; omega),if_pos (by omega),path_kid,Option.bind_some,rd_drop hj]
   unfold atS
   by_cases hi:0 ≤ rd p (j:Int) ∧ rd p (j:Int) < (n.Kids.length:Int)
   ·rw [if_neg (by simp; omega),if_pos hi,if_pos hi,wi (by omega)]
    exact ih (j + 1) _ (kidw hi hw) (by omega) (by omega)
   ·rw [if_pos (by simp; omega),if_neg hi]; rfl
  ·have hjl:j=p.length:=by omega
   rw [if_neg (by simp; omega),show T_api_Node.mk n.Kind (T_api_Name.mk n.Name.Space n.Name.Local) n.Attrs n.Kids n.Text=n from by cases n; rfl,copy_eq (wt n) k n (Nat.le_refl _) hw (by omega),Option.bind_some,hjl,List.drop_length]
   rfl
theorem at_eq (k:Nat) (hk:4000000010 ≤ k) (p:List Int) (h9:p.length ≤ 1000000000) (n:T_api_Node) (hw:wt n ≤ 1000000000):path_At k n p=some (atS p n):=by
 have:=at_l k hk p h9 0 [] [] [] [] [] k 0 n hw (by omega) (by omega)
 rw [List.drop_zero] at this
 exact this
end Go.Proofs.Ytafoiodfflcpeaa.Pure
