import Derived.Test.YtjhbedgepfkdbaaPureB
namespace Go.Proofs.Ytjhbedgepfkdbaa.Pure
open Go Go.RowKit Go.Proofs.Vx Go.Proofs.Ytjhbedgepfkdbaa.Sh
theorem psame_l (k:Nat) (a b:List Int) (hab:a.length=b.length) (h9:a.length ≤ 2000000000):∀ (m j:Nat),j ≤ a.length→a.length < j + m→watchbillref06_Same.l0 k a b m (j:Int)=some (decide (a.drop j=b.drop j)):=by
 intro m
 induction m with
 | zero => intro j h1 h2; omega
 | succ m ih =>
  intro j h1 h2
  unfold watchbillref06_Same.l0
  by_cases hj:j < a.length
  ·rw [if_pos (by simp; omega),if_pos (by omega),if_pos (by omega),rd_drop hj,rd_drop (p:=b) (by omega)]
   by_cases he:rd a (j:Int)=rd b (j:Int)
   ·rw [if_neg (by simp [he]),wi (by omega),ih (j + 1) (by omega) (by omega),he]
    simp
   ·rw [if_pos (by simpa using he)]
    simp [he]
  ·rw [if_neg (by simp; omega),List.drop_of_length_le (by omega),List.drop_of_length_le (by omega)]
   rfl
theorem psame_eq (k:Nat) (a b:List Int) (h9:a.length ≤ 2000000000) (hk:a.length < k):watchbillref06_Same k a b=some (decide (a=b)):=by
 unfold watchbillref06_Same
 by_cases hab:a.length=b.length
 ·have:=psame_l k a b hab h9 k 0 (by omega) (by omega)
  rw [List.drop_zero,List.drop_zero] at this
  rw [if_neg (by simp; omega)]
  exact this
 ·rw [if_pos (by simp; omega)]
  have:a ≠ b:=fun h => hab (by rw [h])
  simp [this]
theorem joined_awake:path_joined 9000000000 [(T_api_Node.mk 2 (T_api_Name.mk ([]:Str) ([]:Str)) ([]:List T_api_Attr) ([]:List T_api_Node) ([120]:Str)),(T_api_Node.mk 2 (T_api_Name.mk ([]:Str) ([]:Str)) ([]:List T_api_Attr) ([]:List T_api_Node) ([121]:Str))]=some [(T_api_Node.mk 2 (T_api_Name.mk ([]:Str) ([]:Str)) ([]:List T_api_Attr) ([]:List T_api_Node) ([120,121]:Str))]:=by kernel_rfl
def oA:T_api_Node:=T_api_Node.mk 1 (T_api_Name.mk ([]:Str) ([97]:Str)) ([]:List T_api_Attr) ([]:List T_api_Node) ([]:Str)
def oX (t:Str):T_api_Node:=T_api_Node.mk 2 (T_api_Name.mk ([]:Str) ([]:Str)) ([]:List T_api_Attr) ([]:List T_api_Node) t
def oT (l:List T_api_Node):T_api_Node:=T_api_Node.mk 1 (T_api_Name.mk ([]:Str) ([97]:Str)) ([]:List T_api_Attr) l ([]:Str)
theorem joined_awake2:path_joined 9000000000 [oA,oX [120],oA,oX [121]]=some [oA,oX [120],oA,oX [121]]:=by kernel_rfl
theorem wt_t3:wt (oT [oX [120],oA,oX [121]]) ≤ 1000000000:=Nat.le_of_ble_eq_true (by kernel_rfl)
theorem wt_oA:wt oA ≤ 1000000000:=Nat.le_of_ble_eq_true (by kernel_rfl)
theorem rem_awake (k:Nat):path_Remove k (oT [oX [120],oA,oX [121]]) [1]=some (oT [oX [120,121]],true):=by
 unfold path_Remove
 rw [if_pos ⟨wt_t3,by simp⟩,if_neg (by simp)]
 show kidsG (remF 1) (oT [oX [120],oA,oX [121]])=_
 unfold kidsG
 rw [show remF 1 (oT [oX [120],oA,oX [121]]).Kids=some [oX [120],oX [121]] from rfl]
 simp only
 rw [if_pos (show (oT [oX [120],oA,oX [121]]).Kind=1 from rfl),show path_joined 9000000000 [oX [120],oX [121]]=some [oX [120,121]] from joined_awake]
 rfl
theorem ins_awake (k:Nat):path_Insert k (oT [oX [120],oA,oX [121]]) oA 0 []=some (oT [oA,oX [120],oA,oX [121]],true):=by
 unfold path_Insert
 rw [if_pos ⟨wt_t3,wt_oA⟩]
 show kidsG (insF 0 oA) (oT [oX [120],oA,oX [121]])=_
 unfold kidsG
 rw [show insF 0 oA (oT [oX [120],oA,oX [121]]).Kids=some [oA,oX [120],oA,oX [121]] from rfl]
 simp only
 rw [if_pos (show (oT [oX [120],oA,oX [121]]).Kind=1 from rfl),joined_awake2]
 rfl
set_option maxRecDepth 100000 in
theorem awake_k (k:Nat) (hk:9000000000 ≤ k):watchbilllaw06_awake k=some true:=by
 have hpl:∀ n,wt n ≤ 1000000000→path_Places k n=some (plc n):=fun n h => places_eq (wt n) k n (Nat.le_refl _) h (by omega)
 have hw:=wt_t3
 unfold watchbilllaw06_awake
 rw [show watchbilllaw06_one []=some oA from rfl,Option.bind_some]
 rw [show watchbilllaw06_one [T_api_Node.mk 2 (T_api_Name.mk ([]:Str) ([]:Str)) ([]:List T_api_Attr) ([]:List T_api_Node) ([120]:Str),oA,T_api_Node.mk 2 (T_api_Name.mk ([]:Str) ([]:Str)) ([]:List T_api_Attr) ([]:List T_api_Node) ([121]:Str)]=some (oT [oX [120],oA,oX [121]]) from rfl,Option.bind_some,
  rem_awake,Option.bind_some,Option.bind_some,ins_awake,Option.bind_some,at_eq k (by omega) [3] (by simp) _ hw,Option.bind_some]
 rw [show atS [3] (oT [oX [120],oA,oX [121]])=(zeroN,false) from rfl,hpl _ hw]
 generalize hq:plc (oT [oX [120],oA,oX [121]])=q
 have hq2:plc (oT [oX [120],oA,oX [121]])=[[],[1]]:=by kernel_rfl
 rw [hq2] at hq
 subst hq
 simp [oT,oX,zeroN,rd]
theorem few_k (k:Nat) (hk:300000 ≤ k) (n:T_api_Node):∃ b,watchbilllaw04_Few k n=some b ∧ (b=true→wt n ≤ 30000 ∧ wf n ≤ 30000):=by
 obtain⟨w,hw,_,_,h⟩:=weigh_eq 30000 30000 k n (by omega) (by omega) (by omega)
 refine⟨decide ((w:Int) ≤ 30000),?_,fun hb => ?_⟩
 ·unfold watchbilllaw04_Few
  rw [show ((30000:Nat):Int)=30000 from rfl] at hw
  rw [hw,Option.bind_some]
 ·have:(w:Int) ≤ 30000:=by simpa using hb
  have:=h (by omega)
  have:=wt_wf n
  omega
end Go.Proofs.Ytjhbedgepfkdbaa.Pure
