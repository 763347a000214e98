import Derived.Test.YtjhbedgepfkdbaaPureW
import Derived.Test.YtjhbedgepfkdbaaVxDx
import Derived.Test.YtjhbedgepfkdbaaVxP
namespace Go.Proofs.Ytjhbedgepfkdbaa.Sh
open Go Go.RowKit Go.Proofs.Vx
set_option linter.unusedVariables false
theorem mapD (l:List (List D)):l.map eD=l:=List.map_id l
theorem wr1 {x:Int} {n:Nat} (h:x < (n:Int)) (h0:0 ≤ x) (hn:([]:List T_api_Attr).length + n ≤ 140737488355328):(D.v (.int .i64 (IntKind.i64.wrap (x + 1))))=.v (.int .i64 (x + 1)):=by
 rw [List.length_nil] at hn
 rw [w64 (by omega) (by omega)]
theorem cloneA {l:List T_api_Attr} (h:(([]:List T_api_Attr).length + l.length) * 48 ≤ 140737488355328):slices_Clone_45 l=some l:=by
 unfold slices_Clone_45; rw [if_pos h,List.nil_append]
theorem spl_any {r c:List D} (h:r.length=6) (hc:c.length=6):splice (eD r) 0 c=eD c:=by
 show r.take 0 ++ c ++ r.drop (0 + c.length)=c
 rw [List.take_zero,List.nil_append,List.drop_of_length_le (by omega),List.append_nil]
def toHN (n:T_api_Node):HN:=⟨n.Kind,n.Name.Space,n.Name.Local,n.Attrs,n.Kids.map e_api_Node,n.Text⟩
theorem LeD (l:List T_api_Node):L 6 eD (l.map e_api_Node)=L 6 e_api_Node l:=by
 unfold L; rw [mapD]
theorem e_HN_to (n:T_api_Node):e_HN (toHN n)=e_api_Node n:=by
 rw [e_api_Node_c]
 show [_,_,_,_,L 6 eD (n.Kids.map e_api_Node),_]=_
 rw [LeD]; rfl
theorem rd_map {l:List T_api_Node} {j:Int} (h:0 ≤ j ∧ j < (l.length:Int)):rd (l.map e_api_Node) j=e_api_Node (rd l j):=by
 have hj:j.toNat < l.length:=by omega
 simp [rd,hj]
theorem set_rd {l:List (List D)} {x:Int} (h:0 ≤ x ∧ x < (l.length:Int)):l.set (Int.toNat x) (rd l x)=l:=by
 have hj:x.toNat < l.length:=by omega
 have:rd l x=l[x.toNat]:=by simp [rd,hj]
 rw [this,List.set_getElem_self]
theorem rd_other {l:List (List D)} {x i:Int} {r:List D} (h:0 ≤ i ∧ i < x) (h2:0 ≤ x):rd (l.set (Int.toNat i) r) x=rd l x:=by
 simp only [rd]
 rw [List.getD_eq_getElem?_getD,List.getD_eq_getElem?_getD,List.getElem?_set_ne (by omega)]
theorem hcloneA {a0:List T_api_Attr} (c2:(([]:List T_api_Attr).length + a0.length) * 48 ≤ 140737488355328):Vx.Fn Try.prog 45 [(L 3 e_api_Attr a0)] [] (.sref 0) [(0,.rows true 47 3 (a0.map e_api_Attr))]:=by
 refine Vx.Fn.of_okO (t:=2) Try.func45 rfl (Nat.le_of_ble_eq_true rfl) rfl ?_
 refine Ok.seq ?_
 refine Ok.region (σ':=⟨[(0,(L 3 e_api_Attr a0))],[]⟩) ?_ ?_
 ·refine OpsOk.cons rfl (.nilT 2 47 3 (.inl rfl) rfl rfl) ?_
  exact .dn
 refine Ok.seq ?_
 refine Ok.seq ?_
 refine Ok.regionB (X:=fun b => b=true→a0=[]) (σ':=fun nb1 =>⟨[(0,(L 3 e_api_Attr a0)),(4,(.v (.bool nb1)))],[]⟩) ?_ (fun nb1 hnb1 => ?_)
 ·refine OpsB.cons rfl (.v (VOk.mv (d:=(L 3 e_api_Attr a0)) rfl rfl) rfl) ?_
  exact .last rfl (BOk.eqNil (E:=e_api_Attr) (xs:=a0) rfl Try.underlying24 rfl) rfl (fun nb1 => (.rf rfl rfl))
 refine Ok.test (b:=nb1) rfl (fun hb3 => ?_) (fun hb3 => ?_)
 ·have h0:=hnb1 hb3
  subst h0
  refine Ok.seq ?_
  refine Ok.region (σ':=⟨[(2,(.sref 2))],[(2,(.rows true 47 3 (([]:List T_api_Attr).map e_api_Attr)))]⟩) ?_ ?_
  ·refine OpsOk.cons rfl (.nilT 2 47 3 (.inl rfl) rfl rfl) ?_
   exact .dn
  refine Ok.ret ?_
  exact⟨.inl rfl,2,rfl,rfl⟩
 ·refine Ok.skip ?_
  refine Ok.seq ?_
  refine Ok.region (σ':=⟨[(2,(.sref 5))],[(5,(.rows true 47 3 ((([]:List T_api_Attr) ++ a0).map e_api_Attr)))]⟩) ?_ ?_
  ·refine OpsOk.cons rfl (OpOk.litT 5 rfl rfl Try.underlying24 sz47 zs47 rfl (rows:=([]:List T_api_Attr).map e_api_Attr) rfl rfl rfl rfl) ?_
   refine .rn 1 ?_
   refine OpsOk.cons rfl (OpOk.appendL (e:=e_api_Attr) (xs:=([]:List T_api_Attr)) (ys:=a0) rfl Try.underlying24 elt47 rfl rfl rfl c2 rfl) ?_
   refine .rn 1 ?_
   exact .dn
  refine Ok.ret ?_
  exact⟨.inl rfl,5,rfl,rfl⟩
theorem hcopyK (a0:T_api_Node) (ca:(([]:List T_api_Attr).length + a0.Attrs.length) * 48 ≤ 140737488355328) (ck:(([]:List T_api_Node).length + a0.Kids.length) * 104 ≤ 140737488355328) (hk:∀ j:Int,0 ≤ j ∧ j < (a0.Kids.length:Int)→Vx.Fn Try.prog 28 [(.agg (e_api_Node (rd a0.Kids j)))] [] (.agg (e_api_Node (rd a0.Kids j))) []):FnX Try.prog 28 [(.agg (e_api_Node a0))] [] fun r T' => ∃ s,r=(.agg [(.v (.int .i64 a0.Kind)),(S a0.Name.Space),(S a0.Name.Local),(L 3 e_api_Attr a0.Attrs),(.v s),(S a0.Text)]) ∧ T'=[(0,.pin s 27 6 (a0.Kids.map e_api_Node))]:=by
 obtain⟨Y0,hY0⟩:∃ Y0:List (List D),Y0.map eD=a0.Kids.map e_api_Node:=⟨_,mapD _⟩
 have hlen:Y0.length=a0.Kids.length:=by have:=congrArg List.length hY0; simpa using this
 have hY1:Y0=a0.Kids.map e_api_Node:=by rw [← hY0,mapD]
 have hat:∀ j:Int,0 ≤ j ∧ j < (Y0.length:Int)→rd Y0 j=e_HN (toHN (rd a0.Kids j)):=fun j hj => by rw [e_HN_to,hY1]; exact rd_map (by omega)
 have hsm:([]:List T_api_Attr).length + Y0.length ≤ 140737488355328:=by simp only [List.length_nil] at ck ⊢; omega
 refine FnX.of_okR Try.func28 rfl (Nat.le_of_ble_eq_true rfl) ?_
 refine Ok.seq ?_
 refine Ok.region (σ':=⟨[(1,(.bref 1 0)),(2,(.bref 2 0))],[(1,(bxN a0)),(2,bx0)]⟩) ?_ ?_
 ·refine OpsOk.cut1 0 (.agg (c_api_Node a0)) (DLe.of_eq (congrArg D.agg (e_api_Node_c _).symm)) ?_
  refine .rn 2 ?_
  exact .dn
 refine Ok.seq ?_
 refine Ok.drawE2 (σ':=⟨[(1,(.bref 1 0)),(2,(.bref 2 0))],[(1,(.box .ex (c1N a0))),(2,bx0),(1024,(.rows true 27 6 (Y0.map eD)))]⟩) [⟨true,[(1,(.bref 1 0))],[(1,(bxN a0))],(.bref 1 3),[],false,[]⟩,⟨true,[(5,(.bref 1 3))],[(1,(bxN a0))],(L 3 e_api_Attr a0.Attrs),[],false,[]⟩,⟨true,[(6,(L 3 e_api_Attr a0.Attrs))],[],(L 3 e_api_Attr a0.Attrs),[],false,[]⟩,⟨true,[(1,(.bref 1 0))],[(1,(bxN a0))],(.bref 1 4),[],false,[]⟩,⟨true,[(8,(.bref 1 4))],[(1,(bxN a0))],(L 6 e_api_Node a0.Kids),[],false,[]⟩,⟨true,[(9,(L 6 e_api_Node a0.Kids))],[],(.sref 10),[(10,(.rows true 27 6 (Y0.map eD)))],true,[]⟩,⟨true,[(1,(.bref 1 0))],[(1,(bxN a0))],(.bref 1 3),[],false,[]⟩,⟨true,[(11,(.bref 1 3)),(7,(L 3 e_api_Attr a0.Attrs))],[(1,(bxN a0))],.junk,[(1,(bxN a0))],false,[]⟩,⟨true,[(1,(.bref 1 0))],[(1,(bxN a0))],(.bref 1 4),[],false,[]⟩,⟨true,[(12,(.bref 1 4)),(10,(.sref 10))],[(1,(bxN a0)),(10,(.rows true 27 6 (Y0.map eD)))],.junk,[(1,(.box .ex [(.v (.int .i64 a0.Kind)),(S a0.Name.Space),(S a0.Name.Local),(L 3 e_api_Attr a0.Attrs),(.sref 10),(S a0.Text)]))],false,[]⟩] [[],[0],[1],[],[3],[4],[],[0,1,2,3,4,6],[7],[0,1,3,4,5,6,7,8]] mixed (by kernel_rfl) ?_ ?_
 ·refine TxtE2.cons ⟨.same _,trivial⟩ ⟨rfl,trivial⟩ (It2.val rfl rfl (fun T hT => (VOk.g (VOk.to (VOk.fieldB rfl Try.underlying27 rfl sz24 rfl hT.1) rfl)))) ?_
  refine TxtE2.cons ⟨.same _,trivial⟩ ⟨rfl,trivial⟩ (It2.val rfl rfl (fun T hT => (VOk.g (VOk.loadB (d:=(L 3 e_api_Attr a0.Attrs)) rfl Try.underlying24 rfl rfl hT.1 rfl)))) ?_
  refine TxtE2.cons ⟨.same _,trivial⟩ trivial (It2.val rfl rfl (fun T hT => (GOk.call rfl rfl cl45 rfl (slices_Clone_45.ok (cloneA ca)) rfl))) ?_
  refine TxtE2.cons ⟨.same _,trivial⟩ ⟨rfl,trivial⟩ (It2.val rfl rfl (fun T hT => (VOk.g (VOk.to (VOk.fieldB rfl Try.underlying27 rfl sz25 rfl hT.1) rfl)))) ?_
  refine TxtE2.cons ⟨.same _,trivial⟩ ⟨rfl,trivial⟩ (It2.val rfl rfl (fun T hT => (VOk.g (VOk.loadB (d:=(L 6 e_api_Node a0.Kids)) rfl Try.underlying25 rfl rfl hT.1 rfl)))) ?_
  refine TxtE2.cons ⟨.same _,trivial⟩ trivial (It2.callO 10 (rows:=Y0.map eD) rfl rfl rfl cl46 rfl (hY0 ▸ hclone ck) rfl) ?_
  refine TxtE2.cons ⟨.same _,trivial⟩ ⟨rfl,trivial⟩ (It2.val rfl rfl (fun T hT => (VOk.g (VOk.to (VOk.fieldB rfl Try.underlying27 rfl sz24 rfl hT.1) rfl)))) ?_
  refine TxtE2.cons ⟨.same _,.same _,trivial⟩ ⟨rfl,trivial⟩ (It2.store rfl rfl sz24 rfl rfl rfl rfl rfl rfl rfl rfl) ?_
  refine TxtE2.cons ⟨.same _,trivial⟩ ⟨rfl,trivial⟩ (It2.val rfl rfl (fun T hT => (VOk.g (VOk.to (VOk.fieldB rfl Try.underlying27 rfl sz25 rfl hT.1) rfl)))) ?_
  refine TxtE2.cons ⟨.same _,.same _,trivial⟩ ⟨rfl,rfl,trivial⟩ (It2.store rfl rfl sz25 rfl rfl rfl rfl rfl rfl rfl rfl) ?_
  exact .doneS (SLe.trans (Le.s (.rf rfl rfl)) (SLe.ren 10 1024 rfl rfl))
 refine Ok.seq ?_
 refine Ok.seq ?_
 refine Ok.region (σ':=⟨[(1,(.bref 1 0)),(2,(.bref 2 0)),(14,(.sref 1024)),(15,(.v (.int .i64 (Y0.length:Int)))),(16,(.v (.int .i64 0)))],[(1,(.box .ex (c1N a0))),(2,bx0),(1024,(.rows true 27 6 (Y0.map eD)))]⟩) ?_ ?_
 ·refine .rn 2 ?_
  refine .cv (VOk.lenTL (e:=eD) (xs:=Y0) rfl Try.underlying25 rfl rfl) rfl rfl ?_
  refine .rn 1 ?_
  exact .dn
 refine Ok.block ?_
 refine Ok.loop (fun m σ => ∃ x:Int,σ=⟨[(1,(.bref 1 0)),(2,(.bref 2 0)),(14,(.sref 1024)),(15,(.v (.int .i64 (Y0.length:Int)))),(16,(.v (.int .i64 x)))],[(1,(.box .ex (c1N a0))),(2,bx0),(1024,(.rows true 27 6 (Y0.map eD)))]⟩ ∧ 0 ≤ x ∧ x ≤ (Y0.length:Int) ∧ (Y0.length:Int) < x + m) (Y0.length + 1) ⟨0,rfl,by omega,by omega,by omega⟩ ?_
 rintro m σ ⟨x,rfl,h0,h1,hm⟩
 refine Ok.seq ?_
 refine .rg [(1,(.bref 1 0)),(2,(.bref 2 0)),(14,(.sref 1024)),(15,(.v (.int .i64 (Y0.length:Int)))),(16,(.v (.int .i64 x))),(17,(.v (.bool (decide (x < (Y0.length:Int))))))] [(1,(.box .ex (c1N a0))),(2,bx0),(1024,(.rows true 27 6 (Y0.map eD)))] ?_
 refine Ok.seq ?_
 refine Ok.test (b:=(decide (x < (Y0.length:Int)))) rfl (fun hb => ?_) (fun hb => ?_)
 ·refine Ok.skip ?_
  have hlt:x < (Y0.length:Int):=by simpa using hb
  have hix:0 ≤ x ∧ x < (Y0.length:Int):=⟨h0,hlt⟩
  have hrw:=hat x hix
  have hkid:Vx.Fn Try.prog 28 [(.agg (e_HN (toHN (rd a0.Kids x))))] [] (.agg (e_HN (toHN (rd a0.Kids x)))) []:=by rw [e_HN_to]; exact hk x (by omega)
  have hset:Y0.set (Int.toNat x) (e_HN (toHN (rd a0.Kids x)))=Y0:=by rw [← hrw]; exact set_rd hix
  have hrow:(rd Y0 x).length=6:=by rw [hrw]; rfl
  refine Ok.seq ?_
  refine Ok.block ?_
  refine Ok.seq ?_
  refine Ok.region (σ':=⟨[(1,(.bref 1 0)),(2,(.bref 2 0)),(3,(.v (.int .i64 x))),(4,(.bref 4 0)),(14,(.sref 1024)),(15,(.v (.int .i64 (Y0.length:Int)))),(16,(.v (.int .i64 x)))],[(1,(.box .ex (c1N a0))),(2,bx0),(4,(.box .ex (e_HN (toHN (rd a0.Kids x))))),(1024,(.rows true 27 6 (Y0.map eD)))]⟩) ?_ ?_
  ·refine .rn 1 ?_
   refine .cv (VOk.indexTL (e:=eD) (xs:=Y0) (i:=x) rfl Try.underlying25 sz27 rfl rfl rfl hix) rfl rfl ?_
   refine .cv (VOk.to (d':=(.agg (e_HN (toHN (rd a0.Kids x))))) (.loadEAgg rfl Try.underlying27 rfl sz27 rfl rfl (row_rd hix) (agg_ok hrow)) (agg_row hrow hrw)) rfl rfl ?_
   refine .rn 3 ?_
   exact .dn
  refine .dU [(1,(.bref 1 0)),(2,(.bref 2 0)),(14,(.sref 1024)),(15,(.v (.int .i64 (Y0.length:Int)))),(16,(.v (.int .i64 x)))] [(1,(.box .ex (c1N a0))),(2,bx0),(1024,(.rows true 27 6 ((Y0.set (Int.toNat x) (e_HN (toHN (rd a0.Kids x)))).map eD)))] [[],[0],[],[],[3],[1,2],[4,5]] mixed ?_ ?_
  ·refine .un 4 ?_
   refine .uc ⟨true,[(24,(.agg (e_HN (toHN (rd a0.Kids x)))))],[],(.agg (e_HN (toHN (rd a0.Kids x)))),[],false,[]⟩ ⟨.same _,trivial⟩ trivial (It2.val rfl rfl (fun T hT => (GOk.call rfl rfl cl28 rfl hkid rfl))) ?_
   refine .uc ⟨true,[(22,(.sref 1024)),(23,(.v (.int .i64 x)))],[(1024,(.rows true 27 6 (Y0.map eD)))],(.eref 1024 (Int.toNat x) 0),[],false,[]⟩ ⟨.same _,.same _,trivial⟩ ⟨rfl,trivial⟩ (It2.val rfl rfl (fun T hT => (VOk.g (VOk.indexTL (e:=eD) (xs:=Y0) (i:=x) rfl Try.underlying25 sz27 rfl hT.1 rfl hix)))) ?_
   refine .uc ⟨true,[(26,(.eref 1024 (Int.toNat x) 0)),(25,(.agg (e_HN (toHN (rd a0.Kids x)))))],[(1024,(.rows true 27 6 (Y0.map eD)))],.junk,[(1024,(.rows true 27 6 ((Y0.set (Int.toNat x) (e_HN (toHN (rd a0.Kids x)))).map eD)))],false,[]⟩ ⟨.same _,.same _,trivial⟩ ⟨rfl,trivial⟩ (It2.storeEL (e:=eD) (xs:=Y0) (i:=x) (y:=(e_HN (toHN (rd a0.Kids x)))) rfl rfl sz27 rfl rfl rfl hix rfl rfl rfl (spl_any hrow rfl) rfl rfl) ?_
   exact .dn
  refine Ok.region (σ':=⟨[(1,(.bref 1 0)),(2,(.bref 2 0)),(14,(.sref 1024)),(15,(.v (.int .i64 (Y0.length:Int)))),(16,(.v (.int .i64 (x + 1))))],[(1,(.box .ex (c1N a0))),(2,bx0),(1024,(.rows true 27 6 ((Y0.set (Int.toNat x) (e_HN (toHN (rd a0.Kids x)))).map eD)))]⟩) ?_ ?_
  ·refine .cv (VOk.to (d':=(.v (.int .i64 (x + 1)))) (VOk.arith (op:=.add) (k:=.i64) (a:=x) (b:=1) rfl rfl rfl rfl) (wr1 hlt h0 hsm)) rfl rfl ?_
   refine .rn 1 ?_
   exact .dn
  exact⟨m - 1,by omega,x + 1,by rw [hset],by omega,by omega,by omega⟩
 ·have hge:¬ x < (Y0.length:Int):=by simpa using hb
  refine Ok.exit ?_
  refine Ok.seq ?_
  refine Ok.sle (σ':=⟨[(1,(.bref 1 0)),(2,(.bref 2 0))],[(1,(.box .ex [(.v (.int .i64 a0.Kind)),(S a0.Name.Space),(S a0.Name.Local),(L 3 e_api_Attr a0.Attrs),(.sref 0),(S a0.Text)])),(2,bx0),(0,(.rows true 27 6 (Y0.map eD)))]⟩) (SLe.trans (Le.s (.rf rfl rfl)) (SLe.ren 1024 0 rfl rfl)) ?_
  refine Ok.pinup 0 (ety:=27) (sz:=6) (rows:=Y0.map eD) rfl (fun s => ?_)
  refine Ok.le (σ':=⟨[(1,(.bref 1 0)),(2,(.bref 2 0))],[(1,(.box .ex [(.v (.int .i64 a0.Kind)),(S a0.Name.Space),(S a0.Name.Local),(L 3 e_api_Attr a0.Attrs),(.v s),(S a0.Text)])),(2,bx0),(0,(.pin s 27 6 (Y0.map eD)))]⟩) (.rf rfl rfl) ?_
  refine .rg [(2,(.bref 2 0))] [(2,(.box .ex [(.v (.int .i64 a0.Kind)),(S a0.Name.Space),(S a0.Name.Local),(L 3 e_api_Attr a0.Attrs),(.v s),(S a0.Text)])),(0,(.pin s 27 6 (Y0.map eD)))] ?_
  refine Ok.ret ?_
  exact⟨.inl rfl,(.agg [(.v (.int .i64 a0.Kind)),(S a0.Name.Space),(S a0.Name.Local),(L 3 e_api_Attr a0.Attrs),(.v s),(S a0.Text)]),[(0,(.pin s 27 6 (Y0.map eD)))],⟨s,rfl,by rw [hY0]⟩,⟨_,(.cons (.cell (VOk.to (d':=(.agg [(.v (.int .i64 a0.Kind)),(S a0.Name.Space),(S a0.Name.Local),(L 3 e_api_Attr a0.Attrs),(.v s),(S a0.Text)])) (.loadBAgg rfl Try.underlying27 rfl sz27 rfl rfl rfl) rfl)) .nil),rfl⟩,.same _,trivial⟩
theorem hcopyA (a0:T_api_Node) (ca:(([]:List T_api_Attr).length + a0.Attrs.length) * 48 ≤ 140737488355328) (ck:(([]:List T_api_Node).length + a0.Kids.length) * 104 ≤ 140737488355328) (hk:∀ j:Int,0 ≤ j ∧ j < (a0.Kids.length:Int)→Vx.Fn Try.prog 28 [(.agg (e_api_Node (rd a0.Kids j)))] [] (.agg (e_api_Node (rd a0.Kids j))) []):FnX Try.prog 28 [(.agg (e_api_Node a0))] [] fun r T' => ∃ s,r=(.agg [(.v (.int .i64 a0.Kind)),(S a0.Name.Space),(S a0.Name.Local),(.v s),(L 6 e_api_Node a0.Kids),(S a0.Text)]) ∧ T'=[(0,.pin s 47 3 (a0.Attrs.map e_api_Attr))]:=by
 obtain⟨Y0,hY0⟩:∃ Y0:List (List D),Y0.map eD=a0.Kids.map e_api_Node:=⟨_,mapD _⟩
 have hlen:Y0.length=a0.Kids.length:=by have:=congrArg List.length hY0; simpa using this
 have hY1:Y0=a0.Kids.map e_api_Node:=by rw [← hY0,mapD]
 have hat:∀ j:Int,0 ≤ j ∧ j < (Y0.length:Int)→rd Y0 j=e_HN (toHN (rd a0.Kids j)):=fun j hj => by rw [e_HN_to,hY1]; exact rd_map (by omega)
 have hsm:([]:List T_api_Attr).length + Y0.length ≤ 140737488355328:=by simp only [List.length_nil] at ck ⊢; omega
 refine FnX.of_okR Try.func28 rfl (Nat.le_of_ble_eq_true rfl) ?_
 refine Ok.seq ?_
 refine Ok.region (σ':=⟨[(1,(.bref 1 0)),(2,(.bref 2 0))],[(1,(bxN a0)),(2,bx0)]⟩) ?_ ?_
 ·refine OpsOk.cut1 0 (.agg (c_api_Node a0)) (DLe.of_eq (congrArg D.agg (e_api_Node_c _).symm)) ?_
  refine .rn 2 ?_
  exact .dn
 refine Ok.seq ?_
 refine Ok.drawE2 (σ':=⟨[(1,(.bref 1 0)),(2,(.bref 2 0))],[(1,(.box .ex [(.v (.int .i64 a0.Kind)),(S a0.Name.Space),(S a0.Name.Local),(.sref 0),(.sref 1024),(S a0.Text)])),(2,bx0),(0,(.rows true 47 3 (a0.Attrs.map e_api_Attr))),(1024,(.rows true 27 6 (Y0.map eD)))]⟩) [⟨true,[(1,(.bref 1 0))],[(1,(bxN a0))],(.bref 1 3),[],false,[]⟩,⟨true,[(5,(.bref 1 3))],[(1,(bxN a0))],(L 3 e_api_Attr a0.Attrs),[],false,[]⟩,⟨true,[(6,(L 3 e_api_Attr a0.Attrs))],[],(.sref 7),[(7,(.rows true 47 3 (a0.Attrs.map e_api_Attr)))],true,[]⟩,⟨true,[(1,(.bref 1 0))],[(1,(bxN a0))],(.bref 1 4),[],false,[]⟩,⟨true,[(8,(.bref 1 4))],[(1,(bxN a0))],(L 6 e_api_Node a0.Kids),[],false,[]⟩,⟨true,[(9,(L 6 e_api_Node a0.Kids))],[],(.sref 10),[(10,(.rows true 27 6 (Y0.map eD)))],true,[]⟩,⟨true,[(1,(.bref 1 0))],[(1,(bxN a0))],(.bref 1 3),[],false,[]⟩,⟨true,[(11,(.bref 1 3)),(7,(.sref 7))],[(1,(bxN a0)),(7,(.rows true 47 3 (a0.Attrs.map e_api_Attr)))],.junk,[(1,(.box .ex [(.v (.int .i64 a0.Kind)),(S a0.Name.Space),(S a0.Name.Local),(.sref 7),(L 6 e_api_Node a0.Kids),(S a0.Text)]))],false,[]⟩,⟨true,[(1,(.bref 1 0))],[(1,(.box .ex [(.v (.int .i64 a0.Kind)),(S a0.Name.Space),(S a0.Name.Local),(.sref 7),(L 6 e_api_Node a0.Kids),(S a0.Text)]))],(.bref 1 4),[],false,[]⟩,⟨true,[(12,(.bref 1 4)),(10,(.sref 10))],[(1,(.box .ex [(.v (.int .i64 a0.Kind)),(S a0.Name.Space),(S a0.Name.Local),(.sref 7),(L 6 e_api_Node a0.Kids),(S a0.Text)])),(10,(.rows true 27 6 (Y0.map eD)))],.junk,[(1,(.box .ex [(.v (.int .i64 a0.Kind)),(S a0.Name.Space),(S a0.Name.Local),(.sref 7),(.sref 10),(S a0.Text)]))],false,[]⟩] [[],[0],[1],[],[3],[4],[],[0,1,2,3,4,6],[7],[0,1,2,3,4,5,6,7,8]] mixed (by kernel_rfl) ?_ ?_
 ·refine TxtE2.cons ⟨.same _,trivial⟩ ⟨rfl,trivial⟩ (It2.val rfl rfl (fun T hT => (VOk.g (VOk.to (VOk.fieldB rfl Try.underlying27 rfl sz24 rfl hT.1) rfl)))) ?_
  refine TxtE2.cons ⟨.same _,trivial⟩ ⟨rfl,trivial⟩ (It2.val rfl rfl (fun T hT => (VOk.g (VOk.loadB (d:=(L 3 e_api_Attr a0.Attrs)) rfl Try.underlying24 rfl rfl hT.1 rfl)))) ?_
  refine TxtE2.cons ⟨.same _,trivial⟩ trivial (It2.callO 7 (rows:=a0.Attrs.map e_api_Attr) rfl rfl rfl cl45 rfl (hcloneA ca) rfl) ?_
  refine TxtE2.cons ⟨.same _,trivial⟩ ⟨rfl,trivial⟩ (It2.val rfl rfl (fun T hT => (VOk.g (VOk.to (VOk.fieldB rfl Try.underlying27 rfl sz25 rfl hT.1) rfl)))) ?_
  refine TxtE2.cons ⟨.same _,trivial⟩ ⟨rfl,trivial⟩ (It2.val rfl rfl (fun T hT => (VOk.g (VOk.loadB (d:=(L 6 e_api_Node a0.Kids)) rfl Try.underlying25 rfl rfl hT.1 rfl)))) ?_
  refine TxtE2.cons ⟨.same _,trivial⟩ trivial (It2.callO 10 (rows:=Y0.map eD) rfl rfl rfl cl46 rfl (hY0 ▸ hclone ck) rfl) ?_
  refine TxtE2.cons ⟨.same _,trivial⟩ ⟨rfl,trivial⟩ (It2.val rfl rfl (fun T hT => (VOk.g (VOk.to (VOk.fieldB rfl Try.underlying27 rfl sz24 rfl hT.1) rfl)))) ?_
  refine TxtE2.cons ⟨.same _,.same _,trivial⟩ ⟨rfl,rfl,trivial⟩ (It2.store rfl rfl sz24 rfl rfl rfl rfl rfl rfl rfl rfl) ?_
  refine TxtE2.cons ⟨.same _,trivial⟩ ⟨rfl,trivial⟩ (It2.val rfl rfl (fun T hT => (VOk.g (VOk.to (VOk.fieldB rfl Try.underlying27 rfl sz25 rfl hT.1) rfl)))) ?_
  refine TxtE2.cons ⟨.same _,.same _,trivial⟩ ⟨rfl,rfl,trivial⟩ (It2.store rfl rfl sz25 rfl rfl rfl rfl rfl rfl rfl rfl) ?_
  exact .doneS (SLe.trans (Le.s (.rf rfl rfl)) (SLe.trans (SLe.ren 7 0 rfl rfl) (SLe.ren 10 1024 rfl rfl)))
 refine Ok.seq ?_
 refine Ok.seq ?_
 refine Ok.region (σ':=⟨[(1,(.bref 1 0)),(2,(.bref 2 0)),(14,(.sref 1024)),(15,(.v (.int .i64 (Y0.length:Int)))),(16,(.v (.int .i64 0)))],[(1,(.box .ex [(.v (.int .i64 a0.Kind)),(S a0.Name.Space),(S a0.Name.Local),(.sref 0),(.sref 1024),(S a0.Text)])),(2,bx0),(0,(.rows true 47 3 (a0.Attrs.map e_api_Attr))),(1024,(.rows true 27 6 (Y0.map eD)))]⟩) ?_ ?_
 ·refine .rn 2 ?_
  refine .cv (VOk.lenTL (e:=eD) (xs:=Y0) rfl Try.underlying25 rfl rfl) rfl rfl ?_
  refine .rn 1 ?_
  exact .dn
 refine Ok.block ?_
 refine Ok.loop (fun m σ => ∃ x:Int,σ=⟨[(1,(.bref 1 0)),(2,(.bref 2 0)),(14,(.sref 1024)),(15,(.v (.int .i64 (Y0.length:Int)))),(16,(.v (.int .i64 x)))],[(1,(.box .ex [(.v (.int .i64 a0.Kind)),(S a0.Name.Space),(S a0.Name.Local),(.sref 0),(.sref 1024),(S a0.Text)])),(2,bx0),(0,(.rows true 47 3 (a0.Attrs.map e_api_Attr))),(1024,(.rows true 27 6 (Y0.map eD)))]⟩ ∧ 0 ≤ x ∧ x ≤ (Y0.length:Int) ∧ (Y0.length:Int) < x + m) (Y0.length + 1) ⟨0,rfl,by omega,by omega,by omega⟩ ?_
 rintro m σ ⟨x,rfl,h0,h1,hm⟩
 refine Ok.seq ?_
 refine .rg [(1,(.bref 1 0)),(2,(.bref 2 0)),(14,(.sref 1024)),(15,(.v (.int .i64 (Y0.length:Int)))),(16,(.v (.int .i64 x))),(17,(.v (.bool (decide (x < (Y0.length:Int))))))] [(1,(.box .ex [(.v (.int .i64 a0.Kind)),(S a0.Name.Space),(S a0.Name.Local),(.sref 0),(.sref 1024),(S a0.Text)])),(2,bx0),(0,(.rows true 47 3 (a0.Attrs.map e_api_Attr))),(1024,(.rows true 27 6 (Y0.map eD)))] ?_
 refine Ok.seq ?_
 refine Ok.test (b:=(decide (x < (Y0.length:Int)))) rfl (fun hb => ?_) (fun hb => ?_)
 ·refine Ok.skip ?_
  have hlt:x < (Y0.length:Int):=by simpa using hb
  have hix:0 ≤ x ∧ x < (Y0.length:Int):=⟨h0,hlt⟩
  have hrw:=hat x hix
  have hkid:Vx.Fn Try.prog 28 [(.agg (e_HN (toHN (rd a0.Kids x))))] [] (.agg (e_HN (toHN (rd a0.Kids x)))) []:=by rw [e_HN_to]; exact hk x (by omega)
  have hset:Y0.set (Int.toNat x) (e_HN (toHN (rd a0.Kids x)))=Y0:=by rw [← hrw]; exact set_rd hix
  have hrow:(rd Y0 x).length=6:=by rw [hrw]; rfl
  refine Ok.seq ?_
  refine Ok.block ?_
  refine Ok.seq ?_
  refine Ok.region (σ':=⟨[(1,(.bref 1 0)),(2,(.bref 2 0)),(3,(.v (.int .i64 x))),(4,(.bref 4 0)),(14,(.sref 1024)),(15,(.v (.int .i64 (Y0.length:Int)))),(16,(.v (.int .i64 x)))],[(1,(.box .ex [(.v (.int .i64 a0.Kind)),(S a0.Name.Space),(S a0.Name.Local),(.sref 0),(.sref 1024),(S a0.Text)])),(2,bx0),(0,(.rows true 47 3 (a0.Attrs.map e_api_Attr))),(4,(.box .ex (e_HN (toHN (rd a0.Kids x))))),(1024,(.rows true 27 6 (Y0.map eD)))]⟩) ?_ ?_
  ·refine .rn 1 ?_
   refine .cv (VOk.indexTL (e:=eD) (xs:=Y0) (i:=x) rfl Try.underlying25 sz27 rfl rfl rfl hix) rfl rfl ?_
   refine .cv (VOk.to (d':=(.agg (e_HN (toHN (rd a0.Kids x))))) (.loadEAgg rfl Try.underlying27 rfl sz27 rfl rfl (row_rd hix) (agg_ok hrow)) (agg_row hrow hrw)) rfl rfl ?_
   refine .rn 3 ?_
   exact .dn
  refine .dU [(1,(.bref 1 0)),(2,(.bref 2 0)),(14,(.sref 1024)),(15,(.v (.int .i64 (Y0.length:Int)))),(16,(.v (.int .i64 x)))] [(1,(.box .ex [(.v (.int .i64 a0.Kind)),(S a0.Name.Space),(S a0.Name.Local),(.sref 0),(.sref 1024),(S a0.Text)])),(2,bx0),(0,(.rows true 47 3 (a0.Attrs.map e_api_Attr))),(1024,(.rows true 27 6 ((Y0.set (Int.toNat x) (e_HN (toHN (rd a0.Kids x)))).map eD)))] [[],[0],[],[],[3],[1,2],[4,5]] mixed ?_ ?_
  ·refine .un 4 ?_
   refine .uc ⟨true,[(24,(.agg (e_HN (toHN (rd a0.Kids x)))))],[],(.agg (e_HN (toHN (rd a0.Kids x)))),[],false,[]⟩ ⟨.same _,trivial⟩ trivial (It2.val rfl rfl (fun T hT => (GOk.call rfl rfl cl28 rfl hkid rfl))) ?_
   refine .uc ⟨true,[(22,(.sref 1024)),(23,(.v (.int .i64 x)))],[(1024,(.rows true 27 6 (Y0.map eD)))],(.eref 1024 (Int.toNat x) 0),[],false,[]⟩ ⟨.same _,.same _,trivial⟩ ⟨rfl,trivial⟩ (It2.val rfl rfl (fun T hT => (VOk.g (VOk.indexTL (e:=eD) (xs:=Y0) (i:=x) rfl Try.underlying25 sz27 rfl hT.1 rfl hix)))) ?_
   refine .uc ⟨true,[(26,(.eref 1024 (Int.toNat x) 0)),(25,(.agg (e_HN (toHN (rd a0.Kids x)))))],[(1024,(.rows true 27 6 (Y0.map eD)))],.junk,[(1024,(.rows true 27 6 ((Y0.set (Int.toNat x) (e_HN (toHN (rd a0.Kids x)))).map eD)))],false,[]⟩ ⟨.same _,.same _,trivial⟩ ⟨rfl,trivial⟩ (It2.storeEL (e:=eD) (xs:=Y0) (i:=x) (y:=(e_HN (toHN (rd a0.Kids x)))) rfl rfl sz27 rfl rfl rfl hix rfl rfl rfl (spl_any hrow rfl) rfl rfl) ?_
   exact .dn
  refine Ok.region (σ':=⟨[(1,(.bref 1 0)),(2,(.bref 2 0)),(14,(.sref 1024)),(15,(.v (.int .i64 (Y0.length:Int)))),(16,(.v (.int .i64 (x + 1))))],[(1,(.box .ex [(.v (.int .i64 a0.Kind)),(S a0.Name.Space),(S a0.Name.Local),(.sref 0),(.sref 1024),(S a0.Text)])),(2,bx0),(0,(.rows true 47 3 (a0.Attrs.map e_api_Attr))),(1024,(.rows true 27 6 ((Y0.set (Int.toNat x) (e_HN (toHN (rd a0.Kids x)))).map eD)))]⟩) ?_ ?_
  ·refine .cv (VOk.to (d':=(.v (.int .i64 (x + 1)))) (VOk.arith (op:=.add) (k:=.i64) (a:=x) (b:=1) rfl rfl rfl rfl) (wr1 hlt h0 hsm)) rfl rfl ?_
   refine .rn 1 ?_
   exact .dn
  exact⟨m - 1,by omega,x + 1,by rw [hset],by omega,by omega,by omega⟩
 ·have hge:¬ x < (Y0.length:Int):=by simpa using hb
  refine Ok.exit ?_
  refine Ok.seq ?_
  refine Ok.pinup 0 (ety:=47) (sz:=3) (rows:=a0.Attrs.map e_api_Attr) rfl (fun s => ?_)
  refine Ok.le (σ':=⟨[(1,(.bref 1 0)),(2,(.bref 2 0))],[(1,(.box .ex [(.v (.int .i64 a0.Kind)),(S a0.Name.Space),(S a0.Name.Local),(.v s),(.sref 1024),(S a0.Text)])),(2,bx0),(0,(.pin s 47 3 (a0.Attrs.map e_api_Attr))),(1024,(.rows true 27 6 (Y0.map eD)))]⟩) (.rf rfl rfl) ?_
  have hLY:L 6 eD Y0=(L 6 e_api_Node a0.Kids):=by unfold L; rw [hY0]
  refine Ok.region (σ':=⟨[(2,(.bref 2 0))],[(2,(.box .ex [(.v (.int .i64 a0.Kind)),(S a0.Name.Space),(S a0.Name.Local),(.v s),(L 6 e_api_Node a0.Kids),(S a0.Text)])),(0,(.pin s 47 3 (a0.Attrs.map e_api_Attr)))]⟩) ?_ ?_
  ·refine OpsOk.frzL 1024 (e:=eD) (xs:=Y0) rfl ?_
   refine .cv (VOk.to (d':=(.agg [(.v (.int .i64 a0.Kind)),(S a0.Name.Space),(S a0.Name.Local),(.v s),(L 6 e_api_Node a0.Kids),(S a0.Text)])) (.loadBAgg rfl Try.underlying27 rfl sz27 rfl rfl rfl) (by rw [← hLY]; rfl)) rfl rfl ?_
   refine .rn 1 ?_
   exact .dn
  refine Ok.ret ?_
  exact⟨.inl rfl,(.agg [(.v (.int .i64 a0.Kind)),(S a0.Name.Space),(S a0.Name.Local),(.v s),(L 6 e_api_Node a0.Kids),(S a0.Text)]),[(0,(.pin s 47 3 (a0.Attrs.map e_api_Attr)))],⟨s,rfl,rfl⟩,⟨_,(.cons (.cell (VOk.to (d':=(.agg [(.v (.int .i64 a0.Kind)),(S a0.Name.Space),(S a0.Name.Local),(.v s),(L 6 e_api_Node a0.Kids),(S a0.Text)])) (.loadBAgg rfl Try.underlying27 rfl sz27 rfl rfl rfl) rfl)) .nil),rfl⟩,.same _,trivial⟩
theorem hcopyIK (a0:T_api_Node) (i:Int) {kd:Int} {sp lo tx:Str} {ats:List T_api_Attr} {ety sz:Nat} {rs:List (List D)} (hi:0 ≤ i ∧ i < (a0.Kids.length:Int)) (ca:(([]:List T_api_Attr).length + a0.Attrs.length) * 48 ≤ 140737488355328) (ck:(([]:List T_api_Node).length + a0.Kids.length) * 104 ≤ 140737488355328) (hk:∀ j:Int,0 ≤ j ∧ j < (a0.Kids.length:Int)→j ≠ i→Vx.Fn Try.prog 28 [(.agg (e_api_Node (rd a0.Kids j)))] [] (.agg (e_api_Node (rd a0.Kids j))) [])
  (hX:FnX Try.prog 28 [(.agg (e_api_Node (rd a0.Kids i)))] [] fun r T' => ∃ s,r=.agg [(.v (.int .i64 kd)),(S sp),(S lo),(L 3 e_api_Attr ats),(.v s),(S tx)] ∧ T'=[(0,(.pin s ety sz rs))]) :
  FnX Try.prog 28 [(.agg (e_api_Node a0))] [] fun r T' => ∃ s,r=.agg (e_HN ⟨a0.Kind,a0.Name.Space,a0.Name.Local,a0.Attrs,(a0.Kids.map e_api_Node).set i.toNat [(.v (.int .i64 kd)),(S sp),(S lo),(L 3 e_api_Attr ats),(.v s),(S tx)],a0.Text⟩) ∧ T'=[(0,(.pin s ety sz rs))]:=by
 obtain⟨Y0,hY0⟩:∃ Y0:List (List D),Y0.map eD=a0.Kids.map e_api_Node:=⟨_,mapD _⟩
 have hlen:Y0.length=a0.Kids.length:=by have:=congrArg List.length hY0; simpa using this
 have hY1:Y0=a0.Kids.map e_api_Node:=by rw [← hY0,mapD]
 have hat:∀ j:Int,0 ≤ j ∧ j < (Y0.length:Int)→rd Y0 j=e_HN (toHN (rd a0.Kids j)):=fun j hj => by rw [e_HN_to,hY1]; exact rd_map (by omega)
 have hsm:([]:List T_api_Attr).length + Y0.length ≤ 140737488355328:=by simp only [List.length_nil] at ck ⊢; omega
 refine FnX.of_okR Try.func28 rfl (Nat.le_of_ble_eq_true rfl) ?_
 have hlenS:∀ s,(Y0.set i.toNat [(.v (.int .i64 kd)),(S sp),(S lo),(L 3 e_api_Attr ats),(.v s),(S tx)]).length=Y0.length:=fun s => List.length_set
 refine Ok.seq ?_
 refine Ok.region (σ':=⟨[(1,(.bref 1 0)),(2,(.bref 2 0))],[(1,(bxN a0)),(2,bx0)]⟩) ?_ ?_
 ·refine OpsOk.cut1 0 (.agg (c_api_Node a0)) (DLe.of_eq (congrArg D.agg (e_api_Node_c _).symm)) ?_
  refine .rn 2 ?_
  exact .dn
 refine Ok.seq ?_
 refine Ok.drawE2 (σ':=⟨[(1,(.bref 1 0)),(2,(.bref 2 0))],[(1,(.box .ex (c1N a0))),(2,bx0),(1024,(.rows true 27 6 (Y0.map eD)))]⟩) [⟨true,[(1,(.bref 1 0))],[(1,(bxN a0))],(.bref 1 3),[],false,[]⟩,⟨true,[(5,(.bref 1 3))],[(1,(bxN a0))],(L 3 e_api_Attr a0.Attrs),[],false,[]⟩,⟨true,[(6,(L 3 e_api_Attr a0.Attrs))],[],(L 3 e_api_Attr a0.Attrs),[],false,[]⟩,⟨true,[(1,(.bref 1 0))],[(1,(bxN a0))],(.bref 1 4),[],false,[]⟩,⟨true,[(8,(.bref 1 4))],[(1,(bxN a0))],(L 6 e_api_Node a0.Kids),[],false,[]⟩,⟨true,[(9,(L 6 e_api_Node a0.Kids))],[],(.sref 10),[(10,(.rows true 27 6 (Y0.map eD)))],true,[]⟩,⟨true,[(1,(.bref 1 0))],[(1,(bxN a0))],(.bref 1 3),[],false,[]⟩,⟨true,[(11,(.bref 1 3)),(7,(L 3 e_api_Attr a0.Attrs))],[(1,(bxN a0))],.junk,[(1,(bxN a0))],false,[]⟩,⟨true,[(1,(.bref 1 0))],[(1,(bxN a0))],(.bref 1 4),[],false,[]⟩,⟨true,[(12,(.bref 1 4)),(10,(.sref 10))],[(1,(bxN a0)),(10,(.rows true 27 6 (Y0.map eD)))],.junk,[(1,(.box .ex [(.v (.int .i64 a0.Kind)),(S a0.Name.Space),(S a0.Name.Local),(L 3 e_api_Attr a0.Attrs),(.sref 10),(S a0.Text)]))],false,[]⟩] [[],[0],[1],[],[3],[4],[],[0,1,2,3,4,6],[7],[0,1,3,4,5,6,7,8]] mixed (by kernel_rfl) ?_ ?_
 ·refine TxtE2.cons ⟨.same _,trivial⟩ ⟨rfl,trivial⟩ (It2.val rfl rfl (fun T hT => (VOk.g (VOk.to (VOk.fieldB rfl Try.underlying27 rfl sz24 rfl hT.1) rfl)))) ?_
  refine TxtE2.cons ⟨.same _,trivial⟩ ⟨rfl,trivial⟩ (It2.val rfl rfl (fun T hT => (VOk.g (VOk.loadB (d:=(L 3 e_api_Attr a0.Attrs)) rfl Try.underlying24 rfl rfl hT.1 rfl)))) ?_
  refine TxtE2.cons ⟨.same _,trivial⟩ trivial (It2.val rfl rfl (fun T hT => (GOk.call rfl rfl cl45 rfl (slices_Clone_45.ok (cloneA ca)) rfl))) ?_
  refine TxtE2.cons ⟨.same _,trivial⟩ ⟨rfl,trivial⟩ (It2.val rfl rfl (fun T hT => (VOk.g (VOk.to (VOk.fieldB rfl Try.underlying27 rfl sz25 rfl hT.1) rfl)))) ?_
  refine TxtE2.cons ⟨.same _,trivial⟩ ⟨rfl,trivial⟩ (It2.val rfl rfl (fun T hT => (VOk.g (VOk.loadB (d:=(L 6 e_api_Node a0.Kids)) rfl Try.underlying25 rfl rfl hT.1 rfl)))) ?_
  refine TxtE2.cons ⟨.same _,trivial⟩ trivial (It2.callO 10 (rows:=Y0.map eD) rfl rfl rfl cl46 rfl (hY0 ▸ hclone ck) rfl) ?_
  refine TxtE2.cons ⟨.same _,trivial⟩ ⟨rfl,trivial⟩ (It2.val rfl rfl (fun T hT => (VOk.g (VOk.to (VOk.fieldB rfl Try.underlying27 rfl sz24 rfl hT.1) rfl)))) ?_
  refine TxtE2.cons ⟨.same _,.same _,trivial⟩ ⟨rfl,trivial⟩ (It2.store rfl rfl sz24 rfl rfl rfl rfl rfl rfl rfl rfl) ?_
  refine TxtE2.cons ⟨.same _,trivial⟩ ⟨rfl,trivial⟩ (It2.val rfl rfl (fun T hT => (VOk.g (VOk.to (VOk.fieldB rfl Try.underlying27 rfl sz25 rfl hT.1) rfl)))) ?_
  refine TxtE2.cons ⟨.same _,.same _,trivial⟩ ⟨rfl,rfl,trivial⟩ (It2.store rfl rfl sz25 rfl rfl rfl rfl rfl rfl rfl rfl) ?_
  exact .doneS (SLe.trans (Le.s (.rf rfl rfl)) (SLe.ren 10 1024 rfl rfl))
 refine Ok.seq ?_
 refine Ok.seq ?_
 refine Ok.region (σ':=⟨[(1,(.bref 1 0)),(2,(.bref 2 0)),(14,(.sref 1024)),(15,(.v (.int .i64 (Y0.length:Int)))),(16,(.v (.int .i64 0)))],[(1,(.box .ex (c1N a0))),(2,bx0),(1024,(.rows true 27 6 (Y0.map eD)))]⟩) ?_ ?_
 ·refine .rn 2 ?_
  refine .cv (VOk.lenTL (e:=eD) (xs:=Y0) rfl Try.underlying25 rfl rfl) rfl rfl ?_
  refine .rn 1 ?_
  exact .dn
 refine Ok.block ?_
 refine Ok.loop (fun m σ => (∃ x:Int,σ=⟨[(1,(.bref 1 0)),(2,(.bref 2 0)),(14,(.sref 1024)),(15,(.v (.int .i64 (Y0.length:Int)))),(16,(.v (.int .i64 x)))],[(1,(.box .ex (c1N a0))),(2,bx0),(1024,(.rows true 27 6 (Y0.map eD)))]⟩ ∧ 0 ≤ x ∧ x ≤ i ∧ (Y0.length:Int) < x + m) ∨ ∃ s,∃ x:Int,σ=⟨[(1,(.bref 1 0)),(2,(.bref 2 0)),(14,(.sref 1024)),(15,(.v (.int .i64 (Y0.length:Int)))),(16,(.v (.int .i64 x)))],[(1,(.box .ex (c1N a0))),(2,bx0),(0,(.pin s ety sz rs)),(1024,(.rows true 27 6 ((Y0.set (Int.toNat i) [(.v (.int .i64 kd)),(S sp),(S lo),(L 3 e_api_Attr ats),(.v s),(S tx)]).map eD)))]⟩ ∧ i < x ∧ x ≤ (Y0.length:Int) ∧ (Y0.length:Int) < x + m) (Y0.length + 1) (.inl ⟨0,rfl,by omega,by omega,by omega⟩) ?_
 rintro m σ (⟨x,rfl,h0,h1,hm⟩ |⟨s,x,rfl,h0,h1,hm⟩)
 ·by_cases hxi:x=i
  ·subst hxi
   refine Ok.seq ?_
   refine .rg [(1,(.bref 1 0)),(2,(.bref 2 0)),(14,(.sref 1024)),(15,(.v (.int .i64 (Y0.length:Int)))),(16,(.v (.int .i64 x))),(17,(.v (.bool (decide (x < (Y0.length:Int))))))] [(1,(.box .ex (c1N a0))),(2,bx0),(1024,(.rows true 27 6 (Y0.map eD)))] ?_
   refine Ok.seq ?_
   refine Ok.test (b:=(decide (x < (Y0.length:Int)))) rfl (fun hb => ?_) (fun hb => ?_)
   ·refine Ok.skip ?_
    have hlt:x < (Y0.length:Int):=by simpa using hb
    have hix:0 ≤ x ∧ x < (Y0.length:Int):=⟨h0,hlt⟩
    have hrw:=hat x hix
    have hkid:FnX Try.prog 28 [(.agg (e_HN (toHN (rd a0.Kids x))))] [] fun r T' => ∃ s,r=.agg [(.v (.int .i64 kd)),(S sp),(S lo),(L 3 e_api_Attr ats),(.v s),(S tx)] ∧ T'=[(0,(.pin s ety sz rs))]:=by rw [e_HN_to]; exact hX
    have hrow:(rd Y0 x).length=6:=by rw [hrw]; rfl
    refine Ok.seq ?_
    refine Ok.block ?_
    refine Ok.seq ?_
    refine Ok.region (σ':=⟨[(1,(.bref 1 0)),(2,(.bref 2 0)),(3,(.v (.int .i64 x))),(4,(.bref 4 0)),(14,(.sref 1024)),(15,(.v (.int .i64 (Y0.length:Int)))),(16,(.v (.int .i64 x)))],[(1,(.box .ex (c1N a0))),(2,bx0),(4,(.box .ex (e_HN (toHN (rd a0.Kids x))))),(1024,(.rows true 27 6 (Y0.map eD)))]⟩) ?_ ?_
    ·refine .rn 1 ?_
     refine .cv (VOk.indexTL (e:=eD) (xs:=Y0) (i:=x) rfl Try.underlying25 sz27 rfl rfl rfl hix) rfl rfl ?_
     refine .cv (VOk.to (d':=(.agg (e_HN (toHN (rd a0.Kids x))))) (.loadEAgg rfl Try.underlying27 rfl sz27 rfl rfl (row_rd hix) (agg_ok hrow)) (agg_row hrow hrw)) rfl rfl ?_
     refine .rn 3 ?_
     exact .dn
    refine Ok.drawX (σ':=fun s =>⟨[(1,(.bref 1 0)),(2,(.bref 2 0)),(14,(.sref 1024)),(15,(.v (.int .i64 (Y0.length:Int)))),(16,(.v (.int .i64 x)))],[(1,(.box .ex (c1N a0))),(2,bx0),(0,(.pin s ety sz rs)),(1024,(.rows true 27 6 ((Y0.set (Int.toNat x) [(.v (.int .i64 kd)),(S sp),(S lo),(L 3 e_api_Attr ats),(.v s),(S tx)]).map eD)))]⟩) undef (fun s => [⟨true,[(1,(.bref 1 0))],[(1,(.box .ex (c1N a0)))],(.bref 1 4),[],false,[]⟩,⟨true,[(21,(.bref 1 4))],[(1,(.box .ex (c1N a0)))],(.sref 1024),[],false,[]⟩,⟨true,[(3,(.v (.int .i64 x)))],[],(.v (.int .i64 x)),[],false,[]⟩,⟨true,[(4,(.bref 4 0))],[(4,(.box .ex (e_HN (toHN (rd a0.Kids x)))))],(.agg (e_HN (toHN (rd a0.Kids x)))),[],false,[]⟩,⟨true,[(24,(.agg (e_HN (toHN (rd a0.Kids x)))))],[],(.agg [(.v (.int .i64 kd)),(S sp),(S lo),(L 3 e_api_Attr ats),(.v s),(S tx)]),[(0,(.pin s ety sz rs))],true,[]⟩,⟨true,[(22,(.sref 1024)),(23,(.v (.int .i64 x)))],[(1024,(.rows true 27 6 (Y0.map eD)))],(.eref 1024 (Int.toNat x) 0),[],false,[]⟩,⟨true,[(26,(.eref 1024 (Int.toNat x) 0)),(25,(.agg [(.v (.int .i64 kd)),(S sp),(S lo),(L 3 e_api_Attr ats),(.v s),(S tx)]))],[(1024,(.rows true 27 6 (Y0.map eD)))],.junk,[(1024,(.rows true 27 6 ((Y0.set (Int.toNat x) [(.v (.int .i64 kd)),(S sp),(S lo),(L 3 e_api_Attr ats),(.v s),(S tx)]).map eD)))],false,[]⟩]) 4 [[],[0],[],[],[3],[1,2,3,4],[4,5]] mixed (fun s => by kernel_rfl) (fun s s' k hk hc => by
      rcases k with _ | _ | _ | _ | _ | _ | _ | k <;> first | rfl | exact absurd rfl hk | exact absurd hc (by decide)) (fun s => ?_) (fun s => ?_)
    ·refine TxtEX.cons ⟨.same _,trivial⟩ ⟨rfl,trivial⟩ rfl (It2.val rfl rfl (fun T hT => (VOk.g (VOk.to (VOk.fieldB rfl Try.underlying27 rfl sz25 rfl hT.1) rfl)))) ?_
     refine TxtEX.cons ⟨.same _,trivial⟩ ⟨rfl,trivial⟩ rfl (It2.val rfl rfl (fun T hT => (VOk.g (VOk.loadB (d:=(.sref 1024)) rfl Try.underlying25 rfl rfl hT.1 rfl)))) ?_
     refine TxtEX.cons ⟨.same _,trivial⟩ trivial rfl (It2.val rfl rfl (fun T hT => (VOk.g (VOk.mv (d:=(.v (.int .i64 x))) rfl rfl)))) ?_
     refine TxtEX.cons ⟨.same _,trivial⟩ ⟨rfl,trivial⟩ rfl (It2.val rfl rfl (fun T hT => (VOk.g (VOk.to (d':=(.agg (e_HN (toHN (rd a0.Kids x))))) (.loadBAgg rfl Try.underlying27 rfl sz27 rfl hT.1 rfl) rfl)))) ?_
     refine TxtEX.consX ⟨.same _,trivial⟩ trivial (ItX.callPin (A:=Value) (R:=fun s => .agg [(.v (.int .i64 kd)),(S sp),(S lo),(L 3 e_api_Attr ats),(.v s),(S tx)]) (B:=fun s => (.pin s ety sz rs)) 0 rfl rfl rfl cl28 hkid (fun s =>⟨_,_,_,_,rfl⟩) (fun s => rfl) rfl rfl (fun s => rfl) rfl) ?_
     refine TxtEX.cons ⟨.same _,.same _,trivial⟩ ⟨rfl,trivial⟩ rfl (It2.val rfl rfl (fun T hT => (VOk.g (VOk.indexTL (e:=eD) (xs:=Y0) (i:=x) rfl Try.underlying25 sz27 rfl hT.1 rfl hix)))) ?_
     refine TxtEX.cons ⟨.same _,.same _,trivial⟩ ⟨rfl,trivial⟩ rfl (It2.storeEL (e:=eD) (xs:=Y0) (i:=x) (y:=[(.v (.int .i64 kd)),(S sp),(S lo),(L 3 e_api_Attr ats),(.v s),(S tx)]) rfl rfl sz27 rfl rfl rfl hix rfl rfl rfl (spl_any hrow rfl) rfl rfl) ?_
     exact .done (.rf rfl rfl)
    refine Ok.region (σ':=⟨[(1,(.bref 1 0)),(2,(.bref 2 0)),(14,(.sref 1024)),(15,(.v (.int .i64 (Y0.length:Int)))),(16,(.v (.int .i64 (x + 1))))],[(1,(.box .ex (c1N a0))),(2,bx0),(0,(.pin s ety sz rs)),(1024,(.rows true 27 6 ((Y0.set (Int.toNat x) [(.v (.int .i64 kd)),(S sp),(S lo),(L 3 e_api_Attr ats),(.v s),(S tx)]).map eD)))]⟩) ?_ ?_
    ·refine .cv (VOk.to (d':=(.v (.int .i64 (x + 1)))) (VOk.arith (op:=.add) (k:=.i64) (a:=x) (b:=1) rfl rfl rfl rfl) (wr1 hlt h0 hsm)) rfl rfl ?_
     refine .rn 1 ?_
     exact .dn
    exact⟨m - 1,by omega,.inr ⟨s,x + 1,rfl,by omega,by omega,by omega⟩⟩
   ·exact absurd hb (by simp; omega)
  ·skip
   refine Ok.seq ?_
   refine .rg [(1,(.bref 1 0)),(2,(.bref 2 0)),(14,(.sref 1024)),(15,(.v (.int .i64 (Y0.length:Int)))),(16,(.v (.int .i64 x))),(17,(.v (.bool (decide (x < (Y0.length:Int))))))] [(1,(.box .ex (c1N a0))),(2,bx0),(1024,(.rows true 27 6 (Y0.map eD)))] ?_
   refine Ok.seq ?_
   refine Ok.test (b:=(decide (x < (Y0.length:Int)))) rfl (fun hb => ?_) (fun hb => ?_)
   ·refine Ok.skip ?_
    have hlt:x < (Y0.length:Int):=by simpa using hb
    have hix:0 ≤ x ∧ x < (Y0.length:Int):=⟨h0,hlt⟩
    have hrw:=hat x hix
    have hkid:Vx.Fn Try.prog 28 [(.agg (e_HN (toHN (rd a0.Kids x))))] [] (.agg (e_HN (toHN (rd a0.Kids x)))) []:=by rw [e_HN_to]; exact hk x (by omega) hxi
    have hset:Y0.set (Int.toNat x) (e_HN (toHN (rd a0.Kids x)))=Y0:=by rw [← hrw]; exact set_rd hix
    have hrow:(rd Y0 x).length=6:=by rw [hrw]; rfl
    refine Ok.seq ?_
    refine Ok.block ?_
    refine Ok.seq ?_
    refine Ok.region (σ':=⟨[(1,(.bref 1 0)),(2,(.bref 2 0)),(3,(.v (.int .i64 x))),(4,(.bref 4 0)),(14,(.sref 1024)),(15,(.v (.int .i64 (Y0.length:Int)))),(16,(.v (.int .i64 x)))],[(1,(.box .ex (c1N a0))),(2,bx0),(4,(.box .ex (e_HN (toHN (rd a0.Kids x))))),(1024,(.rows true 27 6 (Y0.map eD)))]⟩) ?_ ?_
    ·refine .rn 1 ?_
     refine .cv (VOk.indexTL (e:=eD) (xs:=Y0) (i:=x) rfl Try.underlying25 sz27 rfl rfl rfl hix) rfl rfl ?_
     refine .cv (VOk.to (d':=(.agg (e_HN (toHN (rd a0.Kids x))))) (.loadEAgg rfl Try.underlying27 rfl sz27 rfl rfl (row_rd hix) (agg_ok hrow)) (agg_row hrow hrw)) rfl rfl ?_
     refine .rn 3 ?_
     exact .dn
    refine .dU [(1,(.bref 1 0)),(2,(.bref 2 0)),(14,(.sref 1024)),(15,(.v (.int .i64 (Y0.length:Int)))),(16,(.v (.int .i64 x)))] [(1,(.box .ex (c1N a0))),(2,bx0),(1024,(.rows true 27 6 ((Y0.set (Int.toNat x) (e_HN (toHN (rd a0.Kids x)))).map eD)))] [[],[0],[],[],[3],[1,2],[4,5]] mixed ?_ ?_
    ·refine .un 4 ?_
     refine .uc ⟨true,[(24,(.agg (e_HN (toHN (rd a0.Kids x)))))],[],(.agg (e_HN (toHN (rd a0.Kids x)))),[],false,[]⟩ ⟨.same _,trivial⟩ trivial (It2.val rfl rfl (fun T hT => (GOk.call rfl rfl cl28 rfl hkid rfl))) ?_
     refine .uc ⟨true,[(22,(.sref 1024)),(23,(.v (.int .i64 x)))],[(1024,(.rows true 27 6 (Y0.map eD)))],(.eref 1024 (Int.toNat x) 0),[],false,[]⟩ ⟨.same _,.same _,trivial⟩ ⟨rfl,trivial⟩ (It2.val rfl rfl (fun T hT => (VOk.g (VOk.indexTL (e:=eD) (xs:=Y0) (i:=x) rfl Try.underlying25 sz27 rfl hT.1 rfl hix)))) ?_
     refine .uc ⟨true,[(26,(.eref 1024 (Int.toNat x) 0)),(25,(.agg (e_HN (toHN (rd a0.Kids x)))))],[(1024,(.rows true 27 6 (Y0.map eD)))],.junk,[(1024,(.rows true 27 6 ((Y0.set (Int.toNat x) (e_HN (toHN (rd a0.Kids x)))).map eD)))],false,[]⟩ ⟨.same _,.same _,trivial⟩ ⟨rfl,trivial⟩ (It2.storeEL (e:=eD) (xs:=Y0) (i:=x) (y:=(e_HN (toHN (rd a0.Kids x)))) rfl rfl sz27 rfl rfl rfl hix rfl rfl rfl (spl_any hrow rfl) rfl rfl) ?_
     exact .dn
    refine Ok.region (σ':=⟨[(1,(.bref 1 0)),(2,(.bref 2 0)),(14,(.sref 1024)),(15,(.v (.int .i64 (Y0.length:Int)))),(16,(.v (.int .i64 (x + 1))))],[(1,(.box .ex (c1N a0))),(2,bx0),(1024,(.rows true 27 6 ((Y0.set (Int.toNat x) (e_HN (toHN (rd a0.Kids x)))).map eD)))]⟩) ?_ ?_
    ·refine .cv (VOk.to (d':=(.v (.int .i64 (x + 1)))) (VOk.arith (op:=.add) (k:=.i64) (a:=x) (b:=1) rfl rfl rfl rfl) (wr1 hlt h0 hsm)) rfl rfl ?_
     refine .rn 1 ?_
     exact .dn
    exact⟨m - 1,by omega,.inl ⟨x + 1,by rw [hset],by omega,by omega,by omega⟩⟩
   ·exact absurd hb (by simp; omega)
 ·skip
  refine Ok.seq ?_
  refine .rg [(1,(.bref 1 0)),(2,(.bref 2 0)),(14,(.sref 1024)),(15,(.v (.int .i64 (Y0.length:Int)))),(16,(.v (.int .i64 x))),(17,(.v (.bool (decide (x < (Y0.length:Int))))))] [(1,(.box .ex (c1N a0))),(2,bx0),(0,(.pin s ety sz rs)),(1024,(.rows true 27 6 ((Y0.set (Int.toNat i) [(.v (.int .i64 kd)),(S sp),(S lo),(L 3 e_api_Attr ats),(.v s),(S tx)]).map eD)))] ?_
  refine Ok.seq ?_
  refine Ok.test (b:=(decide (x < (Y0.length:Int)))) rfl (fun hb => ?_) (fun hb => ?_)
  ·refine Ok.skip ?_
   have hlt:x < (Y0.length:Int):=by simpa using hb
   have hix:0 ≤ x ∧ x < ((Y0.set (Int.toNat i) [(.v (.int .i64 kd)),(S sp),(S lo),(L 3 e_api_Attr ats),(.v s),(S tx)]).length:Int):=by rw [hlenS]; exact⟨by omega,hlt⟩
   have hrw:rd (Y0.set (Int.toNat i) [(.v (.int .i64 kd)),(S sp),(S lo),(L 3 e_api_Attr ats),(.v s),(S tx)]) x=e_HN (toHN (rd a0.Kids x)):=by rw [rd_other (by omega) (by omega)]; exact hat x (by omega)
   have hkid:Vx.Fn Try.prog 28 [(.agg (e_HN (toHN (rd a0.Kids x))))] [] (.agg (e_HN (toHN (rd a0.Kids x)))) []:=by rw [e_HN_to]; exact hk x (by omega) (by omega)
   have hset:(Y0.set (Int.toNat i) [(.v (.int .i64 kd)),(S sp),(S lo),(L 3 e_api_Attr ats),(.v s),(S tx)]).set (Int.toNat x) (e_HN (toHN (rd a0.Kids x)))=(Y0.set (Int.toNat i) [(.v (.int .i64 kd)),(S sp),(S lo),(L 3 e_api_Attr ats),(.v s),(S tx)]):=by rw [← hrw]; exact set_rd hix
   have hrow:(rd (Y0.set (Int.toNat i) [(.v (.int .i64 kd)),(S sp),(S lo),(L 3 e_api_Attr ats),(.v s),(S tx)]) x).length=6:=by rw [hrw]; rfl
   refine Ok.seq ?_
   refine Ok.block ?_
   refine Ok.seq ?_
   refine Ok.region (σ':=⟨[(1,(.bref 1 0)),(2,(.bref 2 0)),(3,(.v (.int .i64 x))),(4,(.bref 4 0)),(14,(.sref 1024)),(15,(.v (.int .i64 (Y0.length:Int)))),(16,(.v (.int .i64 x)))],[(1,(.box .ex (c1N a0))),(2,bx0),(0,(.pin s ety sz rs)),(4,(.box .ex (e_HN (toHN (rd a0.Kids x))))),(1024,(.rows true 27 6 ((Y0.set (Int.toNat i) [(.v (.int .i64 kd)),(S sp),(S lo),(L 3 e_api_Attr ats),(.v s),(S tx)]).map eD)))]⟩) ?_ ?_
   ·refine .rn 1 ?_
    refine .cv (VOk.indexTL (e:=eD) (xs:=(Y0.set (Int.toNat i) [(.v (.int .i64 kd)),(S sp),(S lo),(L 3 e_api_Attr ats),(.v s),(S tx)])) (i:=x) rfl Try.underlying25 sz27 rfl rfl rfl hix) rfl rfl ?_
    refine .cv (VOk.to (d':=(.agg (e_HN (toHN (rd a0.Kids x))))) (.loadEAgg rfl Try.underlying27 rfl sz27 rfl rfl (row_rd hix) (agg_ok hrow)) (agg_row hrow hrw)) rfl rfl ?_
    refine .rn 3 ?_
    exact .dn
   refine .dU [(1,(.bref 1 0)),(2,(.bref 2 0)),(14,(.sref 1024)),(15,(.v (.int .i64 (Y0.length:Int)))),(16,(.v (.int .i64 x)))] [(1,(.box .ex (c1N a0))),(2,bx0),(0,(.pin s ety sz rs)),(1024,(.rows true 27 6 (((Y0.set (Int.toNat i) [(.v (.int .i64 kd)),(S sp),(S lo),(L 3 e_api_Attr ats),(.v s),(S tx)]).set (Int.toNat x) (e_HN (toHN (rd a0.Kids x)))).map eD)))] [[],[0],[],[],[3],[1,2],[4,5]] mixed ?_ ?_
   ·refine .un 4 ?_
    refine .uc ⟨true,[(24,(.agg (e_HN (toHN (rd a0.Kids x)))))],[],(.agg (e_HN (toHN (rd a0.Kids x)))),[],false,[]⟩ ⟨.same _,trivial⟩ trivial (It2.val rfl rfl (fun T hT => (GOk.call rfl rfl cl28 rfl hkid rfl))) ?_
    refine .uc ⟨true,[(22,(.sref 1024)),(23,(.v (.int .i64 x)))],[(1024,(.rows true 27 6 ((Y0.set (Int.toNat i) [(.v (.int .i64 kd)),(S sp),(S lo),(L 3 e_api_Attr ats),(.v s),(S tx)]).map eD)))],(.eref 1024 (Int.toNat x) 0),[],false,[]⟩ ⟨.same _,.same _,trivial⟩ ⟨rfl,trivial⟩ (It2.val rfl rfl (fun T hT => (VOk.g (VOk.indexTL (e:=eD) (xs:=(Y0.set (Int.toNat i) [(.v (.int .i64 kd)),(S sp),(S lo),(L 3 e_api_Attr ats),(.v s),(S tx)])) (i:=x) rfl Try.underlying25 sz27 rfl hT.1 rfl hix)))) ?_
    refine .uc ⟨true,[(26,(.eref 1024 (Int.toNat x) 0)),(25,(.agg (e_HN (toHN (rd a0.Kids x)))))],[(1024,(.rows true 27 6 ((Y0.set (Int.toNat i) [(.v (.int .i64 kd)),(S sp),(S lo),(L 3 e_api_Attr ats),(.v s),(S tx)]).map eD)))],.junk,[(1024,(.rows true 27 6 (((Y0.set (Int.toNat i) [(.v (.int .i64 kd)),(S sp),(S lo),(L 3 e_api_Attr ats),(.v s),(S tx)]).set (Int.toNat x) (e_HN (toHN (rd a0.Kids x)))).map eD)))],false,[]⟩ ⟨.same _,.same _,trivial⟩ ⟨rfl,trivial⟩ (It2.storeEL (e:=eD) (xs:=(Y0.set (Int.toNat i) [(.v (.int .i64 kd)),(S sp),(S lo),(L 3 e_api_Attr ats),(.v s),(S tx)])) (i:=x) (y:=(e_HN (toHN (rd a0.Kids x)))) rfl rfl sz27 rfl rfl rfl hix rfl rfl rfl (spl_any hrow rfl) rfl rfl) ?_
    exact .dn
   refine Ok.region (σ':=⟨[(1,(.bref 1 0)),(2,(.bref 2 0)),(14,(.sref 1024)),(15,(.v (.int .i64 (Y0.length:Int)))),(16,(.v (.int .i64 (x + 1))))],[(1,(.box .ex (c1N a0))),(2,bx0),(0,(.pin s ety sz rs)),(1024,(.rows true 27 6 (((Y0.set (Int.toNat i) [(.v (.int .i64 kd)),(S sp),(S lo),(L 3 e_api_Attr ats),(.v s),(S tx)]).set (Int.toNat x) (e_HN (toHN (rd a0.Kids x)))).map eD)))]⟩) ?_ ?_
   ·refine .cv (VOk.to (d':=(.v (.int .i64 (x + 1)))) (VOk.arith (op:=.add) (k:=.i64) (a:=x) (b:=1) rfl rfl rfl rfl) (wr1 hlt (by omega) hsm)) rfl rfl ?_
    refine .rn 1 ?_
    exact .dn
   exact⟨m - 1,by omega,.inr ⟨s,x + 1,by rw [hset],by omega,by omega,by omega⟩⟩
  ·have hge:¬ x < (Y0.length:Int):=by simpa using hb
   refine Ok.exit ?_
   refine Ok.seq ?_
   refine Ok.region (σ':=⟨[(2,(.bref 2 0))],[(2,(.box .ex (e_HN ⟨a0.Kind,a0.Name.Space,a0.Name.Local,a0.Attrs,Y0.set i.toNat [(.v (.int .i64 kd)),(S sp),(S lo),(L 3 e_api_Attr ats),(.v s),(S tx)],a0.Text⟩))),(0,(.pin s ety sz rs))]⟩) ?_ ?_
   ·refine OpsOk.frzL 1024 (e:=eD) (xs:=(Y0.set (Int.toNat i) [(.v (.int .i64 kd)),(S sp),(S lo),(L 3 e_api_Attr ats),(.v s),(S tx)])) rfl ?_
    refine .rn 2 ?_
    exact .dn
   refine Ok.ret ?_
   exact⟨.inl rfl,(.agg (e_HN ⟨a0.Kind,a0.Name.Space,a0.Name.Local,a0.Attrs,Y0.set i.toNat [(.v (.int .i64 kd)),(S sp),(S lo),(L 3 e_api_Attr ats),(.v s),(S tx)],a0.Text⟩)),[(0,(.pin s ety sz rs))],⟨s,by rw [hY1],rfl⟩,⟨_,(.cons (.cell (VOk.to (d':=(.agg (e_HN ⟨a0.Kind,a0.Name.Space,a0.Name.Local,a0.Attrs,Y0.set i.toNat [(.v (.int .i64 kd)),(S sp),(S lo),(L 3 e_api_Attr ats),(.v s),(S tx)],a0.Text⟩))) (.loadBAgg rfl Try.underlying27 rfl sz27 rfl rfl rfl) rfl)) .nil),rfl⟩,.same _,trivial⟩
theorem hcopyIA (a0:T_api_Node) (i:Int) {kd:Int} {sp lo tx:Str} {kids:List T_api_Node} {ety sz:Nat} {rs:List (List D)} (hi:0 ≤ i ∧ i < (a0.Kids.length:Int)) (ca:(([]:List T_api_Attr).length + a0.Attrs.length) * 48 ≤ 140737488355328) (ck:(([]:List T_api_Node).length + a0.Kids.length) * 104 ≤ 140737488355328) (hk:∀ j:Int,0 ≤ j ∧ j < (a0.Kids.length:Int)→j ≠ i→Vx.Fn Try.prog 28 [(.agg (e_api_Node (rd a0.Kids j)))] [] (.agg (e_api_Node (rd a0.Kids j))) [])
  (hX:FnX Try.prog 28 [(.agg (e_api_Node (rd a0.Kids i)))] [] fun r T' => ∃ s,r=.agg [(.v (.int .i64 kd)),(S sp),(S lo),(.v s),(L 6 e_api_Node kids),(S tx)] ∧ T'=[(0,(.pin s ety sz rs))]) :
  FnX Try.prog 28 [(.agg (e_api_Node a0))] [] fun r T' => ∃ s,r=.agg (e_HN ⟨a0.Kind,a0.Name.Space,a0.Name.Local,a0.Attrs,(a0.Kids.map e_api_Node).set i.toNat [(.v (.int .i64 kd)),(S sp),(S lo),(.v s),(L 6 e_api_Node kids),(S tx)],a0.Text⟩) ∧ T'=[(0,(.pin s ety sz rs))]:=by
 obtain⟨Y0,hY0⟩:∃ Y0:List (List D),Y0.map eD=a0.Kids.map e_api_Node:=⟨_,mapD _⟩
 have hlen:Y0.length=a0.Kids.length:=by have:=congrArg List.length hY0; simpa using this
 have hY1:Y0=a0.Kids.map e_api_Node:=by rw [← hY0,mapD]
 have hat:∀ j:Int,0 ≤ j ∧ j < (Y0.length:Int)→rd Y0 j=e_HN (toHN (rd a0.Kids j)):=fun j hj => by rw [e_HN_to,hY1]; exact rd_map (by omega)
 have hsm:([]:List T_api_Attr).length + Y0.length ≤ 140737488355328:=by simp only [List.length_nil] at ck ⊢; omega
 refine FnX.of_okR Try.func28 rfl (Nat.le_of_ble_eq_true rfl) ?_
 have hlenS:∀ s,(Y0.set i.toNat [(.v (.int .i64 kd)),(S sp),(S lo),(.v s),(L 6 e_api_Node kids),(S tx)]).length=Y0.length:=fun s => List.length_set
 refine Ok.seq ?_
 refine Ok.region (σ':=⟨[(1,(.bref 1 0)),(2,(.bref 2 0))],[(1,(bxN a0)),(2,bx0)]⟩) ?_ ?_
 ·refine OpsOk.cut1 0 (.agg (c_api_Node a0)) (DLe.of_eq (congrArg D.agg (e_api_Node_c _).symm)) ?_
  refine .rn 2 ?_
  exact .dn
 refine Ok.seq ?_
 refine Ok.drawE2 (σ':=⟨[(1,(.bref 1 0)),(2,(.bref 2 0))],[(1,(.box .ex (c1N a0))),(2,bx0),(1024,(.rows true 27 6 (Y0.map eD)))]⟩) [⟨true,[(1,(.bref 1 0))],[(1,(bxN a0))],(.bref 1 3),[],false,[]⟩,⟨true,[(5,(.bref 1 3))],[(1,(bxN a0))],(L 3 e_api_Attr a0.Attrs),[],false,[]⟩,⟨true,[(6,(L 3 e_api_Attr a0.Attrs))],[],(L 3 e_api_Attr a0.Attrs),[],false,[]⟩,⟨true,[(1,(.bref 1 0))],[(1,(bxN a0))],(.bref 1 4),[],false,[]⟩,⟨true,[(8,(.bref 1 4))],[(1,(bxN a0))],(L 6 e_api_Node a0.Kids),[],false,[]⟩,⟨true,[(9,(L 6 e_api_Node a0.Kids))],[],(.sref 10),[(10,(.rows true 27 6 (Y0.map eD)))],true,[]⟩,⟨true,[(1,(.bref 1 0))],[(1,(bxN a0))],(.bref 1 3),[],false,[]⟩,⟨true,[(11,(.bref 1 3)),(7,(L 3 e_api_Attr a0.Attrs))],[(1,(bxN a0))],.junk,[(1,(bxN a0))],false,[]⟩,⟨true,[(1,(.bref 1 0))],[(1,(bxN a0))],(.bref 1 4),[],false,[]⟩,⟨true,[(12,(.bref 1 4)),(10,(.sref 10))],[(1,(bxN a0)),(10,(.rows true 27 6 (Y0.map eD)))],.junk,[(1,(.box .ex [(.v (.int .i64 a0.Kind)),(S a0.Name.Space),(S a0.Name.Local),(L 3 e_api_Attr a0.Attrs),(.sref 10),(S a0.Text)]))],false,[]⟩] [[],[0],[1],[],[3],[4],[],[0,1,2,3,4,6],[7],[0,1,3,4,5,6,7,8]] mixed (by kernel_rfl) ?_ ?_
 ·refine TxtE2.cons ⟨.same _,trivial⟩ ⟨rfl,trivial⟩ (It2.val rfl rfl (fun T hT => (VOk.g (VOk.to (VOk.fieldB rfl Try.underlying27 rfl sz24 rfl hT.1) rfl)))) ?_
  refine TxtE2.cons ⟨.same _,trivial⟩ ⟨rfl,trivial⟩ (It2.val rfl rfl (fun T hT => (VOk.g (VOk.loadB (d:=(L 3 e_api_Attr a0.Attrs)) rfl Try.underlying24 rfl rfl hT.1 rfl)))) ?_
  refine TxtE2.cons ⟨.same _,trivial⟩ trivial (It2.val rfl rfl (fun T hT => (GOk.call rfl rfl cl45 rfl (slices_Clone_45.ok (cloneA ca)) rfl))) ?_
  refine TxtE2.cons ⟨.same _,trivial⟩ ⟨rfl,trivial⟩ (It2.val rfl rfl (fun T hT => (VOk.g (VOk.to (VOk.fieldB rfl Try.underlying27 rfl sz25 rfl hT.1) rfl)))) ?_
  refine TxtE2.cons ⟨.same _,trivial⟩ ⟨rfl,trivial⟩ (It2.val rfl rfl (fun T hT => (VOk.g (VOk.loadB (d:=(L 6 e_api_Node a0.Kids)) rfl Try.underlying25 rfl rfl hT.1 rfl)))) ?_
  refine TxtE2.cons ⟨.same _,trivial⟩ trivial (It2.callO 10 (rows:=Y0.map eD) rfl rfl rfl cl46 rfl (hY0 ▸ hclone ck) rfl) ?_
  refine TxtE2.cons ⟨.same _,trivial⟩ ⟨rfl,trivial⟩ (It2.val rfl rfl (fun T hT => (VOk.g (VOk.to (VOk.fieldB rfl Try.underlying27 rfl sz24 rfl hT.1) rfl)))) ?_
  refine TxtE2.cons ⟨.same _,.same _,trivial⟩ ⟨rfl,trivial⟩ (It2.store rfl rfl sz24 rfl rfl rfl rfl rfl rfl rfl rfl) ?_
  refine TxtE2.cons ⟨.same _,trivial⟩ ⟨rfl,trivial⟩ (It2.val rfl rfl (fun T hT => (VOk.g (VOk.to (VOk.fieldB rfl Try.underlying27 rfl sz25 rfl hT.1) rfl)))) ?_
  refine TxtE2.cons ⟨.same _,.same _,trivial⟩ ⟨rfl,rfl,trivial⟩ (It2.store rfl rfl sz25 rfl rfl rfl rfl rfl rfl rfl rfl) ?_
  exact .doneS (SLe.trans (Le.s (.rf rfl rfl)) (SLe.ren 10 1024 rfl rfl))
 refine Ok.seq ?_
 refine Ok.seq ?_
 refine Ok.region (σ':=⟨[(1,(.bref 1 0)),(2,(.bref 2 0)),(14,(.sref 1024)),(15,(.v (.int .i64 (Y0.length:Int)))),(16,(.v (.int .i64 0)))],[(1,(.box .ex (c1N a0))),(2,bx0),(1024,(.rows true 27 6 (Y0.map eD)))]⟩) ?_ ?_
 ·refine .rn 2 ?_
  refine .cv (VOk.lenTL (e:=eD) (xs:=Y0) rfl Try.underlying25 rfl rfl) rfl rfl ?_
  refine .rn 1 ?_
  exact .dn
 refine Ok.block ?_
 refine Ok.loop (fun m σ => (∃ x:Int,σ=⟨[(1,(.bref 1 0)),(2,(.bref 2 0)),(14,(.sref 1024)),(15,(.v (.int .i64 (Y0.length:Int)))),(16,(.v (.int .i64 x)))],[(1,(.box .ex (c1N a0))),(2,bx0),(1024,(.rows true 27 6 (Y0.map eD)))]⟩ ∧ 0 ≤ x ∧ x ≤ i ∧ (Y0.length:Int) < x + m) ∨ ∃ s,∃ x:Int,σ=⟨[(1,(.bref 1 0)),(2,(.bref 2 0)),(14,(.sref 1024)),(15,(.v (.int .i64 (Y0.length:Int)))),(16,(.v (.int .i64 x)))],[(1,(.box .ex (c1N a0))),(2,bx0),(0,(.pin s ety sz rs)),(1024,(.rows true 27 6 ((Y0.set (Int.toNat i) [(.v (.int .i64 kd)),(S sp),(S lo),(.v s),(L 6 e_api_Node kids),(S tx)]).map eD)))]⟩ ∧ i < x ∧ x ≤ (Y0.length:Int) ∧ (Y0.length:Int) < x + m) (Y0.length + 1) (.inl ⟨0,rfl,by omega,by omega,by omega⟩) ?_
 rintro m σ (⟨x,rfl,h0,h1,hm⟩ |⟨s,x,rfl,h0,h1,hm⟩)
 ·by_cases hxi:x=i
  ·subst hxi
   refine Ok.seq ?_
   refine .rg [(1,(.bref 1 0)),(2,(.bref 2 0)),(14,(.sref 1024)),(15,(.v (.int .i64 (Y0.length:Int)))),(16,(.v (.int .i64 x))),(17,(.v (.bool (decide (x < (Y0.length:Int))))))] [(1,(.box .ex (c1N a0))),(2,bx0),(1024,(.rows true 27 6 (Y0.map eD)))] ?_
   refine Ok.seq ?_
   refine Ok.test (b:=(decide (x < (Y0.length:Int)))) rfl (fun hb => ?_) (fun hb => ?_)
   ·refine Ok.skip ?_
    have hlt:x < (Y0.length:Int):=by simpa using hb
    have hix:0 ≤ x ∧ x < (Y0.length:Int):=⟨h0,hlt⟩
    have hrw:=hat x hix
    have hkid:FnX Try.prog 28 [(.agg (e_HN (toHN (rd a0.Kids x))))] [] fun r T' => ∃ s,r=.agg [(.v (.int .i64 kd)),(S sp),(S lo),(.v s),(L 6 e_api_Node kids),(S tx)] ∧ T'=[(0,(.pin s ety sz rs))]:=by rw [e_HN_to]; exact hX
    have hrow:(rd Y0 x).length=6:=by rw [hrw]; rfl
    refine Ok.seq ?_
    refine Ok.block ?_
    refine Ok.seq ?_
    refine Ok.region (σ':=⟨[(1,(.bref 1 0)),(2,(.bref 2 0)),(3,(.v (.int .i64 x))),(4,(.bref 4 0)),(14,(.sref 1024)),(15,(.v (.int .i64 (Y0.length:Int)))),(16,(.v (.int .i64 x)))],[(1,(.box .ex (c1N a0))),(2,bx0),(4,(.box .ex (e_HN (toHN (rd a0.Kids x))))),(1024,(.rows true 27 6 (Y0.map eD)))]⟩) ?_ ?_
    ·refine .rn 1 ?_
     refine .cv (VOk.indexTL (e:=eD) (xs:=Y0) (i:=x) rfl Try.underlying25 sz27 rfl rfl rfl hix) rfl rfl ?_
     refine .cv (VOk.to (d':=(.agg (e_HN (toHN (rd a0.Kids x))))) (.loadEAgg rfl Try.underlying27 rfl sz27 rfl rfl (row_rd hix) (agg_ok hrow)) (agg_row hrow hrw)) rfl rfl ?_
     refine .rn 3 ?_
     exact .dn
    refine Ok.drawX (σ':=fun s =>⟨[(1,(.bref 1 0)),(2,(.bref 2 0)),(14,(.sref 1024)),(15,(.v (.int .i64 (Y0.length:Int)))),(16,(.v (.int .i64 x)))],[(1,(.box .ex (c1N a0))),(2,bx0),(0,(.pin s ety sz rs)),(1024,(.rows true 27 6 ((Y0.set (Int.toNat x) [(.v (.int .i64 kd)),(S sp),(S lo),(.v s),(L 6 e_api_Node kids),(S tx)]).map eD)))]⟩) undef (fun s => [⟨true,[(1,(.bref 1 0))],[(1,(.box .ex (c1N a0)))],(.bref 1 4),[],false,[]⟩,⟨true,[(21,(.bref 1 4))],[(1,(.box .ex (c1N a0)))],(.sref 1024),[],false,[]⟩,⟨true,[(3,(.v (.int .i64 x)))],[],(.v (.int .i64 x)),[],false,[]⟩,⟨true,[(4,(.bref 4 0))],[(4,(.box .ex (e_HN (toHN (rd a0.Kids x)))))],(.agg (e_HN (toHN (rd a0.Kids x)))),[],false,[]⟩,⟨true,[(24,(.agg (e_HN (toHN (rd a0.Kids x)))))],[],(.agg [(.v (.int .i64 kd)),(S sp),(S lo),(.v s),(L 6 e_api_Node kids),(S tx)]),[(0,(.pin s ety sz rs))],true,[]⟩,⟨true,[(22,(.sref 1024)),(23,(.v (.int .i64 x)))],[(1024,(.rows true 27 6 (Y0.map eD)))],(.eref 1024 (Int.toNat x) 0),[],false,[]⟩,⟨true,[(26,(.eref 1024 (Int.toNat x) 0)),(25,(.agg [(.v (.int .i64 kd)),(S sp),(S lo),(.v s),(L 6 e_api_Node kids),(S tx)]))],[(1024,(.rows true 27 6 (Y0.map eD)))],.junk,[(1024,(.rows true 27 6 ((Y0.set (Int.toNat x) [(.v (.int .i64 kd)),(S sp),(S lo),(.v s),(L 6 e_api_Node kids),(S tx)]).map eD)))],false,[]⟩]) 4 [[],[0],[],[],[3],[1,2,3,4],[4,5]] mixed (fun s => by kernel_rfl) (fun s s' k hk hc => by
      rcases k with _ | _ | _ | _ | _ | _ | _ | k <;> first | rfl | exact absurd rfl hk | exact absurd hc (by decide)) (fun s => ?_) (fun s => ?_)
    ·refine TxtEX.cons ⟨.same _,trivial⟩ ⟨rfl,trivial⟩ rfl (It2.val rfl rfl (fun T hT => (VOk.g (VOk.to (VOk.fieldB rfl Try.underlying27 rfl sz25 rfl hT.1) rfl)))) ?_
     refine TxtEX.cons ⟨.same _,trivial⟩ ⟨rfl,trivial⟩ rfl (It2.val rfl rfl (fun T hT => (VOk.g (VOk.loadB (d:=(.sref 1024)) rfl Try.underlying25 rfl rfl hT.1 rfl)))) ?_
     refine TxtEX.cons ⟨.same _,trivial⟩ trivial rfl (It2.val rfl rfl (fun T hT => (VOk.g (VOk.mv (d:=(.v (.int .i64 x))) rfl rfl)))) ?_
     refine TxtEX.cons ⟨.same _,trivial⟩ ⟨rfl,trivial⟩ rfl (It2.val rfl rfl (fun T hT => (VOk.g (VOk.to (d':=(.agg (e_HN (toHN (rd a0.Kids x))))) (.loadBAgg rfl Try.underlying27 rfl sz27 rfl hT.1 rfl) rfl)))) ?_
     refine TxtEX.consX ⟨.same _,trivial⟩ trivial (ItX.callPin (A:=Value) (R:=fun s => .agg [(.v (.int .i64 kd)),(S sp),(S lo),(.v s),(L 6 e_api_Node kids),(S tx)]) (B:=fun s => (.pin s ety sz rs)) 0 rfl rfl rfl cl28 hkid (fun s =>⟨_,_,_,_,rfl⟩) (fun s => rfl) rfl rfl (fun s => rfl) rfl) ?_
     refine TxtEX.cons ⟨.same _,.same _,trivial⟩ ⟨rfl,trivial⟩ rfl (It2.val rfl rfl (fun T hT => (VOk.g (VOk.indexTL (e:=eD) (xs:=Y0) (i:=x) rfl Try.underlying25 sz27 rfl hT.1 rfl hix)))) ?_
     refine TxtEX.cons ⟨.same _,.same _,trivial⟩ ⟨rfl,trivial⟩ rfl (It2.storeEL (e:=eD) (xs:=Y0) (i:=x) (y:=[(.v (.int .i64 kd)),(S sp),(S lo),(.v s),(L 6 e_api_Node kids),(S tx)]) rfl rfl sz27 rfl rfl rfl hix rfl rfl rfl (spl_any hrow rfl) rfl rfl) ?_
     exact .done (.rf rfl rfl)
    refine Ok.region (σ':=⟨[(1,(.bref 1 0)),(2,(.bref 2 0)),(14,(.sref 1024)),(15,(.v (.int .i64 (Y0.length:Int)))),(16,(.v (.int .i64 (x + 1))))],[(1,(.box .ex (c1N a0))),(2,bx0),(0,(.pin s ety sz rs)),(1024,(.rows true 27 6 ((Y0.set (Int.toNat x) [(.v (.int .i64 kd)),(S sp),(S lo),(.v s),(L 6 e_api_Node kids),(S tx)]).map eD)))]⟩) ?_ ?_
    ·refine .cv (VOk.to (d':=(.v (.int .i64 (x + 1)))) (VOk.arith (op:=.add) (k:=.i64) (a:=x) (b:=1) rfl rfl rfl rfl) (wr1 hlt h0 hsm)) rfl rfl ?_
     refine .rn 1 ?_
     exact .dn
    exact⟨m - 1,by omega,.inr ⟨s,x + 1,rfl,by omega,by omega,by omega⟩⟩
   ·exact absurd hb (by simp; omega)
  ·skip
   refine Ok.seq ?_
   refine .rg [(1,(.bref 1 0)),(2,(.bref 2 0)),(14,(.sref 1024)),(15,(.v (.int .i64 (Y0.length:Int)))),(16,(.v (.int .i64 x))),(17,(.v (.bool (decide (x < (Y0.length:Int))))))] [(1,(.box .ex (c1N a0))),(2,bx0),(1024,(.rows true 27 6 (Y0.map eD)))] ?_
   refine Ok.seq ?_
   refine Ok.test (b:=(decide (x < (Y0.length:Int)))) rfl (fun hb => ?_) (fun hb => ?_)
   ·refine Ok.skip ?_
    have hlt:x < (Y0.length:Int):=by simpa using hb
    have hix:0 ≤ x ∧ x < (Y0.length:Int):=⟨h0,hlt⟩
    have hrw:=hat x hix
    have hkid:Vx.Fn Try.prog 28 [(.agg (e_HN (toHN (rd a0.Kids x))))] [] (.agg (e_HN (toHN (rd a0.Kids x)))) []:=by rw [e_HN_to]; exact hk x (by omega) hxi
    have hset:Y0.set (Int.toNat x) (e_HN (toHN (rd a0.Kids x)))=Y0:=by rw [← hrw]; exact set_rd hix
    have hrow:(rd Y0 x).length=6:=by rw [hrw]; rfl
    refine Ok.seq ?_
    refine Ok.block ?_
    refine Ok.seq ?_
    refine Ok.region (σ':=⟨[(1,(.bref 1 0)),(2,(.bref 2 0)),(3,(.v (.int .i64 x))),(4,(.bref 4 0)),(14,(.sref 1024)),(15,(.v (.int .i64 (Y0.length:Int)))),(16,(.v (.int .i64 x)))],[(1,(.box .ex (c1N a0))),(2,bx0),(4,(.box .ex (e_HN (toHN (rd a0.Kids x))))),(1024,(.rows true 27 6 (Y0.map eD)))]⟩) ?_ ?_
    ·refine .rn 1 ?_
     refine .cv (VOk.indexTL (e:=eD) (xs:=Y0) (i:=x) rfl Try.underlying25 sz27 rfl rfl rfl hix) rfl rfl ?_
     refine .cv (VOk.to (d':=(.agg (e_HN (toHN (rd a0.Kids x))))) (.loadEAgg rfl Try.underlying27 rfl sz27 rfl rfl (row_rd hix) (agg_ok hrow)) (agg_row hrow hrw)) rfl rfl ?_
     refine .rn 3 ?_
     exact .dn
    refine .dU [(1,(.bref 1 0)),(2,(.bref 2 0)),(14,(.sref 1024)),(15,(.v (.int .i64 (Y0.length:Int)))),(16,(.v (.int .i64 x)))] [(1,(.box .ex (c1N a0))),(2,bx0),(1024,(.rows true 27 6 ((Y0.set (Int.toNat x) (e_HN (toHN (rd a0.Kids x)))).map eD)))] [[],[0],[],[],[3],[1,2],[4,5]] mixed ?_ ?_
    ·refine .un 4 ?_
     refine .uc ⟨true,[(24,(.agg (e_HN (toHN (rd a0.Kids x)))))],[],(.agg (e_HN (toHN (rd a0.Kids x)))),[],false,[]⟩ ⟨.same _,trivial⟩ trivial (It2.val rfl rfl (fun T hT => (GOk.call rfl rfl cl28 rfl hkid rfl))) ?_
     refine .uc ⟨true,[(22,(.sref 1024)),(23,(.v (.int .i64 x)))],[(1024,(.rows true 27 6 (Y0.map eD)))],(.eref 1024 (Int.toNat x) 0),[],false,[]⟩ ⟨.same _,.same _,trivial⟩ ⟨rfl,trivial⟩ (It2.val rfl rfl (fun T hT => (VOk.g (VOk.indexTL (e:=eD) (xs:=Y0) (i:=x) rfl Try.underlying25 sz27 rfl hT.1 rfl hix)))) ?_
     refine .uc ⟨true,[(26,(.eref 1024 (Int.toNat x) 0)),(25,(.agg (e_HN (toHN (rd a0.Kids x)))))],[(1024,(.rows true 27 6 (Y0.map eD)))],.junk,[(1024,(.rows true 27 6 ((Y0.set (Int.toNat x) (e_HN (toHN (rd a0.Kids x)))).map eD)))],false,[]⟩ ⟨.same _,.same _,trivial⟩ ⟨rfl,trivial⟩ (It2.storeEL (e:=eD) (xs:=Y0) (i:=x) (y:=(e_HN (toHN (rd a0.Kids x)))) rfl rfl sz27 rfl rfl rfl hix rfl rfl rfl (spl_any hrow rfl) rfl rfl) ?_
     exact .dn
    refine Ok.region (σ':=⟨[(1,(.bref 1 0)),(2,(.bref 2 0)),(14,(.sref 1024)),(15,(.v (.int .i64 (Y0.length:Int)))),(16,(.v (.int .i64 (x + 1))))],[(1,(.box .ex (c1N a0))),(2,bx0),(1024,(.rows true 27 6 ((Y0.set (Int.toNat x) (e_HN (toHN (rd a0.Kids x)))).map eD)))]⟩) ?_ ?_
    ·refine .cv (VOk.to (d':=(.v (.int .i64 (x + 1)))) (VOk.arith (op:=.add) (k:=.i64) (a:=x) (b:=1) rfl rfl rfl rfl) (wr1 hlt h0 hsm)) rfl rfl ?_
     refine .rn 1 ?_
     exact .dn
    exact⟨m - 1,by omega,.inl ⟨x + 1,by rw [hset],by omega,by omega,by omega⟩⟩
   ·exact absurd hb (by simp; omega)
 ·skip
  refine Ok.seq ?_
  refine .rg [(1,(.bref 1 0)),(2,(.bref 2 0)),(14,(.sref 1024)),(15,(.v (.int .i64 (Y0.length:Int)))),(16,(.v (.int .i64 x))),(17,(.v (.bool (decide (x < (Y0.length:Int))))))] [(1,(.box .ex (c1N a0))),(2,bx0),(0,(.pin s ety sz rs)),(1024,(.rows true 27 6 ((Y0.set (Int.toNat i) [(.v (.int .i64 kd)),(S sp),(S lo),(.v s),(L 6 e_api_Node kids),(S tx)]).map eD)))] ?_
  refine Ok.seq ?_
  refine Ok.test (b:=(decide (x < (Y0.length:Int)))) rfl (fun hb => ?_) (fun hb => ?_)
  ·refine Ok.skip ?_
   have hlt:x < (Y0.length:Int):=by simpa using hb
   have hix:0 ≤ x ∧ x < ((Y0.set (Int.toNat i) [(.v (.int .i64 kd)),(S sp),(S lo),(.v s),(L 6 e_api_Node kids),(S tx)]).length:Int):=by rw [hlenS]; exact⟨by omega,hlt⟩
   have hrw:rd (Y0.set (Int.toNat i) [(.v (.int .i64 kd)),(S sp),(S lo),(.v s),(L 6 e_api_Node kids),(S tx)]) x=e_HN (toHN (rd a0.Kids x)):=by rw [rd_other (by omega) (by omega)]; exact hat x (by omega)
   have hkid:Vx.Fn Try.prog 28 [(.agg (e_HN (toHN (rd a0.Kids x))))] [] (.agg (e_HN (toHN (rd a0.Kids x)))) []:=by rw [e_HN_to]; exact hk x (by omega) (by omega)
   have hset:(Y0.set (Int.toNat i) [(.v (.int .i64 kd)),(S sp),(S lo),(.v s),(L 6 e_api_Node kids),(S tx)]).set (Int.toNat x) (e_HN (toHN (rd a0.Kids x)))=(Y0.set (Int.toNat i) [(.v (.int .i64 kd)),(S sp),(S lo),(.v s),(L 6 e_api_Node kids),(S tx)]):=by rw [← hrw]; exact set_rd hix
   have hrow:(rd (Y0.set (Int.toNat i) [(.v (.int .i64 kd)),(S sp),(S lo),(.v s),(L 6 e_api_Node kids),(S tx)]) x).length=6:=by rw [hrw]; rfl
   refine Ok.seq ?_
   refine Ok.block ?_
   refine Ok.seq ?_
   refine Ok.region (σ':=⟨[(1,(.bref 1 0)),(2,(.bref 2 0)),(3,(.v (.int .i64 x))),(4,(.bref 4 0)),(14,(.sref 1024)),(15,(.v (.int .i64 (Y0.length:Int)))),(16,(.v (.int .i64 x)))],[(1,(.box .ex (c1N a0))),(2,bx0),(0,(.pin s ety sz rs)),(4,(.box .ex (e_HN (toHN (rd a0.Kids x))))),(1024,(.rows true 27 6 ((Y0.set (Int.toNat i) [(.v (.int .i64 kd)),(S sp),(S lo),(.v s),(L 6 e_api_Node kids),(S tx)]).map eD)))]⟩) ?_ ?_
   ·refine .rn 1 ?_
    refine .cv (VOk.indexTL (e:=eD) (xs:=(Y0.set (Int.toNat i) [(.v (.int .i64 kd)),(S sp),(S lo),(.v s),(L 6 e_api_Node kids),(S tx)])) (i:=x) rfl Try.underlying25 sz27 rfl rfl rfl hix) rfl rfl ?_
    refine .cv (VOk.to (d':=(.agg (e_HN (toHN (rd a0.Kids x))))) (.loadEAgg rfl Try.underlying27 rfl sz27 rfl rfl (row_rd hix) (agg_ok hrow)) (agg_row hrow hrw)) rfl rfl ?_
    refine .rn 3 ?_
    exact .dn
   refine .dU [(1,(.bref 1 0)),(2,(.bref 2 0)),(14,(.sref 1024)),(15,(.v (.int .i64 (Y0.length:Int)))),(16,(.v (.int .i64 x)))] [(1,(.box .ex (c1N a0))),(2,bx0),(0,(.pin s ety sz rs)),(1024,(.rows true 27 6 (((Y0.set (Int.toNat i) [(.v (.int .i64 kd)),(S sp),(S lo),(.v s),(L 6 e_api_Node kids),(S tx)]).set (Int.toNat x) (e_HN (toHN (rd a0.Kids x)))).map eD)))] [[],[0],[],[],[3],[1,2],[4,5]] mixed ?_ ?_
   ·refine .un 4 ?_
    refine .uc ⟨true,[(24,(.agg (e_HN (toHN (rd a0.Kids x)))))],[],(.agg (e_HN (toHN (rd a0.Kids x)))),[],false,[]⟩ ⟨.same _,trivial⟩ trivial (It2.val rfl rfl (fun T hT => (GOk.call rfl rfl cl28 rfl hkid rfl))) ?_
    refine .uc ⟨true,[(22,(.sref 1024)),(23,(.v (.int .i64 x)))],[(1024,(.rows true 27 6 ((Y0.set (Int.toNat i) [(.v (.int .i64 kd)),(S sp),(S lo),(.v s),(L 6 e_api_Node kids),(S tx)]).map eD)))],(.eref 1024 (Int.toNat x) 0),[],false,[]⟩ ⟨.same _,.same _,trivial⟩ ⟨rfl,trivial⟩ (It2.val rfl rfl (fun T hT => (VOk.g (VOk.indexTL (e:=eD) (xs:=(Y0.set (Int.toNat i) [(.v (.int .i64 kd)),(S sp),(S lo),(.v s),(L 6 e_api_Node kids),(S tx)])) (i:=x) rfl Try.underlying25 sz27 rfl hT.1 rfl hix)))) ?_
    refine .uc ⟨true,[(26,(.eref 1024 (Int.toNat x) 0)),(25,(.agg (e_HN (toHN (rd a0.Kids x)))))],[(1024,(.rows true 27 6 ((Y0.set (Int.toNat i) [(.v (.int .i64 kd)),(S sp),(S lo),(.v s),(L 6 e_api_Node kids),(S tx)]).map eD)))],.junk,[(1024,(.rows true 27 6 (((Y0.set (Int.toNat i) [(.v (.int .i64 kd)),(S sp),(S lo),(.v s),(L 6 e_api_Node kids),(S tx)]).set (Int.toNat x) (e_HN (toHN (rd a0.Kids x)))).map eD)))],false,[]⟩ ⟨.same _,.same _,trivial⟩ ⟨rfl,trivial⟩ (It2.storeEL (e:=eD) (xs:=(Y0.set (Int.toNat i) [(.v (.int .i64 kd)),(S sp),(S lo),(.v s),(L 6 e_api_Node kids),(S tx)])) (i:=x) (y:=(e_HN (toHN (rd a0.Kids x)))) rfl rfl sz27 rfl rfl rfl hix rfl rfl rfl (spl_any hrow rfl) rfl rfl) ?_
    exact .dn
   refine Ok.region (σ':=⟨[(1,(.bref 1 0)),(2,(.bref 2 0)),(14,(.sref 1024)),(15,(.v (.int .i64 (Y0.length:Int)))),(16,(.v (.int .i64 (x + 1))))],[(1,(.box .ex (c1N a0))),(2,bx0),(0,(.pin s ety sz rs)),(1024,(.rows true 27 6 (((Y0.set (Int.toNat i) [(.v (.int .i64 kd)),(S sp),(S lo),(.v s),(L 6 e_api_Node kids),(S tx)]).set (Int.toNat x) (e_HN (toHN (rd a0.Kids x)))).map eD)))]⟩) ?_ ?_
   ·refine .cv (VOk.to (d':=(.v (.int .i64 (x + 1)))) (VOk.arith (op:=.add) (k:=.i64) (a:=x) (b:=1) rfl rfl rfl rfl) (wr1 hlt (by omega) hsm)) rfl rfl ?_
    refine .rn 1 ?_
    exact .dn
   exact⟨m - 1,by omega,.inr ⟨s,x + 1,by rw [hset],by omega,by omega,by omega⟩⟩
  ·have hge:¬ x < (Y0.length:Int):=by simpa using hb
   refine Ok.exit ?_
   refine Ok.seq ?_
   refine Ok.region (σ':=⟨[(2,(.bref 2 0))],[(2,(.box .ex (e_HN ⟨a0.Kind,a0.Name.Space,a0.Name.Local,a0.Attrs,Y0.set i.toNat [(.v (.int .i64 kd)),(S sp),(S lo),(.v s),(L 6 e_api_Node kids),(S tx)],a0.Text⟩))),(0,(.pin s ety sz rs))]⟩) ?_ ?_
   ·refine OpsOk.frzL 1024 (e:=eD) (xs:=(Y0.set (Int.toNat i) [(.v (.int .i64 kd)),(S sp),(S lo),(.v s),(L 6 e_api_Node kids),(S tx)])) rfl ?_
    refine .rn 2 ?_
    exact .dn
   refine Ok.ret ?_
   exact⟨.inl rfl,(.agg (e_HN ⟨a0.Kind,a0.Name.Space,a0.Name.Local,a0.Attrs,Y0.set i.toNat [(.v (.int .i64 kd)),(S sp),(S lo),(.v s),(L 6 e_api_Node kids),(S tx)],a0.Text⟩)),[(0,(.pin s ety sz rs))],⟨s,by rw [hY1],rfl⟩,⟨_,(.cons (.cell (VOk.to (d':=(.agg (e_HN ⟨a0.Kind,a0.Name.Space,a0.Name.Local,a0.Attrs,Y0.set i.toNat [(.v (.int .i64 kd)),(S sp),(S lo),(.v s),(L 6 e_api_Node kids),(S tx)],a0.Text⟩))) (.loadBAgg rfl Try.underlying27 rfl sz27 rfl rfl rfl) rfl)) .nil),rfl⟩,.same _,trivial⟩
theorem hcopyIN (a0:T_api_Node) (i:Int) {kd:Int} {sp lo tx:Str} {ats:List T_api_Attr} {ks:Value→List (List D)} {ety sz:Nat} {rs:List (List D)} (hi:0 ≤ i ∧ i < (a0.Kids.length:Int)) (ca:(([]:List T_api_Attr).length + a0.Attrs.length) * 48 ≤ 140737488355328) (ck:(([]:List T_api_Node).length + a0.Kids.length) * 104 ≤ 140737488355328) (hk:∀ j:Int,0 ≤ j ∧ j < (a0.Kids.length:Int)→j ≠ i→Vx.Fn Try.prog 28 [(.agg (e_api_Node (rd a0.Kids j)))] [] (.agg (e_api_Node (rd a0.Kids j))) [])
  (hX:FnX Try.prog 28 [(.agg (e_api_Node (rd a0.Kids i)))] [] fun r T' => ∃ s,r=.agg (e_HN ⟨kd,sp,lo,ats,ks s,tx⟩) ∧ T'=[(0,(.pin s ety sz rs))]) :
  FnX Try.prog 28 [(.agg (e_api_Node a0))] [] fun r T' => ∃ s,r=.agg (e_HN ⟨a0.Kind,a0.Name.Space,a0.Name.Local,a0.Attrs,(a0.Kids.map e_api_Node).set i.toNat (e_HN ⟨kd,sp,lo,ats,ks s,tx⟩),a0.Text⟩) ∧ T'=[(0,(.pin s ety sz rs))]:=by
 obtain⟨Y0,hY0⟩:∃ Y0:List (List D),Y0.map eD=a0.Kids.map e_api_Node:=⟨_,mapD _⟩
 have hlen:Y0.length=a0.Kids.length:=by have:=congrArg List.length hY0; simpa using this
 have hY1:Y0=a0.Kids.map e_api_Node:=by rw [← hY0,mapD]
 have hat:∀ j:Int,0 ≤ j ∧ j < (Y0.length:Int)→rd Y0 j=e_HN (toHN (rd a0.Kids j)):=fun j hj => by rw [e_HN_to,hY1]; exact rd_map (by omega)
 have hsm:([]:List T_api_Attr).length + Y0.length ≤ 140737488355328:=by simp only [List.length_nil] at ck ⊢; omega
 refine FnX.of_okR Try.func28 rfl (Nat.le_of_ble_eq_true rfl) ?_
 have hlenS:∀ s,(Y0.set i.toNat (e_HN ⟨kd,sp,lo,ats,ks s,tx⟩)).length=Y0.length:=fun s => List.length_set
 refine Ok.seq ?_
 refine Ok.region (σ':=⟨[(1,(.bref 1 0)),(2,(.bref 2 0))],[(1,(bxN a0)),(2,bx0)]⟩) ?_ ?_
 ·refine OpsOk.cut1 0 (.agg (c_api_Node a0)) (DLe.of_eq (congrArg D.agg (e_api_Node_c _).symm)) ?_
  refine .rn 2 ?_
  exact .dn
 refine Ok.seq ?_
 refine Ok.drawE2 (σ':=⟨[(1,(.bref 1 0)),(2,(.bref 2 0))],[(1,(.box .ex (c1N a0))),(2,bx0),(1024,(.rows true 27 6 (Y0.map eD)))]⟩) [⟨true,[(1,(.bref 1 0))],[(1,(bxN a0))],(.bref 1 3),[],false,[]⟩,⟨true,[(5,(.bref 1 3))],[(1,(bxN a0))],(L 3 e_api_Attr a0.Attrs),[],false,[]⟩,⟨true,[(6,(L 3 e_api_Attr a0.Attrs))],[],(L 3 e_api_Attr a0.Attrs),[],false,[]⟩,⟨true,[(1,(.bref 1 0))],[(1,(bxN a0))],(.bref 1 4),[],false,[]⟩,⟨true,[(8,(.bref 1 4))],[(1,(bxN a0))],(L 6 e_api_Node a0.Kids),[],false,[]⟩,⟨true,[(9,(L 6 e_api_Node a0.Kids))],[],(.sref 10),[(10,(.rows true 27 6 (Y0.map eD)))],true,[]⟩,⟨true,[(1,(.bref 1 0))],[(1,(bxN a0))],(.bref 1 3),[],false,[]⟩,⟨true,[(11,(.bref 1 3)),(7,(L 3 e_api_Attr a0.Attrs))],[(1,(bxN a0))],.junk,[(1,(bxN a0))],false,[]⟩,⟨true,[(1,(.bref 1 0))],[(1,(bxN a0))],(.bref 1 4),[],false,[]⟩,⟨true,[(12,(.bref 1 4)),(10,(.sref 10))],[(1,(bxN a0)),(10,(.rows true 27 6 (Y0.map eD)))],.junk,[(1,(.box .ex [(.v (.int .i64 a0.Kind)),(S a0.Name.Space),(S a0.Name.Local),(L 3 e_api_Attr a0.Attrs),(.sref 10),(S a0.Text)]))],false,[]⟩] [[],[0],[1],[],[3],[4],[],[0,1,2,3,4,6],[7],[0,1,3,4,5,6,7,8]] mixed (by kernel_rfl) ?_ ?_
 ·refine TxtE2.cons ⟨.same _,trivial⟩ ⟨rfl,trivial⟩ (It2.val rfl rfl (fun T hT => (VOk.g (VOk.to (VOk.fieldB rfl Try.underlying27 rfl sz24 rfl hT.1) rfl)))) ?_
  refine TxtE2.cons ⟨.same _,trivial⟩ ⟨rfl,trivial⟩ (It2.val rfl rfl (fun T hT => (VOk.g (VOk.loadB (d:=(L 3 e_api_Attr a0.Attrs)) rfl Try.underlying24 rfl rfl hT.1 rfl)))) ?_
  refine TxtE2.cons ⟨.same _,trivial⟩ trivial (It2.val rfl rfl (fun T hT => (GOk.call rfl rfl cl45 rfl (slices_Clone_45.ok (cloneA ca)) rfl))) ?_
  refine TxtE2.cons ⟨.same _,trivial⟩ ⟨rfl,trivial⟩ (It2.val rfl rfl (fun T hT => (VOk.g (VOk.to (VOk.fieldB rfl Try.underlying27 rfl sz25 rfl hT.1) rfl)))) ?_
  refine TxtE2.cons ⟨.same _,trivial⟩ ⟨rfl,trivial⟩ (It2.val rfl rfl (fun T hT => (VOk.g (VOk.loadB (d:=(L 6 e_api_Node a0.Kids)) rfl Try.underlying25 rfl rfl hT.1 rfl)))) ?_
  refine TxtE2.cons ⟨.same _,trivial⟩ trivial (It2.callO 10 (rows:=Y0.map eD) rfl rfl rfl cl46 rfl (hY0 ▸ hclone ck) rfl) ?_
  refine TxtE2.cons ⟨.same _,trivial⟩ ⟨rfl,trivial⟩ (It2.val rfl rfl (fun T hT => (VOk.g (VOk.to (VOk.fieldB rfl Try.underlying27 rfl sz24 rfl hT.1) rfl)))) ?_
  refine TxtE2.cons ⟨.same _,.same _,trivial⟩ ⟨rfl,trivial⟩ (It2.store rfl rfl sz24 rfl rfl rfl rfl rfl rfl rfl rfl) ?_
  refine TxtE2.cons ⟨.same _,trivial⟩ ⟨rfl,trivial⟩ (It2.val rfl rfl (fun T hT => (VOk.g (VOk.to (VOk.fieldB rfl Try.underlying27 rfl sz25 rfl hT.1) rfl)))) ?_
  refine TxtE2.cons ⟨.same _,.same _,trivial⟩ ⟨rfl,rfl,trivial⟩ (It2.store rfl rfl sz25 rfl rfl rfl rfl rfl rfl rfl rfl) ?_
  exact .doneS (SLe.trans (Le.s (.rf rfl rfl)) (SLe.ren 10 1024 rfl rfl))
 refine Ok.seq ?_
 refine Ok.seq ?_
 refine Ok.region (σ':=⟨[(1,(.bref 1 0)),(2,(.bref 2 0)),(14,(.sref 1024)),(15,(.v (.int .i64 (Y0.length:Int)))),(16,(.v (.int .i64 0)))],[(1,(.box .ex (c1N a0))),(2,bx0),(1024,(.rows true 27 6 (Y0.map eD)))]⟩) ?_ ?_
 ·refine .rn 2 ?_
  refine .cv (VOk.lenTL (e:=eD) (xs:=Y0) rfl Try.underlying25 rfl rfl) rfl rfl ?_
  refine .rn 1 ?_
  exact .dn
 refine Ok.block ?_
 refine Ok.loop (fun m σ => (∃ x:Int,σ=⟨[(1,(.bref 1 0)),(2,(.bref 2 0)),(14,(.sref 1024)),(15,(.v (.int .i64 (Y0.length:Int)))),(16,(.v (.int .i64 x)))],[(1,(.box .ex (c1N a0))),(2,bx0),(1024,(.rows true 27 6 (Y0.map eD)))]⟩ ∧ 0 ≤ x ∧ x ≤ i ∧ (Y0.length:Int) < x + m) ∨ ∃ s,∃ x:Int,σ=⟨[(1,(.bref 1 0)),(2,(.bref 2 0)),(14,(.sref 1024)),(15,(.v (.int .i64 (Y0.length:Int)))),(16,(.v (.int .i64 x)))],[(1,(.box .ex (c1N a0))),(2,bx0),(0,(.pin s ety sz rs)),(1024,(.rows true 27 6 ((Y0.set (Int.toNat i) (e_HN ⟨kd,sp,lo,ats,ks s,tx⟩)).map eD)))]⟩ ∧ i < x ∧ x ≤ (Y0.length:Int) ∧ (Y0.length:Int) < x + m) (Y0.length + 1) (.inl ⟨0,rfl,by omega,by omega,by omega⟩) ?_
 rintro m σ (⟨x,rfl,h0,h1,hm⟩ |⟨s,x,rfl,h0,h1,hm⟩)
 ·by_cases hxi:x=i
  ·subst hxi
   refine Ok.seq ?_
   refine .rg [(1,(.bref 1 0)),(2,(.bref 2 0)),(14,(.sref 1024)),(15,(.v (.int .i64 (Y0.length:Int)))),(16,(.v (.int .i64 x))),(17,(.v (.bool (decide (x < (Y0.length:Int))))))] [(1,(.box .ex (c1N a0))),(2,bx0),(1024,(.rows true 27 6 (Y0.map eD)))] ?_
   refine Ok.seq ?_
   refine Ok.test (b:=(decide (x < (Y0.length:Int)))) rfl (fun hb => ?_) (fun hb => ?_)
   ·refine Ok.skip ?_
    have hlt:x < (Y0.length:Int):=by simpa using hb
    have hix:0 ≤ x ∧ x < (Y0.length:Int):=⟨h0,hlt⟩
    have hrw:=hat x hix
    have hkid:FnX Try.prog 28 [(.agg (e_HN (toHN (rd a0.Kids x))))] [] fun r T' => ∃ s,r=.agg (e_HN ⟨kd,sp,lo,ats,ks s,tx⟩) ∧ T'=[(0,(.pin s ety sz rs))]:=by rw [e_HN_to]; exact hX
    have hrow:(rd Y0 x).length=6:=by rw [hrw]; rfl
    refine Ok.seq ?_
    refine Ok.block ?_
    refine Ok.seq ?_
    refine Ok.region (σ':=⟨[(1,(.bref 1 0)),(2,(.bref 2 0)),(3,(.v (.int .i64 x))),(4,(.bref 4 0)),(14,(.sref 1024)),(15,(.v (.int .i64 (Y0.length:Int)))),(16,(.v (.int .i64 x)))],[(1,(.box .ex (c1N a0))),(2,bx0),(4,(.box .ex (e_HN (toHN (rd a0.Kids x))))),(1024,(.rows true 27 6 (Y0.map eD)))]⟩) ?_ ?_
    ·refine .rn 1 ?_
     refine .cv (VOk.indexTL (e:=eD) (xs:=Y0) (i:=x) rfl Try.underlying25 sz27 rfl rfl rfl hix) rfl rfl ?_
     refine .cv (VOk.to (d':=(.agg (e_HN (toHN (rd a0.Kids x))))) (.loadEAgg rfl Try.underlying27 rfl sz27 rfl rfl (row_rd hix) (agg_ok hrow)) (agg_row hrow hrw)) rfl rfl ?_
     refine .rn 3 ?_
     exact .dn
    refine Ok.drawX (σ':=fun s =>⟨[(1,(.bref 1 0)),(2,(.bref 2 0)),(14,(.sref 1024)),(15,(.v (.int .i64 (Y0.length:Int)))),(16,(.v (.int .i64 x)))],[(1,(.box .ex (c1N a0))),(2,bx0),(0,(.pin s ety sz rs)),(1024,(.rows true 27 6 ((Y0.set (Int.toNat x) (e_HN ⟨kd,sp,lo,ats,ks s,tx⟩)).map eD)))]⟩) undef (fun s => [⟨true,[(1,(.bref 1 0))],[(1,(.box .ex (c1N a0)))],(.bref 1 4),[],false,[]⟩,⟨true,[(21,(.bref 1 4))],[(1,(.box .ex (c1N a0)))],(.sref 1024),[],false,[]⟩,⟨true,[(3,(.v (.int .i64 x)))],[],(.v (.int .i64 x)),[],false,[]⟩,⟨true,[(4,(.bref 4 0))],[(4,(.box .ex (e_HN (toHN (rd a0.Kids x)))))],(.agg (e_HN (toHN (rd a0.Kids x)))),[],false,[]⟩,⟨true,[(24,(.agg (e_HN (toHN (rd a0.Kids x)))))],[],(.agg (e_HN ⟨kd,sp,lo,ats,ks s,tx⟩)),[(0,(.pin s ety sz rs))],true,[]⟩,⟨true,[(22,(.sref 1024)),(23,(.v (.int .i64 x)))],[(1024,(.rows true 27 6 (Y0.map eD)))],(.eref 1024 (Int.toNat x) 0),[],false,[]⟩,⟨true,[(26,(.eref 1024 (Int.toNat x) 0)),(25,(.agg (e_HN ⟨kd,sp,lo,ats,ks s,tx⟩)))],[(1024,(.rows true 27 6 (Y0.map eD)))],.junk,[(1024,(.rows true 27 6 ((Y0.set (Int.toNat x) (e_HN ⟨kd,sp,lo,ats,ks s,tx⟩)).map eD)))],false,[]⟩]) 4 [[],[0],[],[],[3],[1,2,3,4],[4,5]] mixed (fun s => by kernel_rfl) (fun s s' k hk hc => by
      rcases k with _ | _ | _ | _ | _ | _ | _ | k <;> first | rfl | exact absurd rfl hk | exact absurd hc (by decide)) (fun s => ?_) (fun s => ?_)
    ·refine TxtEX.cons ⟨.same _,trivial⟩ ⟨rfl,trivial⟩ rfl (It2.val rfl rfl (fun T hT => (VOk.g (VOk.to (VOk.fieldB rfl Try.underlying27 rfl sz25 rfl hT.1) rfl)))) ?_
     refine TxtEX.cons ⟨.same _,trivial⟩ ⟨rfl,trivial⟩ rfl (It2.val rfl rfl (fun T hT => (VOk.g (VOk.loadB (d:=(.sref 1024)) rfl Try.underlying25 rfl rfl hT.1 rfl)))) ?_
     refine TxtEX.cons ⟨.same _,trivial⟩ trivial rfl (It2.val rfl rfl (fun T hT => (VOk.g (VOk.mv (d:=(.v (.int .i64 x))) rfl rfl)))) ?_
     refine TxtEX.cons ⟨.same _,trivial⟩ ⟨rfl,trivial⟩ rfl (It2.val rfl rfl (fun T hT => (VOk.g (VOk.to (d':=(.agg (e_HN (toHN (rd a0.Kids x))))) (.loadBAgg rfl Try.underlying27 rfl sz27 rfl hT.1 rfl) rfl)))) ?_
     refine TxtEX.consX ⟨.same _,trivial⟩ trivial (ItX.callPin (A:=Value) (R:=fun s => .agg (e_HN ⟨kd,sp,lo,ats,ks s,tx⟩)) (B:=fun s => (.pin s ety sz rs)) 0 rfl rfl rfl cl28 hkid (fun s =>⟨_,_,_,_,rfl⟩) (fun s => rfl) rfl rfl (fun s => rfl) rfl) ?_
     refine TxtEX.cons ⟨.same _,.same _,trivial⟩ ⟨rfl,trivial⟩ rfl (It2.val rfl rfl (fun T hT => (VOk.g (VOk.indexTL (e:=eD) (xs:=Y0) (i:=x) rfl Try.underlying25 sz27 rfl hT.1 rfl hix)))) ?_
     refine TxtEX.cons ⟨.same _,.same _,trivial⟩ ⟨rfl,trivial⟩ rfl (It2.storeEL (e:=eD) (xs:=Y0) (i:=x) (y:=(e_HN ⟨kd,sp,lo,ats,ks s,tx⟩)) rfl rfl sz27 rfl rfl rfl hix rfl rfl rfl (spl_any hrow rfl) rfl rfl) ?_
     exact .done (.rf rfl rfl)
    refine Ok.region (σ':=⟨[(1,(.bref 1 0)),(2,(.bref 2 0)),(14,(.sref 1024)),(15,(.v (.int .i64 (Y0.length:Int)))),(16,(.v (.int .i64 (x + 1))))],[(1,(.box .ex (c1N a0))),(2,bx0),(0,(.pin s ety sz rs)),(1024,(.rows true 27 6 ((Y0.set (Int.toNat x) (e_HN ⟨kd,sp,lo,ats,ks s,tx⟩)).map eD)))]⟩) ?_ ?_
    ·refine .cv (VOk.to (d':=(.v (.int .i64 (x + 1)))) (VOk.arith (op:=.add) (k:=.i64) (a:=x) (b:=1) rfl rfl rfl rfl) (wr1 hlt h0 hsm)) rfl rfl ?_
     refine .rn 1 ?_
     exact .dn
    exact⟨m - 1,by omega,.inr ⟨s,x + 1,rfl,by omega,by omega,by omega⟩⟩
   ·exact absurd hb (by simp; omega)
  ·skip
   refine Ok.seq ?_
   refine .rg [(1,(.bref 1 0)),(2,(.bref 2 0)),(14,(.sref 1024)),(15,(.v (.int .i64 (Y0.length:Int)))),(16,(.v (.int .i64 x))),(17,(.v (.bool (decide (x < (Y0.length:Int))))))] [(1,(.box .ex (c1N a0))),(2,bx0),(1024,(.rows true 27 6 (Y0.map eD)))] ?_
   refine Ok.seq ?_
   refine Ok.test (b:=(decide (x < (Y0.length:Int)))) rfl (fun hb => ?_) (fun hb => ?_)
   ·refine Ok.skip ?_
    have hlt:x < (Y0.length:Int):=by simpa using hb
    have hix:0 ≤ x ∧ x < (Y0.length:Int):=⟨h0,hlt⟩
    have hrw:=hat x hix
    have hkid:Vx.Fn Try.prog 28 [(.agg (e_HN (toHN (rd a0.Kids x))))] [] (.agg (e_HN (toHN (rd a0.Kids x)))) []:=by rw [e_HN_to]; exact hk x (by omega) hxi
    have hset:Y0.set (Int.toNat x) (e_HN (toHN (rd a0.Kids x)))=Y0:=by rw [← hrw]; exact set_rd hix
    have hrow:(rd Y0 x).length=6:=by rw [hrw]; rfl
    refine Ok.seq ?_
    refine Ok.block ?_
    refine Ok.seq ?_
    refine Ok.region (σ':=⟨[(1,(.bref 1 0)),(2,(.bref 2 0)),(3,(.v (.int .i64 x))),(4,(.bref 4 0)),(14,(.sref 1024)),(15,(.v (.int .i64 (Y0.length:Int)))),(16,(.v (.int .i64 x)))],[(1,(.box .ex (c1N a0))),(2,bx0),(4,(.box .ex (e_HN (toHN (rd a0.Kids x))))),(1024,(.rows true 27 6 (Y0.map eD)))]⟩) ?_ ?_
    ·refine .rn 1 ?_
     refine .cv (VOk.indexTL (e:=eD) (xs:=Y0) (i:=x) rfl Try.underlying25 sz27 rfl rfl rfl hix) rfl rfl ?_
     refine .cv (VOk.to (d':=(.agg (e_HN (toHN (rd a0.Kids x))))) (.loadEAgg rfl Try.underlying27 rfl sz27 rfl rfl (row_rd hix) (agg_ok hrow)) (agg_row hrow hrw)) rfl rfl ?_
     refine .rn 3 ?_
     exact .dn
    refine .dU [(1,(.bref 1 0)),(2,(.bref 2 0)),(14,(.sref 1024)),(15,(.v (.int .i64 (Y0.length:Int)))),(16,(.v (.int .i64 x)))] [(1,(.box .ex (c1N a0))),(2,bx0),(1024,(.rows true 27 6 ((Y0.set (Int.toNat x) (e_HN (toHN (rd a0.Kids x)))).map eD)))] [[],[0],[],[],[3],[1,2],[4,5]] mixed ?_ ?_
    ·refine .un 4 ?_
     refine .uc ⟨true,[(24,(.agg (e_HN (toHN (rd a0.Kids x)))))],[],(.agg (e_HN (toHN (rd a0.Kids x)))),[],false,[]⟩ ⟨.same _,trivial⟩ trivial (It2.val rfl rfl (fun T hT => (GOk.call rfl rfl cl28 rfl hkid rfl))) ?_
     refine .uc ⟨true,[(22,(.sref 1024)),(23,(.v (.int .i64 x)))],[(1024,(.rows true 27 6 (Y0.map eD)))],(.eref 1024 (Int.toNat x) 0),[],false,[]⟩ ⟨.same _,.same _,trivial⟩ ⟨rfl,trivial⟩ (It2.val rfl rfl (fun T hT => (VOk.g (VOk.indexTL (e:=eD) (xs:=Y0) (i:=x) rfl Try.underlying25 sz27 rfl hT.1 rfl hix)))) ?_
     refine .uc ⟨true,[(26,(.eref 1024 (Int.toNat x) 0)),(25,(.agg (e_HN (toHN (rd a0.Kids x)))))],[(1024,(.rows true 27 6 (Y0.map eD)))],.junk,[(1024,(.rows true 27 6 ((Y0.set (Int.toNat x) (e_HN (toHN (rd a0.Kids x)))).map eD)))],false,[]⟩ ⟨.same _,.same _,trivial⟩ ⟨rfl,trivial⟩ (It2.storeEL (e:=eD) (xs:=Y0) (i:=x) (y:=(e_HN (toHN (rd a0.Kids x)))) rfl rfl sz27 rfl rfl rfl hix rfl rfl rfl (spl_any hrow rfl) rfl rfl) ?_
     exact .dn
    refine Ok.region (σ':=⟨[(1,(.bref 1 0)),(2,(.bref 2 0)),(14,(.sref 1024)),(15,(.v (.int .i64 (Y0.length:Int)))),(16,(.v (.int .i64 (x + 1))))],[(1,(.box .ex (c1N a0))),(2,bx0),(1024,(.rows true 27 6 ((Y0.set (Int.toNat x) (e_HN (toHN (rd a0.Kids x)))).map eD)))]⟩) ?_ ?_
    ·refine .cv (VOk.to (d':=(.v (.int .i64 (x + 1)))) (VOk.arith (op:=.add) (k:=.i64) (a:=x) (b:=1) rfl rfl rfl rfl) (wr1 hlt h0 hsm)) rfl rfl ?_
     refine .rn 1 ?_
     exact .dn
    exact⟨m - 1,by omega,.inl ⟨x + 1,by rw [hset],by omega,by omega,by omega⟩⟩
   ·exact absurd hb (by simp; omega)
 ·skip
  refine Ok.seq ?_
  refine .rg [(1,(.bref 1 0)),(2,(.bref 2 0)),(14,(.sref 1024)),(15,(.v (.int .i64 (Y0.length:Int)))),(16,(.v (.int .i64 x))),(17,(.v (.bool (decide (x < (Y0.length:Int))))))] [(1,(.box .ex (c1N a0))),(2,bx0),(0,(.pin s ety sz rs)),(1024,(.rows true 27 6 ((Y0.set (Int.toNat i) (e_HN ⟨kd,sp,lo,ats,ks s,tx⟩)).map eD)))] ?_
  refine Ok.seq ?_
  refine Ok.test (b:=(decide (x < (Y0.length:Int)))) rfl (fun hb => ?_) (fun hb => ?_)
  ·refine Ok.skip ?_
   have hlt:x < (Y0.length:Int):=by simpa using hb
   have hix:0 ≤ x ∧ x < ((Y0.set (Int.toNat i) (e_HN ⟨kd,sp,lo,ats,ks s,tx⟩)).length:Int):=by rw [hlenS]; exact⟨by omega,hlt⟩
   have hrw:rd (Y0.set (Int.toNat i) (e_HN ⟨kd,sp,lo,ats,ks s,tx⟩)) x=e_HN (toHN (rd a0.Kids x)):=by rw [rd_other (by omega) (by omega)]; exact hat x (by omega)
   have hkid:Vx.Fn Try.prog 28 [(.agg (e_HN (toHN (rd a0.Kids x))))] [] (.agg (e_HN (toHN (rd a0.Kids x)))) []:=by rw [e_HN_to]; exact hk x (by omega) (by omega)
   have hset:(Y0.set (Int.toNat i) (e_HN ⟨kd,sp,lo,ats,ks s,tx⟩)).set (Int.toNat x) (e_HN (toHN (rd a0.Kids x)))=(Y0.set (Int.toNat i) (e_HN ⟨kd,sp,lo,ats,ks s,tx⟩)):=by rw [← hrw]; exact set_rd hix
   have hrow:(rd (Y0.set (Int.toNat i) (e_HN ⟨kd,sp,lo,ats,ks s,tx⟩)) x).length=6:=by rw [hrw]; rfl
   refine Ok.seq ?_
   refine Ok.block ?_
   refine Ok.seq ?_
   refine Ok.region (σ':=⟨[(1,(.bref 1 0)),(2,(.bref 2 0)),(3,(.v (.int .i64 x))),(4,(.bref 4 0)),(14,(.sref 1024)),(15,(.v (.int .i64 (Y0.length:Int)))),(16,(.v (.int .i64 x)))],[(1,(.box .ex (c1N a0))),(2,bx0),(0,(.pin s ety sz rs)),(4,(.box .ex (e_HN (toHN (rd a0.Kids x))))),(1024,(.rows true 27 6 ((Y0.set (Int.toNat i) (e_HN ⟨kd,sp,lo,ats,ks s,tx⟩)).map eD)))]⟩) ?_ ?_
   ·refine .rn 1 ?_
    refine .cv (VOk.indexTL (e:=eD) (xs:=(Y0.set (Int.toNat i) (e_HN ⟨kd,sp,lo,ats,ks s,tx⟩))) (i:=x) rfl Try.underlying25 sz27 rfl rfl rfl hix) rfl rfl ?_
    refine .cv (VOk.to (d':=(.agg (e_HN (toHN (rd a0.Kids x))))) (.loadEAgg rfl Try.underlying27 rfl sz27 rfl rfl (row_rd hix) (agg_ok hrow)) (agg_row hrow hrw)) rfl rfl ?_
    refine .rn 3 ?_
    exact .dn
   refine .dU [(1,(.bref 1 0)),(2,(.bref 2 0)),(14,(.sref 1024)),(15,(.v (.int .i64 (Y0.length:Int)))),(16,(.v (.int .i64 x)))] [(1,(.box .ex (c1N a0))),(2,bx0),(0,(.pin s ety sz rs)),(1024,(.rows true 27 6 (((Y0.set (Int.toNat i) (e_HN ⟨kd,sp,lo,ats,ks s,tx⟩)).set (Int.toNat x) (e_HN (toHN (rd a0.Kids x)))).map eD)))] [[],[0],[],[],[3],[1,2],[4,5]] mixed ?_ ?_
   ·refine .un 4 ?_
    refine .uc ⟨true,[(24,(.agg (e_HN (toHN (rd a0.Kids x)))))],[],(.agg (e_HN (toHN (rd a0.Kids x)))),[],false,[]⟩ ⟨.same _,trivial⟩ trivial (It2.val rfl rfl (fun T hT => (GOk.call rfl rfl cl28 rfl hkid rfl))) ?_
    refine .uc ⟨true,[(22,(.sref 1024)),(23,(.v (.int .i64 x)))],[(1024,(.rows true 27 6 ((Y0.set (Int.toNat i) (e_HN ⟨kd,sp,lo,ats,ks s,tx⟩)).map eD)))],(.eref 1024 (Int.toNat x) 0),[],false,[]⟩ ⟨.same _,.same _,trivial⟩ ⟨rfl,trivial⟩ (It2.val rfl rfl (fun T hT => (VOk.g (VOk.indexTL (e:=eD) (xs:=(Y0.set (Int.toNat i) (e_HN ⟨kd,sp,lo,ats,ks s,tx⟩))) (i:=x) rfl Try.underlying25 sz27 rfl hT.1 rfl hix)))) ?_
    refine .uc ⟨true,[(26,(.eref 1024 (Int.toNat x) 0)),(25,(.agg (e_HN (toHN (rd a0.Kids x)))))],[(1024,(.rows true 27 6 ((Y0.set (Int.toNat i) (e_HN ⟨kd,sp,lo,ats,ks s,tx⟩)).map eD)))],.junk,[(1024,(.rows true 27 6 (((Y0.set (Int.toNat i) (e_HN ⟨kd,sp,lo,ats,ks s,tx⟩)).set (Int.toNat x) (e_HN (toHN (rd a0.Kids x)))).map eD)))],false,[]⟩ ⟨.same _,.same _,trivial⟩ ⟨rfl,trivial⟩ (It2.storeEL (e:=eD) (xs:=(Y0.set (Int.toNat i) (e_HN ⟨kd,sp,lo,ats,ks s,tx⟩))) (i:=x) (y:=(e_HN (toHN (rd a0.Kids x)))) rfl rfl sz27 rfl rfl rfl hix rfl rfl rfl (spl_any hrow rfl) rfl rfl) ?_
    exact .dn
   refine Ok.region (σ':=⟨[(1,(.bref 1 0)),(2,(.bref 2 0)),(14,(.sref 1024)),(15,(.v (.int .i64 (Y0.length:Int)))),(16,(.v (.int .i64 (x + 1))))],[(1,(.box .ex (c1N a0))),(2,bx0),(0,(.pin s ety sz rs)),(1024,(.rows true 27 6 (((Y0.set (Int.toNat i) (e_HN ⟨kd,sp,lo,ats,ks s,tx⟩)).set (Int.toNat x) (e_HN (toHN (rd a0.Kids x)))).map eD)))]⟩) ?_ ?_
   ·refine .cv (VOk.to (d':=(.v (.int .i64 (x + 1)))) (VOk.arith (op:=.add) (k:=.i64) (a:=x) (b:=1) rfl rfl rfl rfl) (wr1 hlt (by omega) hsm)) rfl rfl ?_
    refine .rn 1 ?_
    exact .dn
   exact⟨m - 1,by omega,.inr ⟨s,x + 1,by rw [hset],by omega,by omega,by omega⟩⟩
  ·have hge:¬ x < (Y0.length:Int):=by simpa using hb
   refine Ok.exit ?_
   refine Ok.seq ?_
   refine Ok.region (σ':=⟨[(2,(.bref 2 0))],[(2,(.box .ex (e_HN ⟨a0.Kind,a0.Name.Space,a0.Name.Local,a0.Attrs,Y0.set i.toNat (e_HN ⟨kd,sp,lo,ats,ks s,tx⟩),a0.Text⟩))),(0,(.pin s ety sz rs))]⟩) ?_ ?_
   ·refine OpsOk.frzL 1024 (e:=eD) (xs:=(Y0.set (Int.toNat i) (e_HN ⟨kd,sp,lo,ats,ks s,tx⟩))) rfl ?_
    refine .rn 2 ?_
    exact .dn
   refine Ok.ret ?_
   exact⟨.inl rfl,(.agg (e_HN ⟨a0.Kind,a0.Name.Space,a0.Name.Local,a0.Attrs,Y0.set i.toNat (e_HN ⟨kd,sp,lo,ats,ks s,tx⟩),a0.Text⟩)),[(0,(.pin s ety sz rs))],⟨s,by rw [hY1],rfl⟩,⟨_,(.cons (.cell (VOk.to (d':=(.agg (e_HN ⟨a0.Kind,a0.Name.Space,a0.Name.Local,a0.Attrs,Y0.set i.toNat (e_HN ⟨kd,sp,lo,ats,ks s,tx⟩),a0.Text⟩))) (.loadBAgg rfl Try.underlying27 rfl sz27 rfl rfl rfl) rfl)) .nil),rfl⟩,.same _,trivial⟩
end Go.Proofs.Ytjhbedgepfkdbaa.Sh
