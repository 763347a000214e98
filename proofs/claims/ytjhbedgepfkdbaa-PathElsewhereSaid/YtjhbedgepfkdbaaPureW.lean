import Derived.Test.YtjhbedgepfkdbaaSh
import Derived.Test.YtjhbedgepfkdbaaVxPi
namespace Go.Proofs.Ytjhbedgepfkdbaa.Sh
open Go Go.RowKit Go.Proofs.Vx
set_option linter.unusedVariables false
def eD (r:List D):List D:=r
abbrev z0H:List D:=[(.v (.int .i64 0)),(S ([]:Str)),(S ([]:Str)),(L 3 e_api_Attr ([]:List T_api_Attr)),(L 6 eD ([]:List (List D))),(S ([]:Str))]
abbrev bxH:Ob:=.box .ex z0H
structure HN where
 kd:Int
 sp:Str
 lo:Str
 ats:List T_api_Attr
 kids:List (List D)
 tx:Str
def e_HN (x:HN):List D:=[.v (.int .i64 x.kd),S x.sp,S x.lo,L 3 e_api_Attr x.ats,L 6 eD x.kids,S x.tx]
theorem hclone {α:Type} {E:α→List D} {a0:List α} (c2:(([]:List α).length + a0.length) * 104 ≤ 140737488355328):Vx.Fn Try.prog 46 [(L 6 E a0)] [] (.sref 0) [(0,.rows true 27 6 (List.map E a0))]:=by
 refine Vx.Fn.of_okO (t:=2) Try.func46 rfl (Nat.le_of_ble_eq_true rfl) rfl ?_
 refine Ok.seq ?_
 refine Ok.region (σ':=⟨[(0,(L 6 E a0))],[]⟩) ?_ ?_
 ·refine OpsOk.cons rfl (.nilT 2 27 6 (.inl rfl) rfl rfl) ?_
  exact .dn
 refine Ok.seq ?_
 refine Ok.seq ?_
 refine Ok.regionB (X:=fun b => b=true→a0=[]) (σ':=fun nb1 =>⟨[(0,(L 6 E a0)),(4,(.v (.bool nb1)))],[]⟩) ?_ (fun nb1 hnb1 => ?_)
 ·refine OpsB.cons rfl (.v (VOk.mv (d:=(L 6 E a0)) rfl rfl) rfl) ?_
  exact .last rfl (BOk.eqNil (E:=E) (xs:=a0) rfl Try.underlying25 rfl) rfl (fun nb1 => (.rf rfl rfl))
 refine Ok.test (b:=nb1) rfl (fun hb3 => ?_) (fun hb3 => ?_)
 ·have h0:=hnb1 hb3
  subst h0
  refine Ok.seq ?_
  refine Ok.region (σ':=⟨[(2,(.sref 2))],[(2,(.rows true 27 6 (([]:List α).map E)))]⟩) ?_ ?_
  ·refine OpsOk.cons rfl (.nilT 2 27 6 (.inl rfl) rfl rfl) ?_
   exact .dn
  refine Ok.ret ?_
  exact⟨.inl rfl,2,rfl,rfl⟩
 ·refine Ok.skip ?_
  refine Ok.seq ?_
  refine Ok.region (σ':=⟨[(2,(.sref 5))],[(5,(.rows true 27 6 ((([]:List α) ++ a0).map E)))]⟩) ?_ ?_
  ·refine OpsOk.cons rfl (OpOk.litT 5 rfl rfl Try.underlying25 sz27 zs27 rfl (rows:=([]:List α).map E) rfl rfl rfl rfl) ?_
   refine .rn 1 ?_
   refine OpsOk.cons rfl (OpOk.appendL (e:=E) (xs:=([]:List α)) (ys:=a0) rfl Try.underlying25 elt27 rfl rfl rfl c2 rfl) ?_
   refine .rn 1 ?_
   exact .dn
  refine Ok.ret ?_
  exact⟨.inl rfl,5,rfl,rfl⟩
theorem hkid (a0:HN) (a1:Int):Vx.Fn Try.prog 27 [(.agg (e_HN a0)),(.v (.int .i64 a1))] [] (.v (.bool ((decide (a1 ≥ 0)) && (decide (a1 < (a0.kids.length:Int)))))) []:=by
 refine Vx.Fn.of_okR Try.func27 rfl (Nat.le_of_ble_eq_true rfl) ?_
 refine Ok.seq ?_
 refine .rg [(1,(.v (.int .i64 a1))),(2,(.bref 2 0))] [(2,(.box .ex (e_HN a0)))] ?_
 refine Ok.seq ?_
 refine Ok.region (σ':=⟨[(4,(.v (.bool ((decide (a1 ≥ 0)) && (decide (a1 < (a0.kids.length:Int)))))))],[]⟩) ?_ ?_
 ·refine .rn 3 ?_
  refine OpsOk.consI rfl rfl rfl (.one rfl) rfl (fun hw1 => (VOk.g (VOk.mv (d:=(.v (.int .i64 a1))) rfl rfl))) ?_
  refine OpsOk.consI rfl rfl rfl (.one rfl) rfl (fun hw1 => (VOk.g (VOk.to (VOk.fieldB rfl Try.underlying27 rfl sz25 rfl rfl) rfl))) ?_
  refine OpsOk.consI rfl rfl rfl (.one rfl) rfl (fun hw1 => (GOk.fr (fr':=[(9,(.bref 2 4))]) ⟨DLe.of_eq (cT hw1).symm,trivial⟩ (VOk.g (VOk.loadB (d:=(L 6 eD a0.kids)) rfl Try.underlying25 rfl rfl rfl rfl)))) ?_
  refine OpsOk.consI rfl rfl rfl (.one rfl) rfl (fun hw1 => (GOk.fr (fr':=[(10,(L 6 eD a0.kids))]) ⟨DLe.of_eq (cT hw1).symm,trivial⟩ (VOk.g (VOk.lenL (e:=eD) (xs:=a0.kids) rfl Try.underlying25 rfl)))) ?_
  refine OpsOk.consI rfl rfl rfl (.one rfl) rfl (fun hw1 => (GOk.fr (fr':=[(8,(.v (.int .i64 a1))),(11,(.v (.int .i64 (a0.kids.length:Int))))]) ⟨DLe.of_eq (cT hw1).symm,DLe.of_eq (cT hw1).symm,trivial⟩ (VOk.g (VOk.arith (op:=.lss) (k:=.i64) (a:=a1) (b:=(a0.kids.length:Int)) rfl rfl rfl rfl)))) ?_
  refine .cv (VOk.to (VOk.pickI (b:=(decide (a1 ≥ 0))) (p:=(decide (a1 < (a0.kids.length:Int)))) (q:=false) rfl rfl (fun hp2 => (cT (t_beq hp2))) (fun hp2 => rfl)) (pickAnd (decide (a1 ≥ 0)) (decide (a1 < (a0.kids.length:Int))))) rfl rfl ?_
  refine .rn 1 ?_
  exact .dn
 refine Ok.ret ?_
 exact⟨.inl rfl,⟨_,(.cons (.tmp rfl) .nil),rfl⟩,trivial⟩
def hzero:HN:=⟨0,[],[],[],[],[]⟩
theorem len_ne (i:Int) (q:List Int):¬ ((((i :: q).length:Int) == 0)=true):=by simp; omega
theorem len_pos (i:Int) (q:List Int):(0:Int) ≤ 0 ∧ (0:Int) < ((i :: q).length:Int):=by simp only [List.length_cons]; omega
theorem len_tail (i:Int) (q:List Int):(0:Int) ≤ 1 ∧ (1:Int) ≤ ((i :: q).length:Int) ∧ ((i :: q).length:Int) ≤ ((i :: q).length:Int):=by simp only [List.length_cons]; omega
theorem sl_tail (i:Int) (q:List Int):L 1 (eI .i64) (sl (i :: q) 1 ((i :: q).length:Int))=L 1 (eI .i64) q:=by
 congr 1
 simp [sl]
theorem agg_row {r c:List D} (h:r.length=6) (hc:r=c):D.agg ((r.drop 0).take 6)=.agg c:=by rw [List.drop_zero,List.take_of_length_le (by omega),hc]
theorem agg_ok {r:List D} (h:r.length=6):Nat.ble (0 + 6) (eD r).length=true:=by show Nat.ble 6 r.length=true; rw [h]; rfl
theorem spl_row {r:List D} (h:r.length=6) (m:HN):splice (eD r) 0 (e_HN m)=eD (e_HN m):=by
 show r.take 0 ++ e_HN m ++ r.drop 6=e_HN m
 rw [List.take_zero,List.nil_append,List.drop_of_length_le (by omega),List.append_nil]
theorem cl50:callable Try.prog 50=true:=by kernel_rfl
theorem hchange0K {g:Nat} {X:List D} {s:Value} {ety sz:Nat} {rows:List (List D)} {kd:Int} {sp lo tx:Str} {ats:List T_api_Attr} {m:HN} {b:Bool} (hg:callable Try.prog g=true)
  (hf:Vx.Fn Try.prog g [.agg [(.v (.int .i64 kd)),(S sp),(S lo),(L 3 e_api_Attr ats),(.v s),(S tx)],.fp X 0] [(0,.pin s ety sz rows)] (.tup [.agg (e_HN m),.v (.bool b)]) []):Vx.Fn Try.prog 50 [.agg [(.v (.int .i64 kd)),(S sp),(S lo),(L 3 e_api_Attr ats),(.v s),(S tx)],L 1 (eI .i64) [],.clo g [.fp X 0]] [(0,.pin s ety sz rows)] (.tup [.agg (e_HN m),.v (.bool b)]) []:=by
 refine Vx.Fn.of_okR Try.func50 rfl (Nat.le_of_ble_eq_true rfl) ?_
 refine Ok.seq ?_
 refine .rg [(1,(L 1 (eI .i64) ([]:List Int))),(2,(.clo g [.fp X 0])),(3,(.bref 3 0)),(6,(.bref 6 0))] [(0,(.pin s ety sz rows)),(3,(.box .ex [(.v (.int .i64 kd)),(S sp),(S lo),(L 3 e_api_Attr ats),(.v s),(S tx)])),(6,bxH)] ?_
 refine Ok.seq ?_
 refine Ok.seq ?_
 refine Ok.region (σ':=⟨[(2,(.clo g [.fp X 0])),(3,(.bref 3 0)),(6,(.bref 6 0)),(12,(.v (.bool true)))],[(0,(.pin s ety sz rows)),(3,(.box .ex [(.v (.int .i64 kd)),(S sp),(S lo),(L 3 e_api_Attr ats),(.v s),(S tx)])),(6,bxH)]⟩) ?_ ?_
 ·refine .rn 1 ?_
  refine .cv (VOk.lenL (e:=(eI .i64)) (xs:=([]:List Int)) rfl Try.underlying28 rfl) rfl rfl ?_
  refine .cv (VOk.to (d':=(.v (.bool true))) (VOk.arith (op:=.eql) (k:=.i64) (a:=(([]:List Int).length:Int)) (b:=0) rfl rfl rfl rfl) rfl) rfl rfl ?_
  exact .dn
 refine Ok.condT rfl ?_
 refine Ok.seq ?_
 refine Ok.region (σ':=⟨[(6,(.bref 6 0)),(7,(.v (.bool b)))],[(6,(.box .ex (e_HN m)))]⟩) ?_ ?_
 ·refine .rn 2 ?_
  refine OpsOk.cons rfl (OpOk.callEat (ds:=[(.agg [(.v (.int .i64 kd)),(S sp),(S lo),(L 3 e_api_Attr ats),(.v s),(S tx)]),.fp X 0]) 0 rfl rfl hg hf rfl ⟨.same _,.same _,trivial⟩ rfl rfl rfl) ?_
  refine .rn 4 ?_
  exact .dn
 refine Ok.ret ?_
 exact⟨.inl rfl,⟨_,(.cons (.cell (VOk.to (d':=(.agg (e_HN m))) (.loadBAgg rfl Try.underlying27 rfl sz27 rfl rfl rfl) rfl)) (.cons (.tmp rfl) .nil)),rfl⟩,trivial⟩
theorem hchange0A {g:Nat} {X:List D} {s:Value} {ety sz:Nat} {rows:List (List D)} {kd:Int} {sp lo tx:Str} {kids:List T_api_Node} {m:HN} {b:Bool} (hg:callable Try.prog g=true)
  (hf:Vx.Fn Try.prog g [.agg [(.v (.int .i64 kd)),(S sp),(S lo),(.v s),(L 6 e_api_Node kids),(S tx)],.fp X 0] [(0,.pin s ety sz rows)] (.tup [.agg (e_HN m),.v (.bool b)]) []):Vx.Fn Try.prog 50 [.agg [(.v (.int .i64 kd)),(S sp),(S lo),(.v s),(L 6 e_api_Node kids),(S tx)],L 1 (eI .i64) [],.clo g [.fp X 0]] [(0,.pin s ety sz rows)] (.tup [.agg (e_HN m),.v (.bool b)]) []:=by
 refine Vx.Fn.of_okR Try.func50 rfl (Nat.le_of_ble_eq_true rfl) ?_
 refine Ok.seq ?_
 refine .rg [(1,(L 1 (eI .i64) ([]:List Int))),(2,(.clo g [.fp X 0])),(3,(.bref 3 0)),(6,(.bref 6 0))] [(0,(.pin s ety sz rows)),(3,(.box .ex [(.v (.int .i64 kd)),(S sp),(S lo),(.v s),(L 6 e_api_Node kids),(S tx)])),(6,bxH)] ?_
 refine Ok.seq ?_
 refine Ok.seq ?_
 refine Ok.region (σ':=⟨[(2,(.clo g [.fp X 0])),(3,(.bref 3 0)),(6,(.bref 6 0)),(12,(.v (.bool true)))],[(0,(.pin s ety sz rows)),(3,(.box .ex [(.v (.int .i64 kd)),(S sp),(S lo),(.v s),(L 6 e_api_Node kids),(S tx)])),(6,bxH)]⟩) ?_ ?_
 ·refine .rn 1 ?_
  refine .cv (VOk.lenL (e:=(eI .i64)) (xs:=([]:List Int)) rfl Try.underlying28 rfl) rfl rfl ?_
  refine .cv (VOk.to (d':=(.v (.bool true))) (VOk.arith (op:=.eql) (k:=.i64) (a:=(([]:List Int).length:Int)) (b:=0) rfl rfl rfl rfl) rfl) rfl rfl ?_
  exact .dn
 refine Ok.condT rfl ?_
 refine Ok.seq ?_
 refine Ok.region (σ':=⟨[(6,(.bref 6 0)),(7,(.v (.bool b)))],[(6,(.box .ex (e_HN m)))]⟩) ?_ ?_
 ·refine .rn 2 ?_
  refine OpsOk.cons rfl (OpOk.callEat (ds:=[(.agg [(.v (.int .i64 kd)),(S sp),(S lo),(.v s),(L 6 e_api_Node kids),(S tx)]),.fp X 0]) 0 rfl rfl hg hf rfl ⟨.same _,.same _,trivial⟩ rfl rfl rfl) ?_
  refine .rn 4 ?_
  exact .dn
 refine Ok.ret ?_
 exact⟨.inl rfl,⟨_,(.cons (.cell (VOk.to (d':=(.agg (e_HN m))) (.loadBAgg rfl Try.underlying27 rfl sz27 rfl rfl rfl) rfl)) (.cons (.tmp rfl) .nil)),rfl⟩,trivial⟩
theorem hchange1K {g:Nat} {X:List D} {s:Value} {ety sz:Nat} {rows:List (List D)} {n m:HN} {i:Int} {q:List Int} {b:Bool} {kd:Int} {sp lo tx:Str} {ats:List T_api_Attr} {hs:Value} (hi:(0:Int) ≤ i ∧ i < (n.kids.length:Int)) (hrw:rd n.kids i=[(.v (.int .i64 kd)),(S sp),(S lo),(L 3 e_api_Attr ats),(.v hs),(S tx)]) (hlen:(([]:List (List D)).length + n.kids.length) * 104 ≤ 140737488355328)
  (hrec:Vx.Fn Try.prog 50 [.agg [(.v (.int .i64 kd)),(S sp),(S lo),(L 3 e_api_Attr ats),(.v hs),(S tx)],L 1 (eI .i64) q,.clo g [.fp X 0]] [(0,.pin s ety sz rows)] (.tup [.agg (e_HN m),.v (.bool b)]) []) :
  Vx.Fn Try.prog 50 [.agg (e_HN n),L 1 (eI .i64) (i :: q),.clo g [.fp X 0]] [(0,.pin s ety sz rows)] (.tup [.agg (e_HN (bif b then⟨n.kd,n.sp,n.lo,n.ats,n.kids.set i.toNat (e_HN m),n.tx⟩ else hzero)),.v (.bool b)]) []:=by
 have hin:¬ ((!((decide (i ≥ 0)) && (decide (i < (n.kids.length:Int)))))=true):=by simp; omega
 have hrow:(rd n.kids i).length=6:=by rw [hrw]; rfl
 refine Vx.Fn.of_okR Try.func50 rfl (Nat.le_of_ble_eq_true rfl) ?_
 refine Ok.seq ?_
 refine .rg [(1,(L 1 (eI .i64) (i :: q))),(2,(.clo g [.fp X 0])),(3,(.bref 3 0)),(6,(.bref 6 0))] [(0,(.pin s ety sz rows)),(3,(.box .ex (e_HN n))),(6,bxH)] ?_
 refine Ok.seq ?_
 refine Ok.seq ?_
 refine Ok.region (σ':=⟨[(1,(L 1 (eI .i64) (i :: q))),(2,(.clo g [.fp X 0])),(3,(.bref 3 0)),(6,(.bref 6 0)),(12,(.v (.bool (((i :: q).length:Int) == 0))))],[(0,(.pin s ety sz rows)),(3,(.box .ex (e_HN n))),(6,bxH)]⟩) ?_ ?_
 ·refine .rn 1 ?_
  refine .cv (VOk.lenL (e:=(eI .i64)) (xs:=(i :: q)) rfl Try.underlying28 rfl) rfl rfl ?_
  refine .rn 1 ?_
  exact .dn
 refine Ok.test (b:=(((i :: q).length:Int) == 0)) rfl (fun hb => ?_) (fun _ => ?_)
 ·exact absurd hb (len_ne i q)
 refine Ok.le (σ':=⟨[(1,(L 1 (eI .i64) (i :: q))),(2,(.clo g [.fp X 0])),(3,(.bref 3 0)),(6,(.bref 6 0))],[(0,(.pin s ety sz rows)),(3,(.box .ex (e_HN n))),(6,bxH)]⟩) (.rf rfl rfl) ?_
 refine Ok.skip ?_
 refine Ok.seq ?_
 refine Ok.seq ?_
 refine .dA [(1,(L 1 (eI .i64) (i :: q))),(2,(.clo g [.fp X 0])),(3,(.bref 3 0)),(6,(.bref 6 0)),(23,(.v (.bool (!((decide (i ≥ 0)) && (decide (i < (n.kids.length:Int))))))))] [(0,(.pin s ety sz rows)),(3,(.box .ex (e_HN n))),(6,bxH)] [[],[],[1],[2],[0,3],[4]] mixed ?_ ?_
 ·refine .tn 2 ?_
  refine .tc (VOk.g (VOk.indexL (sz:=1) (e:=(eI .i64)) (xs:=(i :: q)) (i:=0) rfl Try.underlying28 sz3 rfl rfl (len_pos i q))) ?_
  refine .tn 1 ?_
  refine .tc (GOk.call rfl rfl cl27 rfl (hkid n i) rfl) ?_
  refine .tn 1 ?_
  exact .dn
 refine Ok.test (b:=(!((decide (i ≥ 0)) && (decide (i < (n.kids.length:Int)))))) rfl (fun hb => ?_) (fun hb => ?_)
 ·exact absurd hb hin
 refine Ok.le (σ':=⟨[(1,(L 1 (eI .i64) (i :: q))),(2,(.clo g [.fp X 0])),(3,(.bref 3 0)),(6,(.bref 6 0))],[(0,(.pin s ety sz rows)),(3,(.box .ex (e_HN n))),(6,bxH)]⟩) (.rf rfl rfl) ?_
 refine Ok.skip ?_
 refine Ok.seq ?_
 refine .dU [(1,(L 1 (eI .i64) (i :: q))),(3,(.bref 3 0)),(6,(.bref 6 0)),(8,(.bref 8 0)),(9,(.v (.bool b)))] [(3,(.box .ex (e_HN n))),(6,bxH),(8,(.box .ex (e_HN m)))] [[],[0],[],[2],[3],[1,4],[5],[],[7],[],[6,8,9],[10],[11],[11],[],[12,14],[13]] mixed ?_ ?_
 ·refine .un 3 ?_
  refine .uc ⟨true,[(28,(L 1 (eI .i64) (i :: q)))],[],(.fp (eI .i64 (rd (i :: q) 0)) 0),[],false,[]⟩ ⟨.same _,trivial⟩ trivial (It2.val rfl rfl (fun T hT => (VOk.g (VOk.indexL (sz:=1) (e:=(eI .i64)) (xs:=(i :: q)) (i:=0) rfl Try.underlying28 sz3 rfl rfl (len_pos i q))))) ?_
  refine .un 1 ?_
  refine .uc ⟨true,[(27,(L 6 eD n.kids)),(30,(.v (.int .i64 i)))],[],(.fp (eD (rd n.kids i)) 0),[],false,[]⟩ ⟨.same _,.same _,trivial⟩ trivial (It2.val rfl rfl (fun T hT => (VOk.g (VOk.indexL (sz:=6) (e:=eD) (xs:=n.kids) (i:=i) rfl Try.underlying25 sz27 rfl rfl hi)))) ?_
  refine .uc ⟨true,[(31,(.fp (eD (rd n.kids i)) 0))],[],(.agg [(.v (.int .i64 kd)),(S sp),(S lo),(L 3 e_api_Attr ats),(.v hs),(S tx)]),[],false,[]⟩ ⟨.same _,trivial⟩ trivial (It2.val rfl rfl (fun T hT => (VOk.g (VOk.to (d':=(.agg [(.v (.int .i64 kd)),(S sp),(S lo),(L 3 e_api_Attr ats),(.v hs),(S tx)])) (.loadFpAgg rfl Try.underlying27 rfl sz27 rfl (agg_ok hrow)) (agg_row hrow hrw))))) ?_
  refine .un 1 ?_
  refine .uc ⟨true,[(33,(L 1 (eI .i64) (i :: q)))],[],(L 1 (eI .i64) q),[],false,[]⟩ ⟨.same _,trivial⟩ trivial (It2.val rfl rfl (fun T hT => (VOk.g (VOk.to (d':=(L 1 (eI .i64) q)) (VOk.sliceL (e:=(eI .i64)) (xs:=(i :: q)) (l:=1) (h:=((i :: q).length:Int)) rfl Try.underlying28 sz3 rfl rfl rfl (len_tail i q)) (sl_tail i q))))) ?_
  refine .un 1 ?_
  refine .uc ⟨true,[(32,(.agg [(.v (.int .i64 kd)),(S sp),(S lo),(L 3 e_api_Attr ats),(.v hs),(S tx)])),(34,(L 1 (eI .i64) q)),(35,(.clo g [.fp X 0]))],[(0,(.pin s ety sz rows))],(.tup [(.agg (e_HN m)),(.v (.bool b))]),[(0,.none)],false,[]⟩ ⟨.same _,.same _,.same _,trivial⟩ ⟨rfl,trivial⟩ (It2.callEat (ds:=[(.agg [(.v (.int .i64 kd)),(S sp),(S lo),(L 3 e_api_Attr ats),(.v hs),(S tx)]),(L 1 (eI .i64) q),(.clo g [.fp X 0])]) 0 rfl rfl rfl cl50 hrec rfl rfl rfl rfl rfl rfl) ?_
  refine .un 6 ?_
  exact .dn
 refine Ok.seq ?_
 refine Ok.seq ?_
 refine .rg [(1,(L 1 (eI .i64) (i :: q))),(3,(.bref 3 0)),(6,(.bref 6 0)),(8,(.bref 8 0)),(9,(.v (.bool b))),(40,(.v (.bool (!b))))] [(3,(.box .ex (e_HN n))),(6,bxH),(8,(.box .ex (e_HN m)))] ?_
 refine Ok.test (b:=(!b)) rfl (fun hb => ?_) (fun hb => ?_)
 ·obtain rfl:b=false:=by simpa using hb
  refine Ok.seq ?_
  refine Ok.region (σ':=⟨[(6,(.bref 6 0)),(7,(.v (.bool false)))],[(6,bxH)]⟩) ?_ ?_
  ·refine .cv (VOk.to (d':=(.agg z0H)) (.build [none,none,none,some 3,some 6,none] [(0,1),(1,2),(3,1),(4,1),(5,1)] rfl Try.underlying27 (fa27 Try.underlying27) zo27 rfl rfl) rfl) rfl rfl ?_
   refine .rn 2 ?_
   exact .dn
  refine Ok.ret ?_
  exact⟨.inl rfl,⟨_,(.cons (.cell (VOk.to (d':=(.agg (e_HN hzero))) (.loadBAgg rfl Try.underlying27 rfl sz27 rfl rfl rfl) rfl)) (.cons (.tmp rfl) .nil)),rfl⟩,trivial⟩
 ·obtain rfl:b=true:=by simpa using hb
  refine Ok.le (σ':=⟨[(1,(L 1 (eI .i64) (i :: q))),(3,(.bref 3 0)),(6,(.bref 6 0)),(8,(.bref 8 0))],[(3,(.box .ex (e_HN n))),(6,bxH),(8,(.box .ex (e_HN m)))]⟩) (.rf rfl rfl) ?_
  refine Ok.skip ?_
  refine Ok.seq ?_
  refine Ok.region (σ':=⟨[(1,(L 1 (eI .i64) (i :: q))),(3,(.bref 3 0)),(6,(.bref 6 0)),(8,(.bref 8 0))],[(3,(.box .ex [(.v (.int .i64 n.kd)),(S n.sp),(S n.lo),(L 3 e_api_Attr n.ats),(.sref 44),(S n.tx)])),(6,bxH),(8,(.box .ex (e_HN m))),(44,(.rows true 27 6 (n.kids.map eD)))]⟩) ?_ ?_
  ·refine .rn 2 ?_
   refine OpsOk.cons rfl (OpOk.callO 44 (rows:=n.kids.map eD) rfl rfl cl46 rfl (hclone hlen) rfl) ?_
   refine .rn 2 ?_
   exact .dn
  refine Ok.seq ?_
  refine .dU [(3,(.bref 3 0)),(6,(.bref 6 0))] [(3,(.box .ex [(.v (.int .i64 n.kd)),(S n.sp),(S n.lo),(L 3 e_api_Attr n.ats),(.sref 44),(S n.tx)])),(6,bxH),(44,(.rows true 27 6 ((n.kids.set (Int.toNat i) (e_HN m)).map eD)))] [[],[0],[],[2],[3],[],[1,4],[5,6]] mixed ?_ ?_
  ·refine .un 3 ?_
   refine .uc ⟨true,[(48,(L 1 (eI .i64) (i :: q)))],[],(.fp (eI .i64 (rd (i :: q) 0)) 0),[],false,[]⟩ ⟨.same _,trivial⟩ trivial (It2.val rfl rfl (fun T hT => (VOk.g (VOk.indexL (sz:=1) (e:=(eI .i64)) (xs:=(i :: q)) (i:=0) rfl Try.underlying28 sz3 rfl rfl (len_pos i q))))) ?_
   refine .un 2 ?_
   refine .uc ⟨true,[(47,(.sref 44)),(50,(.v (.int .i64 i)))],[(44,(.rows true 27 6 (n.kids.map eD)))],(.eref 44 (Int.toNat i) 0),[],false,[]⟩ ⟨.same _,.same _,trivial⟩ ⟨rfl,trivial⟩ (It2.val rfl rfl (fun T hT => (VOk.g (VOk.indexTL (e:=eD) (xs:=n.kids) (i:=i) rfl Try.underlying25 sz27 rfl hT.1 rfl hi)))) ?_
   refine .uc ⟨true,[(52,(.eref 44 (Int.toNat i) 0)),(51,(.agg (e_HN m)))],[(44,(.rows true 27 6 (n.kids.map eD)))],.junk,[(44,(.rows true 27 6 ((n.kids.set (Int.toNat i) (e_HN m)).map eD)))],false,[]⟩ ⟨.same _,.same _,trivial⟩ ⟨rfl,trivial⟩ (It2.storeEL (e:=eD) (xs:=n.kids) (i:=i) (y:=e_HN m) rfl rfl sz27 rfl rfl rfl hi rfl rfl rfl (spl_row hrow m) rfl rfl) ?_
   exact .dn
  refine Ok.seq ?_
  refine Ok.region (σ':=⟨[(6,(.bref 6 0)),(7,(.v (.bool true)))],[(6,(.box .ex (e_HN (HN.mk n.kd n.sp n.lo n.ats (n.kids.set (Int.toNat i) (e_HN m)) n.tx))))]⟩) ?_ ?_
  ·refine OpsOk.frzL 44 (e:=eD) (xs:=(n.kids.set (Int.toNat i) (e_HN m))) rfl ?_
   refine .rn 3 ?_
   exact .dn
  refine Ok.ret ?_
  exact⟨.inl rfl,⟨_,(.cons (.cell (VOk.to (d':=(.agg (e_HN (HN.mk n.kd n.sp n.lo n.ats (n.kids.set (Int.toNat i) (e_HN m)) n.tx)))) (.loadBAgg rfl Try.underlying27 rfl sz27 rfl rfl rfl) rfl)) (.cons (.tmp rfl) .nil)),rfl⟩,trivial⟩
theorem hchange1A {g:Nat} {X:List D} {s:Value} {ety sz:Nat} {rows:List (List D)} {n m:HN} {i:Int} {q:List Int} {b:Bool} {kd:Int} {sp lo tx:Str} {kids:List T_api_Node} {hs:Value} (hi:(0:Int) ≤ i ∧ i < (n.kids.length:Int)) (hrw:rd n.kids i=[(.v (.int .i64 kd)),(S sp),(S lo),(.v hs),(L 6 e_api_Node kids),(S tx)]) (hlen:(([]:List (List D)).length + n.kids.length) * 104 ≤ 140737488355328)
  (hrec:Vx.Fn Try.prog 50 [.agg [(.v (.int .i64 kd)),(S sp),(S lo),(.v hs),(L 6 e_api_Node kids),(S tx)],L 1 (eI .i64) q,.clo g [.fp X 0]] [(0,.pin s ety sz rows)] (.tup [.agg (e_HN m),.v (.bool b)]) []) :
  Vx.Fn Try.prog 50 [.agg (e_HN n),L 1 (eI .i64) (i :: q),.clo g [.fp X 0]] [(0,.pin s ety sz rows)] (.tup [.agg (e_HN (bif b then⟨n.kd,n.sp,n.lo,n.ats,n.kids.set i.toNat (e_HN m),n.tx⟩ else hzero)),.v (.bool b)]) []:=by
 have hin:¬ ((!((decide (i ≥ 0)) && (decide (i < (n.kids.length:Int)))))=true):=by simp; omega
 have hrow:(rd n.kids i).length=6:=by rw [hrw]; rfl
 refine Vx.Fn.of_okR Try.func50 rfl (Nat.le_of_ble_eq_true rfl) ?_
 refine Ok.seq ?_
 refine .rg [(1,(L 1 (eI .i64) (i :: q))),(2,(.clo g [.fp X 0])),(3,(.bref 3 0)),(6,(.bref 6 0))] [(0,(.pin s ety sz rows)),(3,(.box .ex (e_HN n))),(6,bxH)] ?_
 refine Ok.seq ?_
 refine Ok.seq ?_
 refine Ok.region (σ':=⟨[(1,(L 1 (eI .i64) (i :: q))),(2,(.clo g [.fp X 0])),(3,(.bref 3 0)),(6,(.bref 6 0)),(12,(.v (.bool (((i :: q).length:Int) == 0))))],[(0,(.pin s ety sz rows)),(3,(.box .ex (e_HN n))),(6,bxH)]⟩) ?_ ?_
 ·refine .rn 1 ?_
  refine .cv (VOk.lenL (e:=(eI .i64)) (xs:=(i :: q)) rfl Try.underlying28 rfl) rfl rfl ?_
  refine .rn 1 ?_
  exact .dn
 refine Ok.test (b:=(((i :: q).length:Int) == 0)) rfl (fun hb => ?_) (fun _ => ?_)
 ·exact absurd hb (len_ne i q)
 refine Ok.le (σ':=⟨[(1,(L 1 (eI .i64) (i :: q))),(2,(.clo g [.fp X 0])),(3,(.bref 3 0)),(6,(.bref 6 0))],[(0,(.pin s ety sz rows)),(3,(.box .ex (e_HN n))),(6,bxH)]⟩) (.rf rfl rfl) ?_
 refine Ok.skip ?_
 refine Ok.seq ?_
 refine Ok.seq ?_
 refine .dA [(1,(L 1 (eI .i64) (i :: q))),(2,(.clo g [.fp X 0])),(3,(.bref 3 0)),(6,(.bref 6 0)),(23,(.v (.bool (!((decide (i ≥ 0)) && (decide (i < (n.kids.length:Int))))))))] [(0,(.pin s ety sz rows)),(3,(.box .ex (e_HN n))),(6,bxH)] [[],[],[1],[2],[0,3],[4]] mixed ?_ ?_
 ·refine .tn 2 ?_
  refine .tc (VOk.g (VOk.indexL (sz:=1) (e:=(eI .i64)) (xs:=(i :: q)) (i:=0) rfl Try.underlying28 sz3 rfl rfl (len_pos i q))) ?_
  refine .tn 1 ?_
  refine .tc (GOk.call rfl rfl cl27 rfl (hkid n i) rfl) ?_
  refine .tn 1 ?_
  exact .dn
 refine Ok.test (b:=(!((decide (i ≥ 0)) && (decide (i < (n.kids.length:Int)))))) rfl (fun hb => ?_) (fun hb => ?_)
 ·exact absurd hb hin
 refine Ok.le (σ':=⟨[(1,(L 1 (eI .i64) (i :: q))),(2,(.clo g [.fp X 0])),(3,(.bref 3 0)),(6,(.bref 6 0))],[(0,(.pin s ety sz rows)),(3,(.box .ex (e_HN n))),(6,bxH)]⟩) (.rf rfl rfl) ?_
 refine Ok.skip ?_
 refine Ok.seq ?_
 refine .dU [(1,(L 1 (eI .i64) (i :: q))),(3,(.bref 3 0)),(6,(.bref 6 0)),(8,(.bref 8 0)),(9,(.v (.bool b)))] [(3,(.box .ex (e_HN n))),(6,bxH),(8,(.box .ex (e_HN m)))] [[],[0],[],[2],[3],[1,4],[5],[],[7],[],[6,8,9],[10],[11],[11],[],[12,14],[13]] mixed ?_ ?_
 ·refine .un 3 ?_
  refine .uc ⟨true,[(28,(L 1 (eI .i64) (i :: q)))],[],(.fp (eI .i64 (rd (i :: q) 0)) 0),[],false,[]⟩ ⟨.same _,trivial⟩ trivial (It2.val rfl rfl (fun T hT => (VOk.g (VOk.indexL (sz:=1) (e:=(eI .i64)) (xs:=(i :: q)) (i:=0) rfl Try.underlying28 sz3 rfl rfl (len_pos i q))))) ?_
  refine .un 1 ?_
  refine .uc ⟨true,[(27,(L 6 eD n.kids)),(30,(.v (.int .i64 i)))],[],(.fp (eD (rd n.kids i)) 0),[],false,[]⟩ ⟨.same _,.same _,trivial⟩ trivial (It2.val rfl rfl (fun T hT => (VOk.g (VOk.indexL (sz:=6) (e:=eD) (xs:=n.kids) (i:=i) rfl Try.underlying25 sz27 rfl rfl hi)))) ?_
  refine .uc ⟨true,[(31,(.fp (eD (rd n.kids i)) 0))],[],(.agg [(.v (.int .i64 kd)),(S sp),(S lo),(.v hs),(L 6 e_api_Node kids),(S tx)]),[],false,[]⟩ ⟨.same _,trivial⟩ trivial (It2.val rfl rfl (fun T hT => (VOk.g (VOk.to (d':=(.agg [(.v (.int .i64 kd)),(S sp),(S lo),(.v hs),(L 6 e_api_Node kids),(S tx)])) (.loadFpAgg rfl Try.underlying27 rfl sz27 rfl (agg_ok hrow)) (agg_row hrow hrw))))) ?_
  refine .un 1 ?_
  refine .uc ⟨true,[(33,(L 1 (eI .i64) (i :: q)))],[],(L 1 (eI .i64) q),[],false,[]⟩ ⟨.same _,trivial⟩ trivial (It2.val rfl rfl (fun T hT => (VOk.g (VOk.to (d':=(L 1 (eI .i64) q)) (VOk.sliceL (e:=(eI .i64)) (xs:=(i :: q)) (l:=1) (h:=((i :: q).length:Int)) rfl Try.underlying28 sz3 rfl rfl rfl (len_tail i q)) (sl_tail i q))))) ?_
  refine .un 1 ?_
  refine .uc ⟨true,[(32,(.agg [(.v (.int .i64 kd)),(S sp),(S lo),(.v hs),(L 6 e_api_Node kids),(S tx)])),(34,(L 1 (eI .i64) q)),(35,(.clo g [.fp X 0]))],[(0,(.pin s ety sz rows))],(.tup [(.agg (e_HN m)),(.v (.bool b))]),[(0,.none)],false,[]⟩ ⟨.same _,.same _,.same _,trivial⟩ ⟨rfl,trivial⟩ (It2.callEat (ds:=[(.agg [(.v (.int .i64 kd)),(S sp),(S lo),(.v hs),(L 6 e_api_Node kids),(S tx)]),(L 1 (eI .i64) q),(.clo g [.fp X 0])]) 0 rfl rfl rfl cl50 hrec rfl rfl rfl rfl rfl rfl) ?_
  refine .un 6 ?_
  exact .dn
 refine Ok.seq ?_
 refine Ok.seq ?_
 refine .rg [(1,(L 1 (eI .i64) (i :: q))),(3,(.bref 3 0)),(6,(.bref 6 0)),(8,(.bref 8 0)),(9,(.v (.bool b))),(40,(.v (.bool (!b))))] [(3,(.box .ex (e_HN n))),(6,bxH),(8,(.box .ex (e_HN m)))] ?_
 refine Ok.test (b:=(!b)) rfl (fun hb => ?_) (fun hb => ?_)
 ·obtain rfl:b=false:=by simpa using hb
  refine Ok.seq ?_
  refine Ok.region (σ':=⟨[(6,(.bref 6 0)),(7,(.v (.bool false)))],[(6,bxH)]⟩) ?_ ?_
  ·refine .cv (VOk.to (d':=(.agg z0H)) (.build [none,none,none,some 3,some 6,none] [(0,1),(1,2),(3,1),(4,1),(5,1)] rfl Try.underlying27 (fa27 Try.underlying27) zo27 rfl rfl) rfl) rfl rfl ?_
   refine .rn 2 ?_
   exact .dn
  refine Ok.ret ?_
  exact⟨.inl rfl,⟨_,(.cons (.cell (VOk.to (d':=(.agg (e_HN hzero))) (.loadBAgg rfl Try.underlying27 rfl sz27 rfl rfl rfl) rfl)) (.cons (.tmp rfl) .nil)),rfl⟩,trivial⟩
 ·obtain rfl:b=true:=by simpa using hb
  refine Ok.le (σ':=⟨[(1,(L 1 (eI .i64) (i :: q))),(3,(.bref 3 0)),(6,(.bref 6 0)),(8,(.bref 8 0))],[(3,(.box .ex (e_HN n))),(6,bxH),(8,(.box .ex (e_HN m)))]⟩) (.rf rfl rfl) ?_
  refine Ok.skip ?_
  refine Ok.seq ?_
  refine Ok.region (σ':=⟨[(1,(L 1 (eI .i64) (i :: q))),(3,(.bref 3 0)),(6,(.bref 6 0)),(8,(.bref 8 0))],[(3,(.box .ex [(.v (.int .i64 n.kd)),(S n.sp),(S n.lo),(L 3 e_api_Attr n.ats),(.sref 44),(S n.tx)])),(6,bxH),(8,(.box .ex (e_HN m))),(44,(.rows true 27 6 (n.kids.map eD)))]⟩) ?_ ?_
  ·refine .rn 2 ?_
   refine OpsOk.cons rfl (OpOk.callO 44 (rows:=n.kids.map eD) rfl rfl cl46 rfl (hclone hlen) rfl) ?_
   refine .rn 2 ?_
   exact .dn
  refine Ok.seq ?_
  refine .dU [(3,(.bref 3 0)),(6,(.bref 6 0))] [(3,(.box .ex [(.v (.int .i64 n.kd)),(S n.sp),(S n.lo),(L 3 e_api_Attr n.ats),(.sref 44),(S n.tx)])),(6,bxH),(44,(.rows true 27 6 ((n.kids.set (Int.toNat i) (e_HN m)).map eD)))] [[],[0],[],[2],[3],[],[1,4],[5,6]] mixed ?_ ?_
  ·refine .un 3 ?_
   refine .uc ⟨true,[(48,(L 1 (eI .i64) (i :: q)))],[],(.fp (eI .i64 (rd (i :: q) 0)) 0),[],false,[]⟩ ⟨.same _,trivial⟩ trivial (It2.val rfl rfl (fun T hT => (VOk.g (VOk.indexL (sz:=1) (e:=(eI .i64)) (xs:=(i :: q)) (i:=0) rfl Try.underlying28 sz3 rfl rfl (len_pos i q))))) ?_
   refine .un 2 ?_
   refine .uc ⟨true,[(47,(.sref 44)),(50,(.v (.int .i64 i)))],[(44,(.rows true 27 6 (n.kids.map eD)))],(.eref 44 (Int.toNat i) 0),[],false,[]⟩ ⟨.same _,.same _,trivial⟩ ⟨rfl,trivial⟩ (It2.val rfl rfl (fun T hT => (VOk.g (VOk.indexTL (e:=eD) (xs:=n.kids) (i:=i) rfl Try.underlying25 sz27 rfl hT.1 rfl hi)))) ?_
   refine .uc ⟨true,[(52,(.eref 44 (Int.toNat i) 0)),(51,(.agg (e_HN m)))],[(44,(.rows true 27 6 (n.kids.map eD)))],.junk,[(44,(.rows true 27 6 ((n.kids.set (Int.toNat i) (e_HN m)).map eD)))],false,[]⟩ ⟨.same _,.same _,trivial⟩ ⟨rfl,trivial⟩ (It2.storeEL (e:=eD) (xs:=n.kids) (i:=i) (y:=e_HN m) rfl rfl sz27 rfl rfl rfl hi rfl rfl rfl (spl_row hrow m) rfl rfl) ?_
   exact .dn
  refine Ok.seq ?_
  refine Ok.region (σ':=⟨[(6,(.bref 6 0)),(7,(.v (.bool true)))],[(6,(.box .ex (e_HN (HN.mk n.kd n.sp n.lo n.ats (n.kids.set (Int.toNat i) (e_HN m)) n.tx))))]⟩) ?_ ?_
  ·refine OpsOk.frzL 44 (e:=eD) (xs:=(n.kids.set (Int.toNat i) (e_HN m))) rfl ?_
   refine .rn 3 ?_
   exact .dn
  refine Ok.ret ?_
  exact⟨.inl rfl,⟨_,(.cons (.cell (VOk.to (d':=(.agg (e_HN (HN.mk n.kd n.sp n.lo n.ats (n.kids.set (Int.toNat i) (e_HN m)) n.tx)))) (.loadBAgg rfl Try.underlying27 rfl sz27 rfl rfl rfl) rfl)) (.cons (.tmp rfl) .nil)),rfl⟩,trivial⟩
theorem hchange1N {g:Nat} {X:List D} {s:Value} {ety sz:Nat} {rows:List (List D)} {n m:HN} {i:Int} {q:List Int} {b:Bool} {n':HN} (hi:(0:Int) ≤ i ∧ i < (n.kids.length:Int)) (hrw:rd n.kids i=(e_HN n')) (hlen:(([]:List (List D)).length + n.kids.length) * 104 ≤ 140737488355328)
  (hrec:Vx.Fn Try.prog 50 [.agg (e_HN n'),L 1 (eI .i64) q,.clo g [.fp X 0]] [(0,.pin s ety sz rows)] (.tup [.agg (e_HN m),.v (.bool b)]) []) :
  Vx.Fn Try.prog 50 [.agg (e_HN n),L 1 (eI .i64) (i :: q),.clo g [.fp X 0]] [(0,.pin s ety sz rows)] (.tup [.agg (e_HN (bif b then⟨n.kd,n.sp,n.lo,n.ats,n.kids.set i.toNat (e_HN m),n.tx⟩ else hzero)),.v (.bool b)]) []:=by
 have hin:¬ ((!((decide (i ≥ 0)) && (decide (i < (n.kids.length:Int)))))=true):=by simp; omega
 have hrow:(rd n.kids i).length=6:=by rw [hrw]; rfl
 refine Vx.Fn.of_okR Try.func50 rfl (Nat.le_of_ble_eq_true rfl) ?_
 refine Ok.seq ?_
 refine .rg [(1,(L 1 (eI .i64) (i :: q))),(2,(.clo g [.fp X 0])),(3,(.bref 3 0)),(6,(.bref 6 0))] [(0,(.pin s ety sz rows)),(3,(.box .ex (e_HN n))),(6,bxH)] ?_
 refine Ok.seq ?_
 refine Ok.seq ?_
 refine Ok.region (σ':=⟨[(1,(L 1 (eI .i64) (i :: q))),(2,(.clo g [.fp X 0])),(3,(.bref 3 0)),(6,(.bref 6 0)),(12,(.v (.bool (((i :: q).length:Int) == 0))))],[(0,(.pin s ety sz rows)),(3,(.box .ex (e_HN n))),(6,bxH)]⟩) ?_ ?_
 ·refine .rn 1 ?_
  refine .cv (VOk.lenL (e:=(eI .i64)) (xs:=(i :: q)) rfl Try.underlying28 rfl) rfl rfl ?_
  refine .rn 1 ?_
  exact .dn
 refine Ok.test (b:=(((i :: q).length:Int) == 0)) rfl (fun hb => ?_) (fun _ => ?_)
 ·exact absurd hb (len_ne i q)
 refine Ok.le (σ':=⟨[(1,(L 1 (eI .i64) (i :: q))),(2,(.clo g [.fp X 0])),(3,(.bref 3 0)),(6,(.bref 6 0))],[(0,(.pin s ety sz rows)),(3,(.box .ex (e_HN n))),(6,bxH)]⟩) (.rf rfl rfl) ?_
 refine Ok.skip ?_
 refine Ok.seq ?_
 refine Ok.seq ?_
 refine .dA [(1,(L 1 (eI .i64) (i :: q))),(2,(.clo g [.fp X 0])),(3,(.bref 3 0)),(6,(.bref 6 0)),(23,(.v (.bool (!((decide (i ≥ 0)) && (decide (i < (n.kids.length:Int))))))))] [(0,(.pin s ety sz rows)),(3,(.box .ex (e_HN n))),(6,bxH)] [[],[],[1],[2],[0,3],[4]] mixed ?_ ?_
 ·refine .tn 2 ?_
  refine .tc (VOk.g (VOk.indexL (sz:=1) (e:=(eI .i64)) (xs:=(i :: q)) (i:=0) rfl Try.underlying28 sz3 rfl rfl (len_pos i q))) ?_
  refine .tn 1 ?_
  refine .tc (GOk.call rfl rfl cl27 rfl (hkid n i) rfl) ?_
  refine .tn 1 ?_
  exact .dn
 refine Ok.test (b:=(!((decide (i ≥ 0)) && (decide (i < (n.kids.length:Int)))))) rfl (fun hb => ?_) (fun hb => ?_)
 ·exact absurd hb hin
 refine Ok.le (σ':=⟨[(1,(L 1 (eI .i64) (i :: q))),(2,(.clo g [.fp X 0])),(3,(.bref 3 0)),(6,(.bref 6 0))],[(0,(.pin s ety sz rows)),(3,(.box .ex (e_HN n))),(6,bxH)]⟩) (.rf rfl rfl) ?_
 refine Ok.skip ?_
 refine Ok.seq ?_
 refine .dU [(1,(L 1 (eI .i64) (i :: q))),(3,(.bref 3 0)),(6,(.bref 6 0)),(8,(.bref 8 0)),(9,(.v (.bool b)))] [(3,(.box .ex (e_HN n))),(6,bxH),(8,(.box .ex (e_HN m)))] [[],[0],[],[2],[3],[1,4],[5],[],[7],[],[6,8,9],[10],[11],[11],[],[12,14],[13]] mixed ?_ ?_
 ·refine .un 3 ?_
  refine .uc ⟨true,[(28,(L 1 (eI .i64) (i :: q)))],[],(.fp (eI .i64 (rd (i :: q) 0)) 0),[],false,[]⟩ ⟨.same _,trivial⟩ trivial (It2.val rfl rfl (fun T hT => (VOk.g (VOk.indexL (sz:=1) (e:=(eI .i64)) (xs:=(i :: q)) (i:=0) rfl Try.underlying28 sz3 rfl rfl (len_pos i q))))) ?_
  refine .un 1 ?_
  refine .uc ⟨true,[(27,(L 6 eD n.kids)),(30,(.v (.int .i64 i)))],[],(.fp (eD (rd n.kids i)) 0),[],false,[]⟩ ⟨.same _,.same _,trivial⟩ trivial (It2.val rfl rfl (fun T hT => (VOk.g (VOk.indexL (sz:=6) (e:=eD) (xs:=n.kids) (i:=i) rfl Try.underlying25 sz27 rfl rfl hi)))) ?_
  refine .uc ⟨true,[(31,(.fp (eD (rd n.kids i)) 0))],[],(.agg (e_HN n')),[],false,[]⟩ ⟨.same _,trivial⟩ trivial (It2.val rfl rfl (fun T hT => (VOk.g (VOk.to (d':=(.agg (e_HN n'))) (.loadFpAgg rfl Try.underlying27 rfl sz27 rfl (agg_ok hrow)) (agg_row hrow hrw))))) ?_
  refine .un 1 ?_
  refine .uc ⟨true,[(33,(L 1 (eI .i64) (i :: q)))],[],(L 1 (eI .i64) q),[],false,[]⟩ ⟨.same _,trivial⟩ trivial (It2.val rfl rfl (fun T hT => (VOk.g (VOk.to (d':=(L 1 (eI .i64) q)) (VOk.sliceL (e:=(eI .i64)) (xs:=(i :: q)) (l:=1) (h:=((i :: q).length:Int)) rfl Try.underlying28 sz3 rfl rfl rfl (len_tail i q)) (sl_tail i q))))) ?_
  refine .un 1 ?_
  refine .uc ⟨true,[(32,(.agg (e_HN n'))),(34,(L 1 (eI .i64) q)),(35,(.clo g [.fp X 0]))],[(0,(.pin s ety sz rows))],(.tup [(.agg (e_HN m)),(.v (.bool b))]),[(0,.none)],false,[]⟩ ⟨.same _,.same _,.same _,trivial⟩ ⟨rfl,trivial⟩ (It2.callEat (ds:=[(.agg (e_HN n')),(L 1 (eI .i64) q),(.clo g [.fp X 0])]) 0 rfl rfl rfl cl50 hrec rfl rfl rfl rfl rfl rfl) ?_
  refine .un 6 ?_
  exact .dn
 refine Ok.seq ?_
 refine Ok.seq ?_
 refine .rg [(1,(L 1 (eI .i64) (i :: q))),(3,(.bref 3 0)),(6,(.bref 6 0)),(8,(.bref 8 0)),(9,(.v (.bool b))),(40,(.v (.bool (!b))))] [(3,(.box .ex (e_HN n))),(6,bxH),(8,(.box .ex (e_HN m)))] ?_
 refine Ok.test (b:=(!b)) rfl (fun hb => ?_) (fun hb => ?_)
 ·obtain rfl:b=false:=by simpa using hb
  refine Ok.seq ?_
  refine Ok.region (σ':=⟨[(6,(.bref 6 0)),(7,(.v (.bool false)))],[(6,bxH)]⟩) ?_ ?_
  ·refine .cv (VOk.to (d':=(.agg z0H)) (.build [none,none,none,some 3,some 6,none] [(0,1),(1,2),(3,1),(4,1),(5,1)] rfl Try.underlying27 (fa27 Try.underlying27) zo27 rfl rfl) rfl) rfl rfl ?_
   refine .rn 2 ?_
   exact .dn
  refine Ok.ret ?_
  exact⟨.inl rfl,⟨_,(.cons (.cell (VOk.to (d':=(.agg (e_HN hzero))) (.loadBAgg rfl Try.underlying27 rfl sz27 rfl rfl rfl) rfl)) (.cons (.tmp rfl) .nil)),rfl⟩,trivial⟩
 ·obtain rfl:b=true:=by simpa using hb
  refine Ok.le (σ':=⟨[(1,(L 1 (eI .i64) (i :: q))),(3,(.bref 3 0)),(6,(.bref 6 0)),(8,(.bref 8 0))],[(3,(.box .ex (e_HN n))),(6,bxH),(8,(.box .ex (e_HN m)))]⟩) (.rf rfl rfl) ?_
  refine Ok.skip ?_
  refine Ok.seq ?_
  refine Ok.region (σ':=⟨[(1,(L 1 (eI .i64) (i :: q))),(3,(.bref 3 0)),(6,(.bref 6 0)),(8,(.bref 8 0))],[(3,(.box .ex [(.v (.int .i64 n.kd)),(S n.sp),(S n.lo),(L 3 e_api_Attr n.ats),(.sref 44),(S n.tx)])),(6,bxH),(8,(.box .ex (e_HN m))),(44,(.rows true 27 6 (n.kids.map eD)))]⟩) ?_ ?_
  ·refine .rn 2 ?_
   refine OpsOk.cons rfl (OpOk.callO 44 (rows:=n.kids.map eD) rfl rfl cl46 rfl (hclone hlen) rfl) ?_
   refine .rn 2 ?_
   exact .dn
  refine Ok.seq ?_
  refine .dU [(3,(.bref 3 0)),(6,(.bref 6 0))] [(3,(.box .ex [(.v (.int .i64 n.kd)),(S n.sp),(S n.lo),(L 3 e_api_Attr n.ats),(.sref 44),(S n.tx)])),(6,bxH),(44,(.rows true 27 6 ((n.kids.set (Int.toNat i) (e_HN m)).map eD)))] [[],[0],[],[2],[3],[],[1,4],[5,6]] mixed ?_ ?_
  ·refine .un 3 ?_
   refine .uc ⟨true,[(48,(L 1 (eI .i64) (i :: q)))],[],(.fp (eI .i64 (rd (i :: q) 0)) 0),[],false,[]⟩ ⟨.same _,trivial⟩ trivial (It2.val rfl rfl (fun T hT => (VOk.g (VOk.indexL (sz:=1) (e:=(eI .i64)) (xs:=(i :: q)) (i:=0) rfl Try.underlying28 sz3 rfl rfl (len_pos i q))))) ?_
   refine .un 2 ?_
   refine .uc ⟨true,[(47,(.sref 44)),(50,(.v (.int .i64 i)))],[(44,(.rows true 27 6 (n.kids.map eD)))],(.eref 44 (Int.toNat i) 0),[],false,[]⟩ ⟨.same _,.same _,trivial⟩ ⟨rfl,trivial⟩ (It2.val rfl rfl (fun T hT => (VOk.g (VOk.indexTL (e:=eD) (xs:=n.kids) (i:=i) rfl Try.underlying25 sz27 rfl hT.1 rfl hi)))) ?_
   refine .uc ⟨true,[(52,(.eref 44 (Int.toNat i) 0)),(51,(.agg (e_HN m)))],[(44,(.rows true 27 6 (n.kids.map eD)))],.junk,[(44,(.rows true 27 6 ((n.kids.set (Int.toNat i) (e_HN m)).map eD)))],false,[]⟩ ⟨.same _,.same _,trivial⟩ ⟨rfl,trivial⟩ (It2.storeEL (e:=eD) (xs:=n.kids) (i:=i) (y:=e_HN m) rfl rfl sz27 rfl rfl rfl hi rfl rfl rfl (spl_row hrow m) rfl rfl) ?_
   exact .dn
  refine Ok.seq ?_
  refine Ok.region (σ':=⟨[(6,(.bref 6 0)),(7,(.v (.bool true)))],[(6,(.box .ex (e_HN (HN.mk n.kd n.sp n.lo n.ats (n.kids.set (Int.toNat i) (e_HN m)) n.tx))))]⟩) ?_ ?_
  ·refine OpsOk.frzL 44 (e:=eD) (xs:=(n.kids.set (Int.toNat i) (e_HN m))) rfl ?_
   refine .rn 3 ?_
   exact .dn
  refine Ok.ret ?_
  exact⟨.inl rfl,⟨_,(.cons (.cell (VOk.to (d':=(.agg (e_HN (HN.mk n.kd n.sp n.lo n.ats (n.kids.set (Int.toNat i) (e_HN m)) n.tx)))) (.loadBAgg rfl Try.underlying27 rfl sz27 rfl rfl rfl) rfl)) (.cons (.tmp rfl) .nil)),rfl⟩,trivial⟩
theorem hchange2 {g:Nat} {X:List D} {n:HN} {i:Int} {q:List Int} (hi:¬ ((0:Int) ≤ i ∧ i < (n.kids.length:Int))) :
  Vx.Fn Try.prog 50 [.agg (e_HN n),L 1 (eI .i64) (i :: q),.clo g [.fp X 0]] [] (.tup [.agg (e_HN hzero),.v (.bool false)]) []:=by
 have hout:¬ ((!((decide (i ≥ 0)) && (decide (i < (n.kids.length:Int)))))=false):=by simp; omega
 refine Vx.Fn.of_okR Try.func50 rfl (Nat.le_of_ble_eq_true rfl) ?_
 refine Ok.seq ?_
 refine .rg [(1,(L 1 (eI .i64) (i :: q))),(2,(.clo g [.fp X 0])),(3,(.bref 3 0)),(6,(.bref 6 0))] [(3,(.box .ex (e_HN n))),(6,bxH)] ?_
 refine Ok.seq ?_
 refine Ok.seq ?_
 refine Ok.region (σ':=⟨[(1,(L 1 (eI .i64) (i :: q))),(2,(.clo g [.fp X 0])),(3,(.bref 3 0)),(6,(.bref 6 0)),(12,(.v (.bool (((i :: q).length:Int) == 0))))],[(3,(.box .ex (e_HN n))),(6,bxH)]⟩) ?_ ?_
 ·refine .rn 1 ?_
  refine .cv (VOk.lenL (e:=(eI .i64)) (xs:=(i :: q)) rfl Try.underlying28 rfl) rfl rfl ?_
  refine .rn 1 ?_
  exact .dn
 refine Ok.test (b:=(((i :: q).length:Int) == 0)) rfl (fun hb => ?_) (fun _ => ?_)
 ·exact absurd hb (len_ne i q)
 refine Ok.le (σ':=⟨[(1,(L 1 (eI .i64) (i :: q))),(2,(.clo g [.fp X 0])),(3,(.bref 3 0)),(6,(.bref 6 0))],[(3,(.box .ex (e_HN n))),(6,bxH)]⟩) (.rf rfl rfl) ?_
 refine Ok.skip ?_
 refine Ok.seq ?_
 refine Ok.seq ?_
 refine .dA [(1,(L 1 (eI .i64) (i :: q))),(2,(.clo g [.fp X 0])),(3,(.bref 3 0)),(6,(.bref 6 0)),(23,(.v (.bool (!((decide (i ≥ 0)) && (decide (i < (n.kids.length:Int))))))))] [(3,(.box .ex (e_HN n))),(6,bxH)] [[],[],[1],[2],[0,3],[4]] mixed ?_ ?_
 ·refine .tn 2 ?_
  refine .tc (VOk.g (VOk.indexL (sz:=1) (e:=(eI .i64)) (xs:=(i :: q)) (i:=0) rfl Try.underlying28 sz3 rfl rfl (len_pos i q))) ?_
  refine .tn 1 ?_
  refine .tc (GOk.call rfl rfl cl27 rfl (hkid n i) rfl) ?_
  refine .tn 1 ?_
  exact .dn
 refine Ok.test (b:=(!((decide (i ≥ 0)) && (decide (i < (n.kids.length:Int)))))) rfl (fun hb => ?_) (fun hb => ?_)
 ·refine Ok.seq ?_
  refine Ok.region (σ':=⟨[(6,(.bref 6 0)),(7,(.v (.bool false)))],[(6,bxH)]⟩) ?_ ?_
  ·refine .cv (VOk.to (d':=(.agg z0H)) (.build [none,none,none,some 3,some 6,none] [(0,1),(1,2),(3,1),(4,1),(5,1)] rfl Try.underlying27 (fa27 Try.underlying27) zo27 rfl rfl) rfl) rfl rfl ?_
   refine .rn 2 ?_
   exact .dn
  refine Ok.ret ?_
  exact⟨.inl rfl,⟨_,(.cons (.cell (VOk.to (d':=(.agg (e_HN hzero))) (.loadBAgg rfl Try.underlying27 rfl sz27 rfl rfl rfl) rfl)) (.cons (.tmp rfl) .nil)),rfl⟩,trivial⟩
 ·exact absurd hb hout
theorem hchange3 {g:Nat} {X:List D} {n m n':HN} {i:Int} {q:List Int} (hi:(0:Int) ≤ i ∧ i < (n.kids.length:Int)) (hrw:rd n.kids i=(e_HN n'))
  (hrec:Vx.Fn Try.prog 50 [.agg (e_HN n'),L 1 (eI .i64) q,.clo g [.fp X 0]] [] (.tup [.agg (e_HN m),.v (.bool false)]) []) :
  Vx.Fn Try.prog 50 [.agg (e_HN n),L 1 (eI .i64) (i :: q),.clo g [.fp X 0]] [] (.tup [.agg (e_HN hzero),.v (.bool false)]) []:=by
 have hin:¬ ((!((decide (i ≥ 0)) && (decide (i < (n.kids.length:Int)))))=true):=by simp; omega
 have hbf:¬ ((!false)=false):=by decide
 have hrow:(rd n.kids i).length=6:=by rw [hrw]; rfl
 refine Vx.Fn.of_okR Try.func50 rfl (Nat.le_of_ble_eq_true rfl) ?_
 refine Ok.seq ?_
 refine .rg [(1,(L 1 (eI .i64) (i :: q))),(2,(.clo g [.fp X 0])),(3,(.bref 3 0)),(6,(.bref 6 0))] [(3,(.box .ex (e_HN n))),(6,bxH)] ?_
 refine Ok.seq ?_
 refine Ok.seq ?_
 refine Ok.region (σ':=⟨[(1,(L 1 (eI .i64) (i :: q))),(2,(.clo g [.fp X 0])),(3,(.bref 3 0)),(6,(.bref 6 0)),(12,(.v (.bool (((i :: q).length:Int) == 0))))],[(3,(.box .ex (e_HN n))),(6,bxH)]⟩) ?_ ?_
 ·refine .rn 1 ?_
  refine .cv (VOk.lenL (e:=(eI .i64)) (xs:=(i :: q)) rfl Try.underlying28 rfl) rfl rfl ?_
  refine .rn 1 ?_
  exact .dn
 refine Ok.test (b:=(((i :: q).length:Int) == 0)) rfl (fun hb => ?_) (fun _ => ?_)
 ·exact absurd hb (len_ne i q)
 refine Ok.le (σ':=⟨[(1,(L 1 (eI .i64) (i :: q))),(2,(.clo g [.fp X 0])),(3,(.bref 3 0)),(6,(.bref 6 0))],[(3,(.box .ex (e_HN n))),(6,bxH)]⟩) (.rf rfl rfl) ?_
 refine Ok.skip ?_
 refine Ok.seq ?_
 refine Ok.seq ?_
 refine .dA [(1,(L 1 (eI .i64) (i :: q))),(2,(.clo g [.fp X 0])),(3,(.bref 3 0)),(6,(.bref 6 0)),(23,(.v (.bool (!((decide (i ≥ 0)) && (decide (i < (n.kids.length:Int))))))))] [(3,(.box .ex (e_HN n))),(6,bxH)] [[],[],[1],[2],[0,3],[4]] mixed ?_ ?_
 ·refine .tn 2 ?_
  refine .tc (VOk.g (VOk.indexL (sz:=1) (e:=(eI .i64)) (xs:=(i :: q)) (i:=0) rfl Try.underlying28 sz3 rfl rfl (len_pos i q))) ?_
  refine .tn 1 ?_
  refine .tc (GOk.call rfl rfl cl27 rfl (hkid n i) rfl) ?_
  refine .tn 1 ?_
  exact .dn
 refine Ok.test (b:=(!((decide (i ≥ 0)) && (decide (i < (n.kids.length:Int)))))) rfl (fun hb => ?_) (fun hb => ?_)
 ·exact absurd hb hin
 refine Ok.le (σ':=⟨[(1,(L 1 (eI .i64) (i :: q))),(2,(.clo g [.fp X 0])),(3,(.bref 3 0)),(6,(.bref 6 0))],[(3,(.box .ex (e_HN n))),(6,bxH)]⟩) (.rf rfl rfl) ?_
 refine Ok.skip ?_
 refine Ok.seq ?_
 refine .dU [(1,(L 1 (eI .i64) (i :: q))),(3,(.bref 3 0)),(6,(.bref 6 0)),(8,(.bref 8 0)),(9,(.v (.bool false)))] [(3,(.box .ex (e_HN n))),(6,bxH),(8,(.box .ex (e_HN m)))] [[],[0],[],[2],[3],[1,4],[5],[],[7],[],[6,8,9],[10],[11],[11],[],[12,14],[13]] mixed ?_ ?_
 ·refine .un 3 ?_
  refine .uc ⟨true,[(28,(L 1 (eI .i64) (i :: q)))],[],(.fp (eI .i64 (rd (i :: q) 0)) 0),[],false,[]⟩ ⟨.same _,trivial⟩ trivial (It2.val rfl rfl (fun T hT => (VOk.g (VOk.indexL (sz:=1) (e:=(eI .i64)) (xs:=(i :: q)) (i:=0) rfl Try.underlying28 sz3 rfl rfl (len_pos i q))))) ?_
  refine .un 1 ?_
  refine .uc ⟨true,[(27,(L 6 eD n.kids)),(30,(.v (.int .i64 i)))],[],(.fp (eD (rd n.kids i)) 0),[],false,[]⟩ ⟨.same _,.same _,trivial⟩ trivial (It2.val rfl rfl (fun T hT => (VOk.g (VOk.indexL (sz:=6) (e:=eD) (xs:=n.kids) (i:=i) rfl Try.underlying25 sz27 rfl rfl hi)))) ?_
  refine .uc ⟨true,[(31,(.fp (eD (rd n.kids i)) 0))],[],(.agg (e_HN n')),[],false,[]⟩ ⟨.same _,trivial⟩ trivial (It2.val rfl rfl (fun T hT => (VOk.g (VOk.to (d':=(.agg (e_HN n'))) (.loadFpAgg rfl Try.underlying27 rfl sz27 rfl (agg_ok hrow)) (agg_row hrow hrw))))) ?_
  refine .un 1 ?_
  refine .uc ⟨true,[(33,(L 1 (eI .i64) (i :: q)))],[],(L 1 (eI .i64) q),[],false,[]⟩ ⟨.same _,trivial⟩ trivial (It2.val rfl rfl (fun T hT => (VOk.g (VOk.to (d':=(L 1 (eI .i64) q)) (VOk.sliceL (e:=(eI .i64)) (xs:=(i :: q)) (l:=1) (h:=((i :: q).length:Int)) rfl Try.underlying28 sz3 rfl rfl rfl (len_tail i q)) (sl_tail i q))))) ?_
  refine .un 1 ?_
  refine .uc ⟨true,[(32,(.agg (e_HN n'))),(34,(L 1 (eI .i64) q)),(35,(.clo g [.fp X 0]))],[],(.tup [(.agg (e_HN m)),(.v (.bool false))]),[],false,[]⟩ ⟨.same _,.same _,.same _,trivial⟩ trivial (It2.val rfl rfl (fun T hT => GOk.call rfl rfl cl50 rfl hrec rfl)) ?_
  refine .un 6 ?_
  exact .dn
 refine Ok.seq ?_
 refine Ok.seq ?_
 refine .rg [(1,(L 1 (eI .i64) (i :: q))),(3,(.bref 3 0)),(6,(.bref 6 0)),(8,(.bref 8 0)),(9,(.v (.bool false))),(40,(.v (.bool (!false))))] [(3,(.box .ex (e_HN n))),(6,bxH),(8,(.box .ex (e_HN m)))] ?_
 refine Ok.test (b:=(!false)) rfl (fun hb => ?_) (fun hb => ?_)
 ·refine Ok.seq ?_
  refine Ok.region (σ':=⟨[(6,(.bref 6 0)),(7,(.v (.bool false)))],[(6,bxH)]⟩) ?_ ?_
  ·refine .cv (VOk.to (d':=(.agg z0H)) (.build [none,none,none,some 3,some 6,none] [(0,1),(1,2),(3,1),(4,1),(5,1)] rfl Try.underlying27 (fa27 Try.underlying27) zo27 rfl rfl) rfl) rfl rfl ?_
   refine .rn 2 ?_
   exact .dn
  refine Ok.ret ?_
  exact⟨.inl rfl,⟨_,(.cons (.cell (VOk.to (d':=(.agg (e_HN hzero))) (.loadBAgg rfl Try.underlying27 rfl sz27 rfl rfl rfl) rfl)) (.cons (.tmp rfl) .nil)),rfl⟩,trivial⟩
 ·exact absurd hb hbf
end Go.Proofs.Ytjhbedgepfkdbaa.Sh
