import Derived.Test.YtafoiodfflcpeaaProg
import Derived.Test.YtafoiodfflcpeaaShb
namespace Go.Proofs.Ytafoiodfflcpeaa.Sh
open Go Go.RowKit Go.Proofs.Vx
set_option linter.unusedVariables false
set_option maxRecDepth 100000
set_option maxHeartbeats 1000000
def watchbillref04_Equal.l0 (k:Nat) (self:T_api_Node→T_api_Node→Option Bool):Nat→Int→Str→Str→List T_api_Attr→List T_api_Node→Str→Int→Str→Str→List T_api_Attr→List T_api_Node→Str→Int→Option Bool
 | 0,_,_,_,_,_,_,_,_,_,_,_,_,_ => none
 | m33 + 1,y2_0_8,y2_1_9,y2_2_10,y2_3_11,y2_4_12,y2_5_13,y3_0_14,y3_1_15,y3_2_16,y3_3_17,y3_4_18,y3_5_19,x5_7 => (if (decide (x5_7 < (y2_4_12.length:Int)))=true then (if (0:Int) ≤ x5_7 ∧ x5_7 < (y2_4_12.length:Int) then (if (0:Int) ≤ x5_7 ∧ x5_7 < (y3_4_18.length:Int) then ((self (rd y2_4_12 x5_7) (rd y3_4_18 x5_7)).bind fun (t36:Bool) => (if (!t36)=true then some false else watchbillref04_Equal.l0 k self m33 y2_0_8 y2_1_9 y2_2_10 y2_3_11 y2_4_12 y2_5_13 y3_0_14 y3_1_15 y3_2_16 y3_3_17 y3_4_18 y3_5_19 (IntKind.i64.wrap (x5_7 + 1)))) else none) else none) else some true)
def watchbillref04_Equal:Nat→T_api_Node→T_api_Node→Option Bool
 | 0,_,_ => none
 | k + 1,a0,a1 => ((watchbillref04_Same k a0 a1).bind fun (t1:Bool) => (((if ((!t1) == false)=true then watchbillref02_Same k a0.Attrs a1.Attrs else some default)).bind fun (t4:Bool) => (if ((!t1) || (!t4))=true then some false else watchbillref04_Equal.l0 k (watchbillref04_Equal k) k a0.Kind a0.Name.Space a0.Name.Local a0.Attrs a0.Kids a0.Text a1.Kind a1.Name.Space a1.Name.Local a1.Attrs a1.Kids a1.Text 0)))
theorem watchbillref04_Equal.ok {k:Nat} {a0:T_api_Node} {a1:T_api_Node} {r:Bool} (H:watchbillref04_Equal k a0 a1=some r):Vx.Fn Try.prog 11 [(.agg (e_api_Node a0)),(.agg (e_api_Node a1))] [] (.v (.bool r)) []:=by
 induction k generalizing a0 a1 r with
 | zero => exact absurd H (by simp [watchbillref04_Equal])
 | succ k ih =>
  unfold watchbillref04_Equal at H
  refine Vx.Fn.of_okR Try.func11 rfl (Nat.le_of_ble_eq_true rfl) ?_
  refine Ok.seq ?_
  refine Ok.region (σ':=⟨[(2,(.bref 2 0)),(3,(.bref 3 0))],[(2,(bxN a0)),(3,(bxN a1))]⟩) ?_ ?_
  ·refine OpsOk.cut1 0 (.agg (c_api_Node a0)) (DLe.of_eq (congrArg D.agg (e_api_Node_c _).symm)) ?_
   refine .rn 1 ?_
   refine OpsOk.cut1 1 (.agg (c_api_Node a1)) (DLe.of_eq (congrArg D.agg (e_api_Node_c _).symm)) ?_
   refine .rn 2 ?_
   exact .dn
  refine Ok.seq ?_
  refine Ok.seq ?_
  obtain⟨t1,h2,H⟩:=bindE H
  obtain⟨t4,h5,H⟩:=bindE H
  refine Ok.region (σ':=⟨[(2,(.bref 2 0)),(3,(.bref 3 0)),(17,(.v (.bool ((!t1) || (!t4)))))],[(2,(bxN a0)),(3,(bxN a1))]⟩) ?_ ?_
  ·refine .cv (VOk.to (d':=(.agg (e_api_Node a0))) (.loadBAgg rfl Try.underlying27 rfl sz27 rfl rfl rfl) (congrArg D.agg (e_api_Node_c a0).symm)) rfl rfl ?_
   refine .cv (VOk.to (d':=(.agg (e_api_Node a1))) (.loadBAgg rfl Try.underlying27 rfl sz27 rfl rfl rfl) (congrArg D.agg (e_api_Node_c a1).symm)) rfl rfl ?_
   refine .cg (GOk.call rfl rfl cl29 rfl (watchbillref04_Same.ok h2) rfl) rfl rfl ?_
   refine .rn 2 ?_
   refine OpsOk.consI rfl rfl rfl (.one rfl) rfl (fun hw3 => (VOk.g (VOk.to (VOk.fieldB rfl Try.underlying27 rfl sz24 rfl rfl) rfl))) ?_
   refine OpsOk.consI rfl rfl rfl (.one rfl) rfl (fun hw3 => (GOk.fr (fr':=[(11,(.bref 2 3))]) ⟨DLe.of_eq (cT hw3).symm,trivial⟩ (VOk.g (VOk.loadB (d:=(L 3 e_api_Attr a0.Attrs)) rfl Try.underlying24 rfl rfl rfl rfl)))) ?_
   refine OpsOk.consI rfl rfl rfl (.one rfl) rfl (fun hw3 => (VOk.g (VOk.to (VOk.fieldB rfl Try.underlying27 rfl sz24 rfl rfl) rfl))) ?_
   refine OpsOk.consI rfl rfl rfl (.one rfl) rfl (fun hw3 => (GOk.fr (fr':=[(13,(.bref 3 3))]) ⟨DLe.of_eq (cT hw3).symm,trivial⟩ (VOk.g (VOk.loadB (d:=(L 3 e_api_Attr a1.Attrs)) rfl Try.underlying24 rfl rfl rfl rfl)))) ?_
   refine OpsOk.consI rfl rfl rfl (.one rfl) rfl (fun hw3 => (GOk.fr (fr':=[(12,(L 3 e_api_Attr a0.Attrs)),(14,(L 3 e_api_Attr a1.Attrs))]) ⟨DLe.of_eq (cT hw3).symm,DLe.of_eq (cT hw3).symm,trivial⟩ (GOk.call rfl rfl cl30 rfl (watchbillref02_Same.ok (ifT h5 hw3)) rfl))) ?_
   refine OpsOk.consI rfl rfl rfl (.one rfl) rfl (fun hw3 => (GOk.fr (fr':=[(15,(.v (.bool t4)))]) ⟨DLe.of_eq (cT hw3).symm,trivial⟩ (VOk.g (VOk.not (b:=t4) rfl rfl)))) ?_
   refine .cv (VOk.to (VOk.pickI (b:=(!t1)) (p:=true) (q:=(!t4)) rfl rfl (fun hp6 => rfl) (fun hp6 => (cT (f_beq hp6)))) (pickOr (!t1) (!t4))) rfl rfl ?_
   exact .dn
  refine Ok.test (b:=((!t1) || (!t4))) rfl (fun hb40 => ?_) (fun hb40 => ?_)
  ·replace H:=ifT H hb40
   refine Ok.seq ?_
   refine .rg [(4,(.v (.bool false)))] [] ?_
   refine Ok.ret ?_
   obtain rfl:=Option.some.inj H
   exact⟨.inl rfl,⟨_,(.cons (.tmp rfl) .nil),rfl⟩,trivial⟩
  ·replace H:=ifF H hb40
   refine Ok.skip ?_
   refine Ok.seq ?_
   refine Ok.seq ?_
   refine .rg [(2,(.bref 2 0)),(3,(.bref 3 0)),(5,(.v (.int .i64 0)))] [(2,(bxN a0)),(3,(bxN a1))] ?_
   refine Ok.block ?_
   refine Ok.loop (fun m33 σ => ∃ (y2_0_8:Int) (y2_1_9:Str) (y2_2_10:Str) (y2_3_11:List T_api_Attr) (y2_4_12:List T_api_Node) (y2_5_13:Str) (y3_0_14:Int) (y3_1_15:Str) (y3_2_16:Str) (y3_3_17:List T_api_Attr) (y3_4_18:List T_api_Node) (y3_5_19:Str) (x5_7:Int),σ=⟨[(2,(.bref 2 0)),(3,(.bref 3 0)),(5,(.v (.int .i64 x5_7)))],[(2,(.box .ex [(.v (.int .i64 y2_0_8)),(S y2_1_9),(S y2_2_10),(L 3 e_api_Attr y2_3_11),(L 6 e_api_Node y2_4_12),(S y2_5_13)])),(3,(.box .ex [(.v (.int .i64 y3_0_14)),(S y3_1_15),(S y3_2_16),(L 3 e_api_Attr y3_3_17),(L 6 e_api_Node y3_4_18),(S y3_5_19)]))]⟩ ∧ watchbillref04_Equal.l0 k (watchbillref04_Equal k) m33 y2_0_8 y2_1_9 y2_2_10 y2_3_11 y2_4_12 y2_5_13 y3_0_14 y3_1_15 y3_2_16 y3_3_17 y3_4_18 y3_5_19 x5_7=some r) k ⟨a0.Kind,a0.Name.Space,a0.Name.Local,a0.Attrs,a0.Kids,a0.Text,a1.Kind,a1.Name.Space,a1.Name.Local,a1.Attrs,a1.Kids,a1.Text,0,rfl,H⟩ ?_
   rintro m33 σ ⟨y2_0_8,y2_1_9,y2_2_10,y2_3_11,y2_4_12,y2_5_13,y3_0_14,y3_1_15,y3_2_16,y3_3_17,y3_4_18,y3_5_19,x5_7,rfl,H⟩
   cases m33 with
   | zero => exact absurd H (by simp [watchbillref04_Equal.l0])
   | succ m33 =>
    unfold watchbillref04_Equal.l0 at H
    refine Ok.seq ?_
    refine Ok.seq ?_
    refine Ok.region (σ':=⟨[(2,(.bref 2 0)),(3,(.bref 3 0)),(5,(.v (.int .i64 x5_7))),(22,(.v (.bool (decide (x5_7 < (y2_4_12.length:Int))))))],[(2,(.box .ex [(.v (.int .i64 y2_0_8)),(S y2_1_9),(S y2_2_10),(L 3 e_api_Attr y2_3_11),(L 6 e_api_Node y2_4_12),(S y2_5_13)])),(3,(.box .ex [(.v (.int .i64 y3_0_14)),(S y3_1_15),(S y3_2_16),(L 3 e_api_Attr y3_3_17),(L 6 e_api_Node y3_4_18),(S y3_5_19)]))]⟩) ?_ ?_
    ·refine .rn 3 ?_
     refine .cv (VOk.lenL (e:=e_api_Node) (xs:=y2_4_12) rfl Try.underlying25 rfl) rfl rfl ?_
     refine .rn 1 ?_
     exact .dn
    refine Ok.test (b:=(decide (x5_7 < (y2_4_12.length:Int)))) rfl (fun hb39 => ?_) (fun hb39 => ?_)
    ·replace H:=ifT H hb39
     refine Ok.skip ?_
     refine Ok.seq ?_
     refine Ok.block ?_
     refine Ok.seq ?_
     obtain⟨c34,H⟩:=assertE H
     obtain⟨c35,H⟩:=assertE H
     obtain⟨t36,h37,H⟩:=bindE H
     refine .dA [(2,(.bref 2 0)),(3,(.bref 3 0)),(5,(.v (.int .i64 x5_7))),(36,(.v (.bool (!t36))))] [(2,(.box .ex [(.v (.int .i64 y2_0_8)),(S y2_1_9),(S y2_2_10),(L 3 e_api_Attr y2_3_11),(L 6 e_api_Node y2_4_12),(S y2_5_13)])),(3,(.box .ex [(.v (.int .i64 y3_0_14)),(S y3_1_15),(S y3_2_16),(L 3 e_api_Attr y3_3_17),(L 6 e_api_Node y3_4_18),(S y3_5_19)]))] [[],[0],[],[1,2],[3],[],[5],[],[6,7],[8],[4,9],[10]] mixed ?_ ?_
     ·refine .tn 3 ?_
      refine .tc (VOk.g (VOk.indexL (sz:=6) (e:=e_api_Node) (xs:=y2_4_12) (i:=x5_7) rfl Try.underlying25 sz27 rfl rfl c34)) ?_
      refine .tn 4 ?_
      refine .tc (VOk.g (VOk.indexL (sz:=6) (e:=e_api_Node) (xs:=y3_4_18) (i:=x5_7) rfl Try.underlying25 sz27 rfl rfl c35)) ?_
      refine .tn 1 ?_
      refine .tc (GOk.call rfl rfl cl11 rfl (@ih _ _ _ h37) rfl) ?_
      refine .tn 1 ?_
      exact .dn
     refine Ok.test (b:=(!t36)) rfl (fun hb38 => ?_) (fun hb38 => ?_)
     ·replace H:=ifT H hb38
      refine Ok.seq ?_
      refine .rg [(4,(.v (.bool false)))] [] ?_
      refine Ok.ret ?_
      obtain rfl:=Option.some.inj H
      exact⟨.inl rfl,⟨_,(.cons (.tmp rfl) .nil),rfl⟩,trivial⟩
     ·replace H:=ifF H hb38
      refine Ok.skip ?_
      refine .rg [(2,(.bref 2 0)),(3,(.bref 3 0)),(5,(.v (.int .i64 (IntKind.i64.wrap (x5_7 + 1)))))] [(2,(.box .ex [(.v (.int .i64 y2_0_8)),(S y2_1_9),(S y2_2_10),(L 3 e_api_Attr y2_3_11),(L 6 e_api_Node y2_4_12),(S y2_5_13)])),(3,(.box .ex [(.v (.int .i64 y3_0_14)),(S y3_1_15),(S y3_2_16),(L 3 e_api_Attr y3_3_17),(L 6 e_api_Node y3_4_18),(S y3_5_19)]))] ?_
      exact⟨m33,Nat.lt_succ_self m33,y2_0_8,y2_1_9,y2_2_10,y2_3_11,y2_4_12,y2_5_13,y3_0_14,y3_1_15,y3_2_16,y3_3_17,y3_4_18,y3_5_19,(IntKind.i64.wrap (x5_7 + 1)),rfl,H⟩
    ·replace H:=ifF H hb39
     refine Ok.exit ?_
     refine Ok.seq ?_
     refine .rg [(4,(.v (.bool true)))] [] ?_
     refine Ok.ret ?_
     obtain rfl:=Option.some.inj H
     exact⟨.inl rfl,⟨_,(.cons (.tmp rfl) .nil),rfl⟩,trivial⟩
def path_joined.l0 (k:Nat) (a0:List T_api_Node):Nat→List T_api_Node→Int→Option (List T_api_Node)
 | 0,_,_ => none
 | m5 + 1,y3_2,x9_1 => (if (decide (x9_1 < (a0.length:Int)))=true then (if (0:Int) ≤ x9_1 ∧ x9_1 < (a0.length:Int) then (if ((((decide ((IntKind.i64.wrap ((y3_2.length:Int) - 1)) ≥ 0)) && (((rd a0 x9_1).Kind) == 2)) == true)=true→(0:Int) ≤ (IntKind.i64.wrap ((y3_2.length:Int) - 1)) ∧ (IntKind.i64.wrap ((y3_2.length:Int) - 1)) < (y3_2.length:Int)) then (if (((decide ((IntKind.i64.wrap ((y3_2.length:Int) - 1)) ≥ 0)) && (((rd a0 x9_1).Kind) == 2)) && (((rd y3_2 (IntKind.i64.wrap ((y3_2.length:Int) - 1))).Kind) == 2))=true then (if (0:Int) ≤ (IntKind.i64.wrap ((y3_2.length:Int) - 1)) ∧ (IntKind.i64.wrap ((y3_2.length:Int) - 1)) < (y3_2.length:Int) then (if ((rd y3_2 (IntKind.i64.wrap ((y3_2.length:Int) - 1))).Text).length + ((rd a0 x9_1).Text).length ≤ 9223372036854775807 then (if (0:Int) ≤ (IntKind.i64.wrap ((y3_2.length:Int) - 1)) ∧ (IntKind.i64.wrap ((y3_2.length:Int) - 1)) < (y3_2.length:Int) then ((some (y3_2.set (Int.toNat (IntKind.i64.wrap ((y3_2.length:Int) - 1))) (T_api_Node.mk ((rd y3_2 (IntKind.i64.wrap ((y3_2.length:Int) - 1))).Kind) (T_api_Name.mk ((rd y3_2 (IntKind.i64.wrap ((y3_2.length:Int) - 1))).Name.Space) ((rd y3_2 (IntKind.i64.wrap ((y3_2.length:Int) - 1))).Name.Local)) ((rd y3_2 (IntKind.i64.wrap ((y3_2.length:Int) - 1))).Attrs) ((rd y3_2 (IntKind.i64.wrap ((y3_2.length:Int) - 1))).Kids) (((rd y3_2 (IntKind.i64.wrap ((y3_2.length:Int) - 1))).Text) ++ ((rd a0 x9_1).Text))))).bind fun (t15:List T_api_Node) => path_joined.l0 k a0 m5 t15 (IntKind.i64.wrap (x9_1 + 1))) else none) else none) else none) else (if (y3_2.length + ([(rd a0 x9_1)]:List T_api_Node).length) * 104 ≤ 140737488355328 then path_joined.l0 k a0 m5 (y3_2 ++ ([(rd a0 x9_1)]:List T_api_Node)) (IntKind.i64.wrap (x9_1 + 1)) else none)) else none) else none) else some y3_2)
def path_joined (k:Nat) (a0:List T_api_Node):Option (List T_api_Node):=path_joined.l0 k a0 k ([]:List T_api_Node) 0
theorem path_joined.ok {k:Nat} {a0:List T_api_Node} {r:(List T_api_Node)} (H:path_joined k a0=some r):Vx.Fn Try.prog 63 [(L 6 e_api_Node a0)] [] (L 6 e_api_Node r) []:=by
 unfold path_joined at H
 refine Vx.Fn.of_okR Try.func63 rfl (Nat.le_of_ble_eq_true rfl) ?_
 refine Ok.seq ?_
 refine .rg [(0,(L 6 e_api_Node a0))] [] ?_
 refine Ok.seq ?_
 refine Ok.region (σ':=⟨[(0,(L 6 e_api_Node a0)),(3,(.sref 3))],[(3,(.rows true 27 6 (([]:List T_api_Node).map e_api_Node)))]⟩) ?_ ?_
 ·refine OpsOk.cons rfl (.nilT 3 27 6 (.inl rfl) rfl rfl) ?_
  exact .dn
 refine Ok.seq ?_
 refine Ok.seq ?_
 refine Ok.region (σ':=⟨[(3,(.sref 3)),(7,(L 6 e_api_Node a0)),(8,(.v (.int .i64 (a0.length:Int)))),(9,(.v (.int .i64 0)))],[(3,(.rows true 27 6 (([]:List T_api_Node).map e_api_Node)))]⟩) ?_ ?_
 ·refine .rn 1 ?_
  refine .cv (VOk.lenL (e:=e_api_Node) (xs:=a0) rfl Try.underlying25 rfl) rfl rfl ?_
  refine .rn 1 ?_
  exact .dn
 refine Ok.block ?_
 refine Ok.loop (fun m5 σ => ∃ (y3_2:List T_api_Node) (x9_1:Int),σ=⟨[(3,(.sref 3)),(7,(L 6 e_api_Node a0)),(8,(.v (.int .i64 (a0.length:Int)))),(9,(.v (.int .i64 x9_1)))],[(3,(.rows true 27 6 (y3_2.map e_api_Node)))]⟩ ∧ path_joined.l0 k a0 m5 y3_2 x9_1=some r) k ⟨([]:List T_api_Node),0,rfl,H⟩ ?_
 rintro m5 σ ⟨y3_2,x9_1,rfl,H⟩
 cases m5 with
 | zero => exact absurd H (by simp [path_joined.l0])
 | succ m5 =>
  unfold path_joined.l0 at H
  refine Ok.seq ?_
  refine .rg [(3,(.sref 3)),(7,(L 6 e_api_Node a0)),(8,(.v (.int .i64 (a0.length:Int)))),(9,(.v (.int .i64 x9_1))),(10,(.v (.bool (decide (x9_1 < (a0.length:Int))))))] [(3,(.rows true 27 6 (y3_2.map e_api_Node)))] ?_
  refine Ok.seq ?_
  refine Ok.test (b:=(decide (x9_1 < (a0.length:Int)))) rfl (fun hb19 => ?_) (fun hb19 => ?_)
  ·replace H:=ifT H hb19
   refine Ok.skip ?_
   refine Ok.seq ?_
   refine Ok.block ?_
   refine Ok.seq ?_
   obtain⟨c6,H⟩:=assertE H
   refine Ok.region (σ':=⟨[(3,(.sref 3)),(5,(.bref 5 0)),(7,(L 6 e_api_Node a0)),(8,(.v (.int .i64 (a0.length:Int)))),(9,(.v (.int .i64 x9_1)))],[(3,(.rows true 27 6 (y3_2.map e_api_Node))),(5,(.box .ex (c_api_Node (rd a0 x9_1))))]⟩) ?_ ?_
   ·refine .cv (VOk.indexL (sz:=6) (e:=e_api_Node) (xs:=a0) (i:=x9_1) rfl Try.underlying25 sz27 rfl rfl c6) rfl rfl ?_
    refine .rn 2 ?_
    refine OpsOk.cut1 12 (.agg [(.v (.int .i64 ((rd a0 x9_1).Kind))),(S ((rd a0 x9_1).Name.Space)),(S ((rd a0 x9_1).Name.Local)),(L 3 e_api_Attr ((rd a0 x9_1).Attrs)),(L 6 e_api_Node ((rd a0 x9_1).Kids)),(S ((rd a0 x9_1).Text))]) (DLe.of_eq (congrArg D.agg (e_api_Node_c _).symm)) ?_
    refine .rn 1 ?_
    exact .dn
   refine Ok.seq ?_
   refine Ok.seq ?_
   refine Ok.region (σ':=⟨[(3,(.sref 3)),(5,(.bref 5 0)),(6,(.v (.int .i64 (IntKind.i64.wrap ((y3_2.length:Int) - 1))))),(7,(L 6 e_api_Node a0)),(8,(.v (.int .i64 (a0.length:Int)))),(9,(.v (.int .i64 x9_1)))],[(3,(.rows true 27 6 (y3_2.map e_api_Node))),(5,(.box .ex (c_api_Node (rd a0 x9_1))))]⟩) ?_ ?_
   ·refine .rn 1 ?_
    refine .cv (VOk.lenTL (e:=e_api_Node) (xs:=y3_2) rfl Try.underlying25 rfl rfl) rfl rfl ?_
    refine .rn 2 ?_
    exact .dn
   refine Ok.seq ?_
   obtain⟨c10,H⟩:=assertE H
   refine Ok.region (σ':=⟨[(3,(.sref 3)),(5,(.bref 5 0)),(6,(.v (.int .i64 (IntKind.i64.wrap ((y3_2.length:Int) - 1))))),(7,(L 6 e_api_Node a0)),(8,(.v (.int .i64 (a0.length:Int)))),(9,(.v (.int .i64 x9_1))),(30,(.v (.bool (((decide ((IntKind.i64.wrap ((y3_2.length:Int) - 1)) ≥ 0)) && (((rd a0 x9_1).Kind) == 2)) && (((rd y3_2 (IntKind.i64.wrap ((y3_2.length:Int) - 1))).Kind) == 2)))))],[(3,(.rows true 27 6 (y3_2.map e_api_Node))),(5,(.box .ex (c_api_Node (rd a0 x9_1))))]⟩) ?_ ?_
   ·refine .rn 3 ?_
    refine OpsOk.consI rfl rfl rfl (.one rfl) rfl (fun hw7 => (VOk.g (VOk.to (VOk.fieldB rfl Try.underlying27 rfl sz3 rfl rfl) rfl))) ?_
    refine OpsOk.consI rfl rfl rfl (.one rfl) rfl (fun hw7 => (GOk.fr (fr':=[(19,(.bref 5 0))]) ⟨DLe.of_eq (cT hw7).symm,trivial⟩ (VOk.g (VOk.loadB (d:=(.v (.int .i64 ((rd a0 x9_1).Kind)))) rfl Try.underlying3 rfl rfl rfl rfl)))) ?_
    refine OpsOk.consI rfl rfl rfl (.one rfl) rfl (fun hw7 => (GOk.fr (fr':=[(20,(.v (.int .i64 ((rd a0 x9_1).Kind))))]) ⟨DLe.of_eq (cT hw7).symm,trivial⟩ (VOk.g (VOk.arith (op:=.eql) (k:=.i64) (a:=(rd a0 x9_1).Kind) (b:=2) rfl rfl rfl rfl)))) ?_
    refine .cv (VOk.to (VOk.pickI (b:=(decide ((IntKind.i64.wrap ((y3_2.length:Int) - 1)) ≥ 0))) (p:=(((rd a0 x9_1).Kind) == 2)) (q:=false) rfl rfl (fun hp8 => (cT (t_beq hp8))) (fun hp8 => rfl)) (pickAnd (decide ((IntKind.i64.wrap ((y3_2.length:Int) - 1)) ≥ 0)) (((rd a0 x9_1).Kind) == 2))) rfl rfl ?_
    refine .rn 1 ?_
    refine OpsOk.consI rfl rfl rfl (.one rfl) rfl (fun hw9 => (VOk.g (VOk.mv (d:=(.sref 3)) rfl rfl))) ?_
    refine OpsOk.consI rfl rfl rfl (.one rfl) rfl (fun hw9 => (VOk.g (VOk.mv (d:=(.v (.int .i64 (IntKind.i64.wrap ((y3_2.length:Int) - 1))))) rfl rfl))) ?_
    refine OpsOk.consI rfl rfl rfl (.one rfl) rfl (fun hw9 => (GOk.fr (fr':=[(24,(.sref 3)),(25,(.v (.int .i64 (IntKind.i64.wrap ((y3_2.length:Int) - 1)))))]) ⟨DLe.of_eq (cT hw9).symm,DLe.of_eq (cT hw9).symm,trivial⟩ (VOk.g (VOk.indexTL (e:=e_api_Node) (xs:=y3_2) (i:=(IntKind.i64.wrap ((y3_2.length:Int) - 1))) rfl Try.underlying25 sz27 rfl rfl rfl (c10 hw9))))) ?_
    refine OpsOk.consI rfl rfl rfl (.one rfl) rfl (fun hw9 => (GOk.fr (fr':=[(26,(.eref 3 (Int.toNat (IntKind.i64.wrap ((y3_2.length:Int) - 1))) 0))]) ⟨DLe.of_eq (cT hw9).symm,trivial⟩ (VOk.g (VOk.to (VOk.fieldE rfl Try.underlying27 rfl sz3 rfl rfl) rfl)))) ?_
    refine OpsOk.consI rfl rfl rfl (.one rfl) rfl (fun hw9 => (GOk.fr (fr':=[(27,(.eref 3 (Int.toNat (IntKind.i64.wrap ((y3_2.length:Int) - 1))) 0))]) ⟨DLe.of_eq (cT hw9).symm,trivial⟩ (VOk.g (VOk.loadE (d:=(.v (.int .i64 ((rd y3_2 (IntKind.i64.wrap ((y3_2.length:Int) - 1))).Kind)))) rfl Try.underlying3 rfl rfl rfl (row_rd (c10 hw9)) rfl)))) ?_
    refine OpsOk.consI rfl rfl rfl (.one rfl) rfl (fun hw9 => (GOk.fr (fr':=[(28,(.v (.int .i64 ((rd y3_2 (IntKind.i64.wrap ((y3_2.length:Int) - 1))).Kind))))]) ⟨DLe.of_eq (cT hw9).symm,trivial⟩ (VOk.g (VOk.arith (op:=.eql) (k:=.i64) (a:=(rd y3_2 (IntKind.i64.wrap ((y3_2.length:Int) - 1))).Kind) (b:=2) rfl rfl rfl rfl)))) ?_
    refine .cv (VOk.to (VOk.pickI (b:=((decide ((IntKind.i64.wrap ((y3_2.length:Int) - 1)) ≥ 0)) && (((rd a0 x9_1).Kind) == 2))) (p:=(((rd y3_2 (IntKind.i64.wrap ((y3_2.length:Int) - 1))).Kind) == 2)) (q:=false) rfl rfl (fun hp11 => (cT (t_beq hp11))) (fun hp11 => rfl)) (pickAnd ((decide ((IntKind.i64.wrap ((y3_2.length:Int) - 1)) ≥ 0)) && (((rd a0 x9_1).Kind) == 2)) (((rd y3_2 (IntKind.i64.wrap ((y3_2.length:Int) - 1))).Kind) == 2))) rfl rfl ?_
    exact .dn
   refine Ok.test (b:=(((decide ((IntKind.i64.wrap ((y3_2.length:Int) - 1)) ≥ 0)) && (((rd a0 x9_1).Kind) == 2)) && (((rd y3_2 (IntKind.i64.wrap ((y3_2.length:Int) - 1))).Kind) == 2))) rfl (fun hb18 => ?_) (fun hb18 => ?_)
   ·replace H:=ifT H hb18
    refine Ok.seq ?_
    obtain⟨c12,H⟩:=assertE H
    obtain⟨c13,H⟩:=assertE H
    obtain⟨c14,H⟩:=assertE H
    obtain⟨t15,h16,H⟩:=bindE H
    refine Ok.le (σ':=⟨[(3,(.sref 3)),(5,(.bref 5 0)),(6,(.v (.int .i64 (IntKind.i64.wrap ((y3_2.length:Int) - 1))))),(7,(L 6 e_api_Node a0)),(8,(.v (.int .i64 (a0.length:Int)))),(9,(.v (.int .i64 x9_1)))],[(3,(.rows true 27 6 (y3_2.map e_api_Node))),(5,(.box .ex (c_api_Node (rd a0 x9_1))))]⟩) (.rf rfl rfl) ?_
    refine .dU [(3,(.sref 3)),(7,(L 6 e_api_Node a0)),(8,(.v (.int .i64 (a0.length:Int)))),(9,(.v (.int .i64 x9_1)))] [(3,(.rows true 27 6 (t15.map e_api_Node)))] [[],[],[0,1],[2],[3],[],[5],[4,6],[0,1],[8],[0,2,3,4,7,8,9]] mixed ?_ ?_
    ·refine .un 2 ?_
     refine .uc ⟨true,[(31,(.sref 3)),(32,(.v (.int .i64 (IntKind.i64.wrap ((y3_2.length:Int) - 1)))))],[(3,(.rows true 27 6 (y3_2.map e_api_Node)))],(.eref 3 (Int.toNat (IntKind.i64.wrap ((y3_2.length:Int) - 1))) 0),[],false,[]⟩ ⟨.same _,.same _,trivial⟩ ⟨rfl,trivial⟩ (It2.val rfl rfl (fun T hT => (VOk.g (VOk.indexTL (e:=e_api_Node) (xs:=y3_2) (i:=(IntKind.i64.wrap ((y3_2.length:Int) - 1))) rfl Try.underlying25 sz27 rfl hT.1 rfl c12)))) ?_
     refine .uc ⟨true,[(33,(.eref 3 (Int.toNat (IntKind.i64.wrap ((y3_2.length:Int) - 1))) 0))],[(3,(.rows true 27 6 (y3_2.map e_api_Node)))],(.eref 3 (Int.toNat (IntKind.i64.wrap ((y3_2.length:Int) - 1))) 5),[],false,[]⟩ ⟨.same _,trivial⟩ ⟨rfl,trivial⟩ (It2.val rfl rfl (fun T hT => (VOk.g (VOk.to (VOk.fieldE rfl Try.underlying27 rfl sz9 rfl hT.1) rfl)))) ?_
     refine .uc ⟨true,[(34,(.eref 3 (Int.toNat (IntKind.i64.wrap ((y3_2.length:Int) - 1))) 5))],[(3,(.rows true 27 6 (y3_2.map e_api_Node)))],(S ((rd y3_2 (IntKind.i64.wrap ((y3_2.length:Int) - 1))).Text)),[],false,[]⟩ ⟨.same _,trivial⟩ ⟨rfl,trivial⟩ (It2.val rfl rfl (fun T hT => (VOk.g (VOk.loadE (d:=(S ((rd y3_2 (IntKind.i64.wrap ((y3_2.length:Int) - 1))).Text))) rfl Try.underlying9 rfl rfl hT.1 (row_rd c12) rfl)))) ?_
     refine .un 2 ?_
     refine .uc ⟨true,[(35,(S ((rd y3_2 (IntKind.i64.wrap ((y3_2.length:Int) - 1))).Text))),(37,(S ((rd a0 x9_1).Text)))],[],(S (((rd y3_2 (IntKind.i64.wrap ((y3_2.length:Int) - 1))).Text) ++ ((rd a0 x9_1).Text))),[],false,[]⟩ ⟨.same _,.same _,trivial⟩ trivial (It2.val rfl rfl (fun T hT => (VOk.g (VOk.cat (a:=(rd y3_2 (IntKind.i64.wrap ((y3_2.length:Int) - 1))).Text) (b:=(rd a0 x9_1).Text) rfl rfl rfl c13)))) ?_
     refine .uc ⟨true,[(31,(.sref 3)),(32,(.v (.int .i64 (IntKind.i64.wrap ((y3_2.length:Int) - 1)))))],[(3,(.rows true 27 6 (y3_2.map e_api_Node)))],(.eref 3 (Int.toNat (IntKind.i64.wrap ((y3_2.length:Int) - 1))) 0),[],false,[]⟩ ⟨.same _,.same _,trivial⟩ ⟨rfl,trivial⟩ (It2.val rfl rfl (fun T hT => (VOk.g (VOk.indexTL (e:=e_api_Node) (xs:=y3_2) (i:=(IntKind.i64.wrap ((y3_2.length:Int) - 1))) rfl Try.underlying25 sz27 rfl hT.1 rfl c14)))) ?_
     refine .uc ⟨true,[(39,(.eref 3 (Int.toNat (IntKind.i64.wrap ((y3_2.length:Int) - 1))) 0))],[(3,(.rows true 27 6 (y3_2.map e_api_Node)))],(.eref 3 (Int.toNat (IntKind.i64.wrap ((y3_2.length:Int) - 1))) 5),[],false,[]⟩ ⟨.same _,trivial⟩ ⟨rfl,trivial⟩ (It2.val rfl rfl (fun T hT => (VOk.g (VOk.to (VOk.fieldE rfl Try.underlying27 rfl sz9 rfl hT.1) rfl)))) ?_
     refine .uc ⟨true,[(40,(.eref 3 (Int.toNat (IntKind.i64.wrap ((y3_2.length:Int) - 1))) 5)),(38,(S (((rd y3_2 (IntKind.i64.wrap ((y3_2.length:Int) - 1))).Text) ++ ((rd a0 x9_1).Text))))],[(3,(.rows true 27 6 (y3_2.map e_api_Node)))],.junk,[(3,(.rows true 27 6 (t15.map e_api_Node)))],false,[]⟩ ⟨.same _,.same _,trivial⟩ ⟨rfl,trivial⟩ (It2.storeEL (e:=e_api_Node) (xs:=y3_2) (i:=(IntKind.i64.wrap ((y3_2.length:Int) - 1))) (y:=(T_api_Node.mk ((rd y3_2 (IntKind.i64.wrap ((y3_2.length:Int) - 1))).Kind) (T_api_Name.mk ((rd y3_2 (IntKind.i64.wrap ((y3_2.length:Int) - 1))).Name.Space) ((rd y3_2 (IntKind.i64.wrap ((y3_2.length:Int) - 1))).Name.Local)) ((rd y3_2 (IntKind.i64.wrap ((y3_2.length:Int) - 1))).Attrs) ((rd y3_2 (IntKind.i64.wrap ((y3_2.length:Int) - 1))).Kids) (((rd y3_2 (IntKind.i64.wrap ((y3_2.length:Int) - 1))).Text) ++ ((rd a0 x9_1).Text)))) rfl rfl sz9 rfl rfl rfl c14 rfl rfl rfl (by rw [e_api_Node_c,e_api_Node_c]; rfl) rfl (Option.some.inj h16)) ?_
     exact .dn
    refine Ok.exit ?_
    refine .rg [(3,(.sref 3)),(7,(L 6 e_api_Node a0)),(8,(.v (.int .i64 (a0.length:Int)))),(9,(.v (.int .i64 (IntKind.i64.wrap (x9_1 + 1)))))] [(3,(.rows true 27 6 (t15.map e_api_Node)))] ?_
    exact⟨m5,Nat.lt_succ_self m5,t15,(IntKind.i64.wrap (x9_1 + 1)),rfl,H⟩
   ·replace H:=ifF H hb18
    refine Ok.skip ?_
    obtain⟨c17,H⟩:=assertE H
    refine Ok.region (σ':=⟨[(3,(.sref 3)),(7,(L 6 e_api_Node a0)),(8,(.v (.int .i64 (a0.length:Int)))),(9,(.v (.int .i64 x9_1)))],[(3,(.rows true 27 6 ((y3_2 ++ ([(rd a0 x9_1)]:List T_api_Node)).map e_api_Node)))]⟩) ?_ ?_
    ·refine .rn 1 ?_
     refine .cv (VOk.to (d':=(.agg (e_api_Node (rd a0 x9_1)))) (.loadBAgg rfl Try.underlying27 rfl sz27 rfl rfl rfl) (congrArg D.agg (e_api_Node_c (rd a0 x9_1)).symm)) rfl rfl ?_
     refine .cg (GOk.to (d':=(L 6 e_api_Node ([(rd a0 x9_1)]:List T_api_Node))) (GOk.lit rfl Try.underlying25 sz27 zs27 rfl rfl rfl rfl) rfl) rfl rfl ?_
     refine OpsOk.cons rfl (OpOk.appendL (e:=e_api_Node) (xs:=y3_2) (ys:=([(rd a0 x9_1)]:List T_api_Node)) rfl Try.underlying25 elt27 rfl rfl rfl c17 rfl) ?_
     refine .rn 1 ?_
     exact .dn
    refine .rg [(3,(.sref 3)),(7,(L 6 e_api_Node a0)),(8,(.v (.int .i64 (a0.length:Int)))),(9,(.v (.int .i64 (IntKind.i64.wrap (x9_1 + 1)))))] [(3,(.rows true 27 6 ((y3_2 ++ ([(rd a0 x9_1)]:List T_api_Node)).map e_api_Node)))] ?_
    exact⟨m5,Nat.lt_succ_self m5,(y3_2 ++ ([(rd a0 x9_1)]:List T_api_Node)),(IntKind.i64.wrap (x9_1 + 1)),rfl,H⟩
  ·replace H:=ifF H hb19
   refine Ok.exit ?_
   refine Ok.seq ?_
   refine .rg [(2,(.sref 3))] [(3,(.rows true 27 6 (y3_2.map e_api_Node)))] ?_
   refine Ok.frzL 3 (e:=e_api_Node) (xs:=y3_2) rfl ?_
   refine Ok.ret ?_
   obtain rfl:=Option.some.inj H
   exact⟨.inl rfl,⟨_,(.cons (.tmp rfl) .nil),rfl⟩,trivial⟩
def path_named_1 (a0:T_api_Attr) (a1_0:Str) (a1_1:Str):Option Bool:=some (a0.Name.Space == (T_api_Name.mk a1_0 a1_1).Space && (a0.Name.Local == (T_api_Name.mk a1_0 a1_1).Local && true))
theorem path_named_1.ok {a0:T_api_Attr} {a1_0:Str} {a1_1:Str} {r:Bool} (H:path_named_1 a0 a1_0 a1_1=some r):Vx.Fn Try.prog 73 [(.agg (e_api_Attr a0)),(.fp [(S a1_0),(S a1_1)] 0)] [] (.v (.bool r)) []:=by
 unfold path_named_1 at H
 refine Vx.Fn.of_okR Try.func73 rfl (Nat.le_of_ble_eq_true rfl) ?_
 refine Ok.seq ?_
 refine .rg [(1,(.fp [(S a1_0),(S a1_1)] 0)),(2,(.bref 2 0))] [(2,(.box .ex (c_api_Attr a0)))] ?_
 refine Ok.seq ?_
 refine Ok.region (σ':=⟨[(3,(.v (.bool (a0.Name.Space == (T_api_Name.mk a1_0 a1_1).Space && (a0.Name.Local == (T_api_Name.mk a1_0 a1_1).Local && true)))))],[]⟩) ?_ ?_
 ·refine .rn 3 ?_
  refine .cv (VOk.eqS' (op:=.eql) (d:=(.v (.bool (a0.Name.Space == (T_api_Name.mk a1_0 a1_1).Space && (a0.Name.Local == (T_api_Name.mk a1_0 a1_1).Local && true))))) rfl (.inl rfl) (eqt23 9998) ag23 eg23 rfl rfl rfl rfl) rfl rfl ?_
  refine .rn 1 ?_
  exact .dn
 refine Ok.ret ?_
 obtain rfl:=Option.some.inj H
 exact⟨.inl rfl,⟨_,(.cons (.tmp rfl) .nil),rfl⟩,trivial⟩
def slices_IndexFunc_72.l0 (k:Nat) (a0:List T_api_Attr) (a1_0_0:Str) (a1_0_1:Str):Nat→Int→Option Int
 | 0,_ => none
 | m3 + 1,x8_1 => (if (decide (x8_1 < (a0.length:Int)))=true then (if (0:Int) ≤ x8_1 ∧ x8_1 < (a0.length:Int) then ((path_named_1 (rd a0 x8_1) a1_0_0 a1_0_1).bind fun (t5:Bool) => (if t5=true then some x8_1 else slices_IndexFunc_72.l0 k a0 a1_0_0 a1_0_1 m3 (IntKind.i64.wrap (x8_1 + 1)))) else none) else some (-1))
def slices_IndexFunc_72 (k:Nat) (a0:List T_api_Attr) (a1_0_0:Str) (a1_0_1:Str):Option Int:=slices_IndexFunc_72.l0 k a0 a1_0_0 a1_0_1 k 0
theorem slices_IndexFunc_72.ok {k:Nat} {a0:List T_api_Attr} {a1_0_0:Str} {a1_0_1:Str} {r:Int} (H:slices_IndexFunc_72 k a0 a1_0_0 a1_0_1=some r):Vx.Fn Try.prog 72 [(L 3 e_api_Attr a0),(.clo 73 [(.fp [(S a1_0_0),(S a1_0_1)] 0)])] [] (.v (.int .i64 r)) []:=by
 unfold slices_IndexFunc_72 at H
 refine Vx.Fn.of_okR Try.func72 rfl (Nat.le_of_ble_eq_true rfl) ?_
 refine Ok.seq ?_
 refine .rg [(0,(L 3 e_api_Attr a0)),(1,(.clo 73 [(.fp [(S a1_0_0),(S a1_0_1)] 0)]))] [] ?_
 refine Ok.seq ?_
 refine Ok.seq ?_
 refine Ok.region (σ':=⟨[(0,(L 3 e_api_Attr a0)),(1,(.clo 73 [(.fp [(S a1_0_0),(S a1_0_1)] 0)])),(7,(.v (.int .i64 (a0.length:Int)))),(8,(.v (.int .i64 0)))],[]⟩) ?_ ?_
 ·refine .rn 1 ?_
  refine .cv (VOk.lenL (e:=e_api_Attr) (xs:=a0) rfl Try.underlying24 rfl) rfl rfl ?_
  refine .rn 1 ?_
  exact .dn
 refine Ok.block ?_
 refine Ok.loop (fun m3 σ => ∃ (x8_1:Int),σ=⟨[(0,(L 3 e_api_Attr a0)),(1,(.clo 73 [(.fp [(S a1_0_0),(S a1_0_1)] 0)])),(7,(.v (.int .i64 (a0.length:Int)))),(8,(.v (.int .i64 x8_1)))],[]⟩ ∧ slices_IndexFunc_72.l0 k a0 a1_0_0 a1_0_1 m3 x8_1=some r) k ⟨0,rfl,H⟩ ?_
 rintro m3 σ ⟨x8_1,rfl,H⟩
 cases m3 with
 | zero => exact absurd H (by simp [slices_IndexFunc_72.l0])
 | succ m3 =>
  unfold slices_IndexFunc_72.l0 at H
  refine Ok.seq ?_
  refine .rg [(0,(L 3 e_api_Attr a0)),(1,(.clo 73 [(.fp [(S a1_0_0),(S a1_0_1)] 0)])),(7,(.v (.int .i64 (a0.length:Int)))),(8,(.v (.int .i64 x8_1))),(9,(.v (.bool (decide (x8_1 < (a0.length:Int))))))] [] ?_
  refine Ok.seq ?_
  refine Ok.test (b:=(decide (x8_1 < (a0.length:Int)))) rfl (fun hb8 => ?_) (fun hb8 => ?_)
  ·replace H:=ifT H hb8
   refine Ok.skip ?_
   refine Ok.seq ?_
   refine Ok.block ?_
   refine Ok.seq ?_
   refine .rg [(0,(L 3 e_api_Attr a0)),(1,(.clo 73 [(.fp [(S a1_0_0),(S a1_0_1)] 0)])),(5,(.v (.int .i64 x8_1))),(7,(.v (.int .i64 (a0.length:Int)))),(8,(.v (.int .i64 x8_1)))] [] ?_
   refine Ok.seq ?_
   obtain⟨c4,H⟩:=assertE H
   obtain⟨t5,h6,H⟩:=bindE H
   refine Ok.region (σ':=⟨[(0,(L 3 e_api_Attr a0)),(1,(.clo 73 [(.fp [(S a1_0_0),(S a1_0_1)] 0)])),(5,(.v (.int .i64 x8_1))),(7,(.v (.int .i64 (a0.length:Int)))),(8,(.v (.int .i64 x8_1))),(16,(.v (.bool t5)))],[]⟩) ?_ ?_
   ·refine .rn 3 ?_
    refine .cv (VOk.indexL (sz:=3) (e:=e_api_Attr) (xs:=a0) (i:=x8_1) rfl Try.underlying24 sz68 rfl rfl c4) rfl rfl ?_
    refine .rn 1 ?_
    refine .cg (GOk.call rfl rfl cl73 rfl (path_named_1.ok h6) rfl) rfl rfl ?_
    exact .dn
   refine Ok.test (b:=t5) rfl (fun hb7 => ?_) (fun hb7 => ?_)
   ·replace H:=ifT H hb7
    refine Ok.seq ?_
    refine .rg [(4,(.v (.int .i64 x8_1)))] [] ?_
    refine Ok.ret ?_
    obtain rfl:=Option.some.inj H
    exact⟨.inl rfl,⟨_,(.cons (.tmp rfl) .nil),rfl⟩,trivial⟩
   ·replace H:=ifF H hb7
    refine Ok.skip ?_
    refine .rg [(0,(L 3 e_api_Attr a0)),(1,(.clo 73 [(.fp [(S a1_0_0),(S a1_0_1)] 0)])),(7,(.v (.int .i64 (a0.length:Int)))),(8,(.v (.int .i64 (IntKind.i64.wrap (x8_1 + 1)))))] [] ?_
    exact⟨m3,Nat.lt_succ_self m3,(IntKind.i64.wrap (x8_1 + 1)),rfl,H⟩
  ·replace H:=ifF H hb8
   refine Ok.exit ?_
   refine Ok.seq ?_
   refine .rg [(4,(.v (.int .i64 (-1))))] [] ?_
   refine Ok.ret ?_
   obtain rfl:=Option.some.inj H
   exact⟨.inl rfl,⟨_,(.cons (.tmp rfl) .nil),rfl⟩,trivial⟩
def path_named (k:Nat) (a0:List T_api_Attr) (a1:T_api_Name):Option Int:=((slices_IndexFunc_72 k a0 a1.Space a1.Local).bind fun (t1:Int) => some t1)
theorem path_named.ok {k:Nat} {a0:List T_api_Attr} {a1:T_api_Name} {r:Int} (H:path_named k a0 a1=some r):Vx.Fn Try.prog 53 [(L 3 e_api_Attr a0),(.agg (e_api_Name a1))] [] (.v (.int .i64 r)) []:=by
 unfold path_named at H
 refine Vx.Fn.of_okR Try.func53 rfl (Nat.le_of_ble_eq_true rfl) ?_
 refine Ok.seq ?_
 refine .rg [(0,(L 3 e_api_Attr a0)),(3,(.bref 3 0))] [(3,(.box .ex [(S a1.Space),(S a1.Local)]))] ?_
 refine Ok.seq ?_
 obtain⟨t1,h2,H⟩:=bindE H
 refine Ok.region (σ':=⟨[(4,(.v (.int .i64 t1)))],[]⟩) ?_ ?_
 ·refine .rn 1 ?_
  refine OpsOk.frzBox 3 rfl rfl ?_
  refine .cv (VOk.makeFunc (ds:=[(.fp [(S a1.Space),(S a1.Local)] 0)]) rfl rfl) rfl rfl ?_
  refine .cg (GOk.call rfl rfl cl72 rfl (slices_IndexFunc_72.ok h2) rfl) rfl rfl ?_
  refine .rn 1 ?_
  exact .dn
 refine Ok.ret ?_
 obtain rfl:=Option.some.inj H
 exact⟨.inl rfl,⟨_,(.cons (.tmp rfl) .nil),rfl⟩,trivial⟩
end Go.Proofs.Ytafoiodfflcpeaa.Sh
