import Derived.Test.YtapbckofgcmgmaaGreatDoorProg
import Derived.Test.YtapbckofgcmgmaaGreatDoorShd
namespace Go.Proofs.YtapbckofgcmgmaaGreatDoor.Sh
open Go Go.RowKit Go.Proofs.Vx
set_option linter.unusedVariables false
set_option maxRecDepth 100000
set_option maxHeartbeats 1000000
def watchbillref04_Same.j2 (c1:Int→Str→Str→List T_api_Attr→List T_api_Node→Str→Int→Str→Str→List T_api_Attr→List T_api_Node→Str→Int→Int→Int→Option Bool) (x5_9:Int) (y2_0_39:Int) (y2_1_40:Str) (y2_2_41:Str) (y2_3_42:List T_api_Attr) (y2_4_43:List T_api_Node) (y2_5_44:Str) (y3_0_45:Int) (y3_1_46:Str) (y3_2_47:Str) (y3_3_48:List T_api_Attr) (y3_4_49:List T_api_Node) (y3_5_50:Str) (x7_37:Int) (x8_38:Int) (x6_67:Int):Option Bool:=(if (0:Int) ≤ x8_38 ∧ x8_38 < (y3_3_48.length:Int) then (if (0:Int) ≤ x5_9 ∧ x5_9 < (y2_3_42.length:Int) then (if ((rd y3_3_48 x8_38).Name.Space == (rd y2_3_42 x5_9).Name.Space && ((rd y3_3_48 x8_38).Name.Local == (rd y2_3_42 x5_9).Name.Local && ((rd y3_3_48 x8_38).Value == (rd y2_3_42 x5_9).Value && true)))=true then c1 y2_0_39 y2_1_40 y2_2_41 y2_3_42 y2_4_43 y2_5_44 y3_0_45 y3_1_46 y3_2_47 y3_3_48 y3_4_49 y3_5_50 x6_67 (IntKind.i64.wrap (x7_37 + 1)) (IntKind.i64.wrap (x8_38 + 1)) else c1 y2_0_39 y2_1_40 y2_2_41 y2_3_42 y2_4_43 y2_5_44 y3_0_45 y3_1_46 y3_2_47 y3_3_48 y3_4_49 y3_5_50 x6_67 x7_37 (IntKind.i64.wrap (x8_38 + 1))) else none) else none)
def watchbillref04_Same.l1 (k:Nat) (c0:Int→Str→Str→List T_api_Attr→List T_api_Node→Str→Int→Str→Str→List T_api_Attr→List T_api_Node→Str→Int→Option Bool) (x5_9:Int):Nat→Int→Str→Str→List T_api_Attr→List T_api_Node→Str→Int→Str→Str→List T_api_Attr→List T_api_Node→Str→Int→Int→Int→Option Bool
 | 0,_,_,_,_,_,_,_,_,_,_,_,_,_,_,_ => none
 | m66 + 1,y2_0_39,y2_1_40,y2_2_41,y2_3_42,y2_4_43,y2_5_44,y3_0_45,y3_1_46,y3_2_47,y3_3_48,y3_4_49,y3_5_50,x6_36,x7_37,x8_38 => (if (decide (x8_38 < (y2_3_42.length:Int)))=true then (if (0:Int) ≤ x8_38 ∧ x8_38 < (y2_3_42.length:Int) then (if (0:Int) ≤ x5_9 ∧ x5_9 < (y2_3_42.length:Int) then (if ((rd y2_3_42 x8_38).Name.Space == (rd y2_3_42 x5_9).Name.Space && ((rd y2_3_42 x8_38).Name.Local == (rd y2_3_42 x5_9).Name.Local && ((rd y2_3_42 x8_38).Value == (rd y2_3_42 x5_9).Value && true)))=true then watchbillref04_Same.j2 (watchbillref04_Same.l1 k c0 x5_9 m66) x5_9 y2_0_39 y2_1_40 y2_2_41 y2_3_42 y2_4_43 y2_5_44 y3_0_45 y3_1_46 y3_2_47 y3_3_48 y3_4_49 y3_5_50 x7_37 x8_38 (IntKind.i64.wrap (x6_36 + 1)) else watchbillref04_Same.j2 (watchbillref04_Same.l1 k c0 x5_9 m66) x5_9 y2_0_39 y2_1_40 y2_2_41 y2_3_42 y2_4_43 y2_5_44 y3_0_45 y3_1_46 y3_2_47 y3_3_48 y3_4_49 y3_5_50 x7_37 x8_38 x6_36) else none) else none) else (if (x6_36 != x7_37)=true then some false else c0 y2_0_39 y2_1_40 y2_2_41 y2_3_42 y2_4_43 y2_5_44 y3_0_45 y3_1_46 y3_2_47 y3_3_48 y3_4_49 y3_5_50 (IntKind.i64.wrap (x5_9 + 1))))
def watchbillref04_Same.l3 (k:Nat) (self:T_api_Node→T_api_Node→Option Bool):Nat→Int→Str→Str→List T_api_Attr→List T_api_Node→Str→Int→Str→Str→List T_api_Attr→List T_api_Node→Str→Int→Option Bool
 | 0,_,_,_,_,_,_,_,_,_,_,_,_,_ => none
 | m102 + 1,y2_0_77,y2_1_78,y2_2_79,y2_3_80,y2_4_81,y2_5_82,y3_0_83,y3_1_84,y3_2_85,y3_3_86,y3_4_87,y3_5_88,x9_76 => (if (decide (x9_76 < (y2_4_81.length:Int)))=true then (if (0:Int) ≤ x9_76 ∧ x9_76 < (y2_4_81.length:Int) then (if (0:Int) ≤ x9_76 ∧ x9_76 < (y3_4_87.length:Int) then ((self (rd y2_4_81 x9_76) (rd y3_4_87 x9_76)).bind fun (t105:Bool) => (if (!t105)=true then some false else watchbillref04_Same.l3 k self m102 y2_0_77 y2_1_78 y2_2_79 y2_3_80 y2_4_81 y2_5_82 y3_0_83 y3_1_84 y3_2_85 y3_3_86 y3_4_87 y3_5_88 (IntKind.i64.wrap (x9_76 + 1)))) else none) else none) else some true)
def watchbillref04_Same.l0 (k:Nat) (self:T_api_Node→T_api_Node→Option Bool):Nat→Int→Str→Str→List T_api_Attr→List T_api_Node→Str→Int→Str→Str→List T_api_Attr→List T_api_Node→Str→Int→Option Bool
 | 0,_,_,_,_,_,_,_,_,_,_,_,_,_ => none
 | m35 + 1,y2_0_10,y2_1_11,y2_2_12,y2_3_13,y2_4_14,y2_5_15,y3_0_16,y3_1_17,y3_2_18,y3_3_19,y3_4_20,y3_5_21,x5_9 => (if (decide (x5_9 < (y2_3_13.length:Int)))=true then watchbillref04_Same.l1 k (watchbillref04_Same.l0 k self m35) x5_9 k y2_0_10 y2_1_11 y2_2_12 y2_3_13 y2_4_14 y2_5_15 y3_0_16 y3_1_17 y3_2_18 y3_3_19 y3_4_20 y3_5_21 0 0 0 else watchbillref04_Same.l3 k self k y2_0_10 y2_1_11 y2_2_12 y2_3_13 y2_4_14 y2_5_15 y3_0_16 y3_1_17 y3_2_18 y3_3_19 y3_4_20 y3_5_21 0)
def watchbillref04_Same:Nat→T_api_Node→T_api_Node→Option Bool
 | 0,_,_ => none
 | k + 1,a0,a1 => (if (((((a0.Kind != a1.Kind) || (!(a0.Name.Space == a1.Name.Space && (a0.Name.Local == a1.Name.Local && true)))) || (!(a0.Text == a1.Text))) || ((a0.Attrs.length:Int) != (a1.Attrs.length:Int))) || ((a0.Kids.length:Int) != (a1.Kids.length:Int)))=true then some false else watchbillref04_Same.l0 k (watchbillref04_Same k) k a0.Kind a0.Name.Space a0.Name.Local a0.Attrs a0.Kids a0.Text a1.Kind a1.Name.Space a1.Name.Local a1.Attrs a1.Kids a1.Text 0)
theorem watchbillref04_Same.ok {k:Nat} {a0:T_api_Node} {a1:T_api_Node} {r:Bool} (H:watchbillref04_Same k a0 a1=some r):Vx.Fn Tryz.prog 35 [(.agg (e_api_Node a0)),(.agg (e_api_Node a1))] [] (.v (.bool r)) []:=by
 induction k generalizing a0 a1 r with
 | zero => exact absurd H (by simp [watchbillref04_Same])
 | succ k ih =>
  unfold watchbillref04_Same at H
  refine Vx.Fn.of_okR Tryz.func35 rfl (Nat.le_of_ble_eq_true rfl) ?_
  refine Ok.seq ?_
  refine Ok.region (σ':=⟨[(2,(.bref 2 0)),(3,(.bref 3 0))],[(2,(bxN a0)),(3,(bxN a1))]⟩) ?_ ?_
  ·refine OpsOk.cut1 0 (.agg (c_api_Node a0)) (DLe.of_eq (congrArg D.agg (e_api_Node_c _).symm)) ?_
   refine .rn 1 ?_
   refine OpsOk.cut1 1 (.agg (c_api_Node a1)) (DLe.of_eq (congrArg D.agg (e_api_Node_c _).symm)) ?_
   refine .rn 2 ?_
   exact .dn
  refine Ok.seq ?_
  refine Ok.seq ?_
  refine Ok.region (σ':=⟨[(2,(.bref 2 0)),(3,(.bref 3 0)),(46,(.v (.bool (((((a0.Kind != a1.Kind) || (!(a0.Name.Space == a1.Name.Space && (a0.Name.Local == a1.Name.Local && true)))) || (!(a0.Text == a1.Text))) || ((a0.Attrs.length:Int) != (a1.Attrs.length:Int))) || ((a0.Kids.length:Int) != (a1.Kids.length:Int))))))],[(2,(bxN a0)),(3,(bxN a1))]⟩) ?_ ?_
  ·refine .rn 6 ?_
   refine OpsOk.consI rfl rfl rfl (.one rfl) rfl (fun hw1 => (VOk.g (VOk.to (VOk.fieldB rfl Tryz.underlying28 rfl sz24 rfl rfl) rfl))) ?_
   refine OpsOk.consI rfl rfl rfl (.one rfl) rfl (fun hw1 => (GOk.fr (fr':=[(16,(.bref 2 1))]) ⟨DLe.of_eq (cT hw1).symm,trivial⟩ (VOk.g (VOk.to (d':=(.agg (e_api_Name a0.Name))) (.loadBAgg rfl Tryz.underlying24 rfl sz24 rfl rfl rfl) rfl)))) ?_
   refine OpsOk.consI rfl rfl rfl (.one rfl) rfl (fun hw1 => (VOk.g (VOk.to (VOk.fieldB rfl Tryz.underlying28 rfl sz24 rfl rfl) rfl))) ?_
   refine OpsOk.consI rfl rfl rfl (.one rfl) rfl (fun hw1 => (GOk.fr (fr':=[(18,(.bref 3 1))]) ⟨DLe.of_eq (cT hw1).symm,trivial⟩ (VOk.g (VOk.to (d':=(.agg (e_api_Name a1.Name))) (.loadBAgg rfl Tryz.underlying24 rfl sz24 rfl rfl rfl) rfl)))) ?_
   refine OpsOk.consI rfl rfl rfl (.one rfl) rfl (fun hw1 => (GOk.fr (fr':=[(17,(.agg (e_api_Name a0.Name))),(19,(.agg (e_api_Name a1.Name)))]) ⟨DLe.of_eq (cT hw1).symm,DLe.of_eq (cT hw1).symm,trivial⟩ (VOk.g (VOk.eqS' (op:=.neq) (d:=(.v (.bool (!(a0.Name.Space == a1.Name.Space && (a0.Name.Local == a1.Name.Local && true)))))) rfl (.inr rfl) (eqt24 9998) ag24 eg24 rfl rfl rfl rfl)))) ?_
   refine .cv (VOk.to (VOk.pickI (b:=(a0.Kind != a1.Kind)) (p:=true) (q:=(!(a0.Name.Space == a1.Name.Space && (a0.Name.Local == a1.Name.Local && true)))) rfl rfl (fun hp2 => rfl) (fun hp2 => (cT (f_beq hp2)))) (pickOr (a0.Kind != a1.Kind) (!(a0.Name.Space == a1.Name.Space && (a0.Name.Local == a1.Name.Local && true))))) rfl rfl ?_
   refine .rn 1 ?_
   refine OpsOk.consI rfl rfl rfl (.one rfl) rfl (fun hw3 => (VOk.g (VOk.to (VOk.fieldB rfl Tryz.underlying28 rfl sz9 rfl rfl) rfl))) ?_
   refine OpsOk.consI rfl rfl rfl (.one rfl) rfl (fun hw3 => (GOk.fr (fr':=[(23,(.bref 2 5))]) ⟨DLe.of_eq (cT hw3).symm,trivial⟩ (VOk.g (VOk.loadB (d:=(S a0.Text)) rfl Tryz.underlying9 rfl rfl rfl rfl)))) ?_
   refine OpsOk.consI rfl rfl rfl (.one rfl) rfl (fun hw3 => (VOk.g (VOk.to (VOk.fieldB rfl Tryz.underlying28 rfl sz9 rfl rfl) rfl))) ?_
   refine OpsOk.consI rfl rfl rfl (.one rfl) rfl (fun hw3 => (GOk.fr (fr':=[(25,(.bref 3 5))]) ⟨DLe.of_eq (cT hw3).symm,trivial⟩ (VOk.g (VOk.loadB (d:=(S a1.Text)) rfl Tryz.underlying9 rfl rfl rfl rfl)))) ?_
   refine OpsOk.consI rfl rfl rfl (.one rfl) rfl (fun hw3 => (GOk.fr (fr':=[(24,(S a0.Text)),(26,(S a1.Text))]) ⟨DLe.of_eq (cT hw3).symm,DLe.of_eq (cT hw3).symm,trivial⟩ (VOk.g (VOk.strOp (op:=.neq) (a:=a0.Text) (b:=a1.Text) rfl rfl rfl rfl)))) ?_
   refine .cv (VOk.to (VOk.pickI (b:=((a0.Kind != a1.Kind) || (!(a0.Name.Space == a1.Name.Space && (a0.Name.Local == a1.Name.Local && true))))) (p:=true) (q:=(!(a0.Text == a1.Text))) rfl rfl (fun hp4 => rfl) (fun hp4 => (cT (f_beq hp4)))) (pickOr ((a0.Kind != a1.Kind) || (!(a0.Name.Space == a1.Name.Space && (a0.Name.Local == a1.Name.Local && true)))) (!(a0.Text == a1.Text)))) rfl rfl ?_
   refine .rn 1 ?_
   refine OpsOk.consI rfl rfl rfl (.one rfl) rfl (fun hw5 => (VOk.g (VOk.to (VOk.fieldB rfl Tryz.underlying28 rfl sz25 rfl rfl) rfl))) ?_
   refine OpsOk.consI rfl rfl rfl (.one rfl) rfl (fun hw5 => (GOk.fr (fr':=[(30,(.bref 2 3))]) ⟨DLe.of_eq (cT hw5).symm,trivial⟩ (VOk.g (VOk.loadB (d:=(L 3 e_api_Attr a0.Attrs)) rfl Tryz.underlying25 rfl rfl rfl rfl)))) ?_
   refine OpsOk.consI rfl rfl rfl (.one rfl) rfl (fun hw5 => (GOk.fr (fr':=[(31,(L 3 e_api_Attr a0.Attrs))]) ⟨DLe.of_eq (cT hw5).symm,trivial⟩ (VOk.g (VOk.lenL (e:=e_api_Attr) (xs:=a0.Attrs) rfl Tryz.underlying25 rfl)))) ?_
   refine OpsOk.consI rfl rfl rfl (.one rfl) rfl (fun hw5 => (VOk.g (VOk.to (VOk.fieldB rfl Tryz.underlying28 rfl sz25 rfl rfl) rfl))) ?_
   refine OpsOk.consI rfl rfl rfl (.one rfl) rfl (fun hw5 => (GOk.fr (fr':=[(33,(.bref 3 3))]) ⟨DLe.of_eq (cT hw5).symm,trivial⟩ (VOk.g (VOk.loadB (d:=(L 3 e_api_Attr a1.Attrs)) rfl Tryz.underlying25 rfl rfl rfl rfl)))) ?_
   refine OpsOk.consI rfl rfl rfl (.one rfl) rfl (fun hw5 => (GOk.fr (fr':=[(34,(L 3 e_api_Attr a1.Attrs))]) ⟨DLe.of_eq (cT hw5).symm,trivial⟩ (VOk.g (VOk.lenL (e:=e_api_Attr) (xs:=a1.Attrs) rfl Tryz.underlying25 rfl)))) ?_
   refine OpsOk.consI rfl rfl rfl (.one rfl) rfl (fun hw5 => (GOk.fr (fr':=[(32,(.v (.int .i64 (a0.Attrs.length:Int)))),(35,(.v (.int .i64 (a1.Attrs.length:Int))))]) ⟨DLe.of_eq (cT hw5).symm,DLe.of_eq (cT hw5).symm,trivial⟩ (VOk.g (VOk.arith (op:=.neq) (k:=.i64) (a:=(a0.Attrs.length:Int)) (b:=(a1.Attrs.length:Int)) rfl rfl rfl rfl)))) ?_
   refine .cv (VOk.to (VOk.pickI (b:=(((a0.Kind != a1.Kind) || (!(a0.Name.Space == a1.Name.Space && (a0.Name.Local == a1.Name.Local && true)))) || (!(a0.Text == a1.Text)))) (p:=true) (q:=((a0.Attrs.length:Int) != (a1.Attrs.length:Int))) rfl rfl (fun hp6 => rfl) (fun hp6 => (cT (f_beq hp6)))) (pickOr (((a0.Kind != a1.Kind) || (!(a0.Name.Space == a1.Name.Space && (a0.Name.Local == a1.Name.Local && true)))) || (!(a0.Text == a1.Text))) ((a0.Attrs.length:Int) != (a1.Attrs.length:Int)))) rfl rfl ?_
   refine .rn 1 ?_
   refine OpsOk.consI rfl rfl rfl (.one rfl) rfl (fun hw7 => (VOk.g (VOk.to (VOk.fieldB rfl Tryz.underlying28 rfl sz26 rfl rfl) rfl))) ?_
   refine OpsOk.consI rfl rfl rfl (.one rfl) rfl (fun hw7 => (GOk.fr (fr':=[(39,(.bref 2 4))]) ⟨DLe.of_eq (cT hw7).symm,trivial⟩ (VOk.g (VOk.loadB (d:=(L 6 e_api_Node a0.Kids)) rfl Tryz.underlying26 rfl rfl rfl rfl)))) ?_
   refine OpsOk.consI rfl rfl rfl (.one rfl) rfl (fun hw7 => (GOk.fr (fr':=[(40,(L 6 e_api_Node a0.Kids))]) ⟨DLe.of_eq (cT hw7).symm,trivial⟩ (VOk.g (VOk.lenL (e:=e_api_Node) (xs:=a0.Kids) rfl Tryz.underlying26 rfl)))) ?_
   refine OpsOk.consI rfl rfl rfl (.one rfl) rfl (fun hw7 => (VOk.g (VOk.to (VOk.fieldB rfl Tryz.underlying28 rfl sz26 rfl rfl) rfl))) ?_
   refine OpsOk.consI rfl rfl rfl (.one rfl) rfl (fun hw7 => (GOk.fr (fr':=[(42,(.bref 3 4))]) ⟨DLe.of_eq (cT hw7).symm,trivial⟩ (VOk.g (VOk.loadB (d:=(L 6 e_api_Node a1.Kids)) rfl Tryz.underlying26 rfl rfl rfl rfl)))) ?_
   refine OpsOk.consI rfl rfl rfl (.one rfl) rfl (fun hw7 => (GOk.fr (fr':=[(43,(L 6 e_api_Node a1.Kids))]) ⟨DLe.of_eq (cT hw7).symm,trivial⟩ (VOk.g (VOk.lenL (e:=e_api_Node) (xs:=a1.Kids) rfl Tryz.underlying26 rfl)))) ?_
   refine OpsOk.consI rfl rfl rfl (.one rfl) rfl (fun hw7 => (GOk.fr (fr':=[(41,(.v (.int .i64 (a0.Kids.length:Int)))),(44,(.v (.int .i64 (a1.Kids.length:Int))))]) ⟨DLe.of_eq (cT hw7).symm,DLe.of_eq (cT hw7).symm,trivial⟩ (VOk.g (VOk.arith (op:=.neq) (k:=.i64) (a:=(a0.Kids.length:Int)) (b:=(a1.Kids.length:Int)) rfl rfl rfl rfl)))) ?_
   refine .cv (VOk.to (VOk.pickI (b:=((((a0.Kind != a1.Kind) || (!(a0.Name.Space == a1.Name.Space && (a0.Name.Local == a1.Name.Local && true)))) || (!(a0.Text == a1.Text))) || ((a0.Attrs.length:Int) != (a1.Attrs.length:Int)))) (p:=true) (q:=((a0.Kids.length:Int) != (a1.Kids.length:Int))) rfl rfl (fun hp8 => rfl) (fun hp8 => (cT (f_beq hp8)))) (pickOr ((((a0.Kind != a1.Kind) || (!(a0.Name.Space == a1.Name.Space && (a0.Name.Local == a1.Name.Local && true)))) || (!(a0.Text == a1.Text))) || ((a0.Attrs.length:Int) != (a1.Attrs.length:Int))) ((a0.Kids.length:Int) != (a1.Kids.length:Int)))) rfl rfl ?_
   exact .dn
  refine Ok.test (b:=(((((a0.Kind != a1.Kind) || (!(a0.Name.Space == a1.Name.Space && (a0.Name.Local == a1.Name.Local && true)))) || (!(a0.Text == a1.Text))) || ((a0.Attrs.length:Int) != (a1.Attrs.length:Int))) || ((a0.Kids.length:Int) != (a1.Kids.length:Int)))) rfl (fun hb110 => ?_) (fun hb110 => ?_)
  ·replace H:=ifT H hb110
   refine Ok.seq ?_
   refine .rg [(4,(.v (.bool false)))] [] ?_
   refine Ok.ret ?_
   obtain rfl:=Option.some.inj H
   exact⟨.inl rfl,⟨_,(.cons (.tmp rfl) .nil),rfl⟩,trivial⟩
  ·replace H:=ifF H hb110
   refine Ok.skip ?_
   refine Ok.seq ?_
   refine Ok.seq ?_
   refine .rg [(2,(.bref 2 0)),(3,(.bref 3 0)),(5,(.v (.int .i64 0)))] [(2,(bxN a0)),(3,(bxN a1))] ?_
   refine Ok.block ?_
   refine Ok.loop (fun m35 σ => ∃ (y2_0_10:Int) (y2_1_11:Str) (y2_2_12:Str) (y2_3_13:List T_api_Attr) (y2_4_14:List T_api_Node) (y2_5_15:Str) (y3_0_16:Int) (y3_1_17:Str) (y3_2_18:Str) (y3_3_19:List T_api_Attr) (y3_4_20:List T_api_Node) (y3_5_21:Str) (x5_9:Int),σ=⟨[(2,(.bref 2 0)),(3,(.bref 3 0)),(5,(.v (.int .i64 x5_9)))],[(2,(.box .ex [(.v (.int .i64 y2_0_10)),(S y2_1_11),(S y2_2_12),(L 3 e_api_Attr y2_3_13),(L 6 e_api_Node y2_4_14),(S y2_5_15)])),(3,(.box .ex [(.v (.int .i64 y3_0_16)),(S y3_1_17),(S y3_2_18),(L 3 e_api_Attr y3_3_19),(L 6 e_api_Node y3_4_20),(S y3_5_21)]))]⟩ ∧ watchbillref04_Same.l0 k (watchbillref04_Same k) m35 y2_0_10 y2_1_11 y2_2_12 y2_3_13 y2_4_14 y2_5_15 y3_0_16 y3_1_17 y3_2_18 y3_3_19 y3_4_20 y3_5_21 x5_9=some r) k ⟨a0.Kind,a0.Name.Space,a0.Name.Local,a0.Attrs,a0.Kids,a0.Text,a1.Kind,a1.Name.Space,a1.Name.Local,a1.Attrs,a1.Kids,a1.Text,0,rfl,H⟩ ?_
   rintro m35 σ ⟨y2_0_10,y2_1_11,y2_2_12,y2_3_13,y2_4_14,y2_5_15,y3_0_16,y3_1_17,y3_2_18,y3_3_19,y3_4_20,y3_5_21,x5_9,rfl,H⟩
   cases m35 with
   | zero => exact absurd H (by simp [watchbillref04_Same.l0])
   | succ m35 =>
    unfold watchbillref04_Same.l0 at H
    refine Ok.seq ?_
    refine Ok.seq ?_
    refine Ok.region (σ':=⟨[(2,(.bref 2 0)),(3,(.bref 3 0)),(5,(.v (.int .i64 x5_9))),(51,(.v (.bool (decide (x5_9 < (y2_3_13.length:Int))))))],[(2,(.box .ex [(.v (.int .i64 y2_0_10)),(S y2_1_11),(S y2_2_12),(L 3 e_api_Attr y2_3_13),(L 6 e_api_Node y2_4_14),(S y2_5_15)])),(3,(.box .ex [(.v (.int .i64 y3_0_16)),(S y3_1_17),(S y3_2_18),(L 3 e_api_Attr y3_3_19),(L 6 e_api_Node y3_4_20),(S y3_5_21)]))]⟩) ?_ ?_
    ·refine .rn 3 ?_
     refine .cv (VOk.lenL (e:=e_api_Attr) (xs:=y2_3_13) rfl Tryz.underlying25 rfl) rfl rfl ?_
     refine .rn 1 ?_
     exact .dn
    refine Ok.test (b:=(decide (x5_9 < (y2_3_13.length:Int)))) rfl (fun hb109 => ?_) (fun hb109 => ?_)
    ·replace H:=ifT H hb109
     refine Ok.skip ?_
     refine Ok.seq ?_
     refine Ok.block ?_
     refine Ok.seq ?_
     refine .rg [(2,(.bref 2 0)),(3,(.bref 3 0)),(5,(.v (.int .i64 x5_9))),(6,(.v (.int .i64 0))),(7,(.v (.int .i64 0)))] [(2,(.box .ex [(.v (.int .i64 y2_0_10)),(S y2_1_11),(S y2_2_12),(L 3 e_api_Attr y2_3_13),(L 6 e_api_Node y2_4_14),(S y2_5_15)])),(3,(.box .ex [(.v (.int .i64 y3_0_16)),(S y3_1_17),(S y3_2_18),(L 3 e_api_Attr y3_3_19),(L 6 e_api_Node y3_4_20),(S y3_5_21)]))] ?_
     refine Ok.seq ?_
     refine Ok.seq ?_
     refine .rg [(2,(.bref 2 0)),(3,(.bref 3 0)),(5,(.v (.int .i64 x5_9))),(6,(.v (.int .i64 0))),(7,(.v (.int .i64 0))),(8,(.v (.int .i64 0)))] [(2,(.box .ex [(.v (.int .i64 y2_0_10)),(S y2_1_11),(S y2_2_12),(L 3 e_api_Attr y2_3_13),(L 6 e_api_Node y2_4_14),(S y2_5_15)])),(3,(.box .ex [(.v (.int .i64 y3_0_16)),(S y3_1_17),(S y3_2_18),(L 3 e_api_Attr y3_3_19),(L 6 e_api_Node y3_4_20),(S y3_5_21)]))] ?_
     refine Ok.block ?_
     refine Ok.loop (fun m66 σ => ∃ (y2_0_39:Int) (y2_1_40:Str) (y2_2_41:Str) (y2_3_42:List T_api_Attr) (y2_4_43:List T_api_Node) (y2_5_44:Str) (y3_0_45:Int) (y3_1_46:Str) (y3_2_47:Str) (y3_3_48:List T_api_Attr) (y3_4_49:List T_api_Node) (y3_5_50:Str) (x6_36:Int) (x7_37:Int) (x8_38:Int),σ=⟨[(2,(.bref 2 0)),(3,(.bref 3 0)),(5,(.v (.int .i64 x5_9))),(6,(.v (.int .i64 x6_36))),(7,(.v (.int .i64 x7_37))),(8,(.v (.int .i64 x8_38)))],[(2,(.box .ex [(.v (.int .i64 y2_0_39)),(S y2_1_40),(S y2_2_41),(L 3 e_api_Attr y2_3_42),(L 6 e_api_Node y2_4_43),(S y2_5_44)])),(3,(.box .ex [(.v (.int .i64 y3_0_45)),(S y3_1_46),(S y3_2_47),(L 3 e_api_Attr y3_3_48),(L 6 e_api_Node y3_4_49),(S y3_5_50)]))]⟩ ∧ watchbillref04_Same.l1 k (watchbillref04_Same.l0 k (watchbillref04_Same k) m35) x5_9 m66 y2_0_39 y2_1_40 y2_2_41 y2_3_42 y2_4_43 y2_5_44 y3_0_45 y3_1_46 y3_2_47 y3_3_48 y3_4_49 y3_5_50 x6_36 x7_37 x8_38=some r) k ⟨y2_0_10,y2_1_11,y2_2_12,y2_3_13,y2_4_14,y2_5_15,y3_0_16,y3_1_17,y3_2_18,y3_3_19,y3_4_20,y3_5_21,0,0,0,rfl,H⟩ ?_
     rintro m66 σ ⟨y2_0_39,y2_1_40,y2_2_41,y2_3_42,y2_4_43,y2_5_44,y3_0_45,y3_1_46,y3_2_47,y3_3_48,y3_4_49,y3_5_50,x6_36,x7_37,x8_38,rfl,H⟩
     cases m66 with
     | zero => exact absurd H (by simp [watchbillref04_Same.l1])
     | succ m66 =>
      unfold watchbillref04_Same.l1 at H
      refine Ok.seq ?_
      refine Ok.seq ?_
      refine Ok.region (σ':=⟨[(2,(.bref 2 0)),(3,(.bref 3 0)),(5,(.v (.int .i64 x5_9))),(6,(.v (.int .i64 x6_36))),(7,(.v (.int .i64 x7_37))),(8,(.v (.int .i64 x8_38))),(58,(.v (.bool (decide (x8_38 < (y2_3_42.length:Int))))))],[(2,(.box .ex [(.v (.int .i64 y2_0_39)),(S y2_1_40),(S y2_2_41),(L 3 e_api_Attr y2_3_42),(L 6 e_api_Node y2_4_43),(S y2_5_44)])),(3,(.box .ex [(.v (.int .i64 y3_0_45)),(S y3_1_46),(S y3_2_47),(L 3 e_api_Attr y3_3_48),(L 6 e_api_Node y3_4_49),(S y3_5_50)]))]⟩) ?_ ?_
      ·refine .rn 3 ?_
       refine .cv (VOk.lenL (e:=e_api_Attr) (xs:=y2_3_42) rfl Tryz.underlying25 rfl) rfl rfl ?_
       refine .rn 1 ?_
       exact .dn
      refine Ok.test (b:=(decide (x8_38 < (y2_3_42.length:Int)))) rfl (fun hb75 => ?_) (fun hb75 => ?_)
      ·replace H:=ifT H hb75
       refine Ok.skip ?_
       refine Ok.seq ?_
       refine Ok.block ?_
       refine Ok.meet (fun σ => ∃ (x6_67:Int),σ=⟨[(2,(.bref 2 0)),(3,(.bref 3 0)),(5,(.v (.int .i64 x5_9))),(6,(.v (.int .i64 x6_67))),(7,(.v (.int .i64 x7_37))),(8,(.v (.int .i64 x8_38)))],[(2,(.box .ex [(.v (.int .i64 y2_0_39)),(S y2_1_40),(S y2_2_41),(L 3 e_api_Attr y2_3_42),(L 6 e_api_Node y2_4_43),(S y2_5_44)])),(3,(.box .ex [(.v (.int .i64 y3_0_45)),(S y3_1_46),(S y3_2_47),(L 3 e_api_Attr y3_3_48),(L 6 e_api_Node y3_4_49),(S y3_5_50)]))]⟩ ∧ watchbillref04_Same.j2 (watchbillref04_Same.l1 k (watchbillref04_Same.l0 k (watchbillref04_Same k) m35) x5_9 m66) x5_9 y2_0_39 y2_1_40 y2_2_41 y2_3_42 y2_4_43 y2_5_44 y3_0_45 y3_1_46 y3_2_47 y3_3_48 y3_4_49 y3_5_50 x7_37 x8_38 x6_67=some r) ?_ ?_
       ·refine Ok.seq ?_
        obtain⟨c71,H⟩:=assertE H
        obtain⟨c72,H⟩:=assertE H
        refine .dA [(2,(.bref 2 0)),(3,(.bref 3 0)),(5,(.v (.int .i64 x5_9))),(6,(.v (.int .i64 x6_36))),(7,(.v (.int .i64 x7_37))),(8,(.v (.int .i64 x8_38))),(71,(.v (.bool ((rd y2_3_42 x8_38).Name.Space == (rd y2_3_42 x5_9).Name.Space && ((rd y2_3_42 x8_38).Name.Local == (rd y2_3_42 x5_9).Name.Local && ((rd y2_3_42 x8_38).Value == (rd y2_3_42 x5_9).Value && true))))))] [(2,(.box .ex [(.v (.int .i64 y2_0_39)),(S y2_1_40),(S y2_2_41),(L 3 e_api_Attr y2_3_42),(L 6 e_api_Node y2_4_43),(S y2_5_44)])),(3,(.box .ex [(.v (.int .i64 y3_0_45)),(S y3_1_46),(S y3_2_47),(L 3 e_api_Attr y3_3_48),(L 6 e_api_Node y3_4_49),(S y3_5_50)]))] [[],[0],[],[1,2],[3],[],[5],[],[6,7],[8],[4,9]] mixed ?_ ?_
        ·refine .tn 3 ?_
         refine .tc (VOk.g (VOk.indexL (sz:=3) (e:=e_api_Attr) (xs:=y2_3_42) (i:=x8_38) rfl Tryz.underlying25 sz41 rfl rfl c71)) ?_
         refine .tn 4 ?_
         refine .tc (VOk.g (VOk.indexL (sz:=3) (e:=e_api_Attr) (xs:=y2_3_42) (i:=x5_9) rfl Tryz.underlying25 sz41 rfl rfl c72)) ?_
         refine .tn 1 ?_
         refine .tc (VOk.g (VOk.eqS' (op:=.eql) (d:=(.v (.bool ((rd y2_3_42 x8_38).Name.Space == (rd y2_3_42 x5_9).Name.Space && ((rd y2_3_42 x8_38).Name.Local == (rd y2_3_42 x5_9).Name.Local && ((rd y2_3_42 x8_38).Value == (rd y2_3_42 x5_9).Value && true)))))) rfl (.inl rfl) (eqt41 9997) ag41 eg41 rfl rfl rfl rfl)) ?_
         exact .dn
        refine Ok.test (b:=((rd y2_3_42 x8_38).Name.Space == (rd y2_3_42 x5_9).Name.Space && ((rd y2_3_42 x8_38).Name.Local == (rd y2_3_42 x5_9).Name.Local && ((rd y2_3_42 x8_38).Value == (rd y2_3_42 x5_9).Value && true)))) rfl (fun hb73 => ?_) (fun hb73 => ?_)
        ·replace H:=ifT H hb73
         refine .rg [(2,(.bref 2 0)),(3,(.bref 3 0)),(5,(.v (.int .i64 x5_9))),(6,(.v (.int .i64 (IntKind.i64.wrap (x6_36 + 1))))),(7,(.v (.int .i64 x7_37))),(8,(.v (.int .i64 x8_38)))] [(2,(.box .ex [(.v (.int .i64 y2_0_39)),(S y2_1_40),(S y2_2_41),(L 3 e_api_Attr y2_3_42),(L 6 e_api_Node y2_4_43),(S y2_5_44)])),(3,(.box .ex [(.v (.int .i64 y3_0_45)),(S y3_1_46),(S y3_2_47),(L 3 e_api_Attr y3_3_48),(L 6 e_api_Node y3_4_49),(S y3_5_50)]))] ?_
         exact⟨(IntKind.i64.wrap (x6_36 + 1)),rfl,H⟩
        ·replace H:=ifF H hb73
         refine Ok.le (σ':=⟨[(2,(.bref 2 0)),(3,(.bref 3 0)),(5,(.v (.int .i64 x5_9))),(6,(.v (.int .i64 x6_36))),(7,(.v (.int .i64 x7_37))),(8,(.v (.int .i64 x8_38)))],[(2,(.box .ex [(.v (.int .i64 y2_0_39)),(S y2_1_40),(S y2_2_41),(L 3 e_api_Attr y2_3_42),(L 6 e_api_Node y2_4_43),(S y2_5_44)])),(3,(.box .ex [(.v (.int .i64 y3_0_45)),(S y3_1_46),(S y3_2_47),(L 3 e_api_Attr y3_3_48),(L 6 e_api_Node y3_4_49),(S y3_5_50)]))]⟩) (.rf rfl rfl) ?_
         refine Ok.skip ?_
         exact⟨x6_36,rfl,H⟩
       ·rintro σ ⟨x6_67,rfl,H⟩
        unfold watchbillref04_Same.j2 at H
        refine Ok.seq ?_
        obtain⟨c68,H⟩:=assertE H
        obtain⟨c69,H⟩:=assertE H
        refine .dA [(2,(.bref 2 0)),(3,(.bref 3 0)),(5,(.v (.int .i64 x5_9))),(6,(.v (.int .i64 x6_67))),(7,(.v (.int .i64 x7_37))),(8,(.v (.int .i64 x8_38))),(84,(.v (.bool ((rd y3_3_48 x8_38).Name.Space == (rd y2_3_42 x5_9).Name.Space && ((rd y3_3_48 x8_38).Name.Local == (rd y2_3_42 x5_9).Name.Local && ((rd y3_3_48 x8_38).Value == (rd y2_3_42 x5_9).Value && true))))))] [(2,(.box .ex [(.v (.int .i64 y2_0_39)),(S y2_1_40),(S y2_2_41),(L 3 e_api_Attr y2_3_42),(L 6 e_api_Node y2_4_43),(S y2_5_44)])),(3,(.box .ex [(.v (.int .i64 y3_0_45)),(S y3_1_46),(S y3_2_47),(L 3 e_api_Attr y3_3_48),(L 6 e_api_Node y3_4_49),(S y3_5_50)]))] [[],[0],[],[1,2],[3],[],[5],[],[6,7],[8],[4,9]] mixed ?_ ?_
        ·refine .tn 3 ?_
         refine .tc (VOk.g (VOk.indexL (sz:=3) (e:=e_api_Attr) (xs:=y3_3_48) (i:=x8_38) rfl Tryz.underlying25 sz41 rfl rfl c68)) ?_
         refine .tn 4 ?_
         refine .tc (VOk.g (VOk.indexL (sz:=3) (e:=e_api_Attr) (xs:=y2_3_42) (i:=x5_9) rfl Tryz.underlying25 sz41 rfl rfl c69)) ?_
         refine .tn 1 ?_
         refine .tc (VOk.g (VOk.eqS' (op:=.eql) (d:=(.v (.bool ((rd y3_3_48 x8_38).Name.Space == (rd y2_3_42 x5_9).Name.Space && ((rd y3_3_48 x8_38).Name.Local == (rd y2_3_42 x5_9).Name.Local && ((rd y3_3_48 x8_38).Value == (rd y2_3_42 x5_9).Value && true)))))) rfl (.inl rfl) (eqt41 9997) ag41 eg41 rfl rfl rfl rfl)) ?_
         exact .dn
        refine Ok.test (b:=((rd y3_3_48 x8_38).Name.Space == (rd y2_3_42 x5_9).Name.Space && ((rd y3_3_48 x8_38).Name.Local == (rd y2_3_42 x5_9).Name.Local && ((rd y3_3_48 x8_38).Value == (rd y2_3_42 x5_9).Value && true)))) rfl (fun hb70 => ?_) (fun hb70 => ?_)
        ·replace H:=ifT H hb70
         refine .rg [(2,(.bref 2 0)),(3,(.bref 3 0)),(5,(.v (.int .i64 x5_9))),(6,(.v (.int .i64 x6_67))),(7,(.v (.int .i64 (IntKind.i64.wrap (x7_37 + 1))))),(8,(.v (.int .i64 x8_38)))] [(2,(.box .ex [(.v (.int .i64 y2_0_39)),(S y2_1_40),(S y2_2_41),(L 3 e_api_Attr y2_3_42),(L 6 e_api_Node y2_4_43),(S y2_5_44)])),(3,(.box .ex [(.v (.int .i64 y3_0_45)),(S y3_1_46),(S y3_2_47),(L 3 e_api_Attr y3_3_48),(L 6 e_api_Node y3_4_49),(S y3_5_50)]))] ?_
         refine .rg [(2,(.bref 2 0)),(3,(.bref 3 0)),(5,(.v (.int .i64 x5_9))),(6,(.v (.int .i64 x6_67))),(7,(.v (.int .i64 (IntKind.i64.wrap (x7_37 + 1))))),(8,(.v (.int .i64 (IntKind.i64.wrap (x8_38 + 1)))))] [(2,(.box .ex [(.v (.int .i64 y2_0_39)),(S y2_1_40),(S y2_2_41),(L 3 e_api_Attr y2_3_42),(L 6 e_api_Node y2_4_43),(S y2_5_44)])),(3,(.box .ex [(.v (.int .i64 y3_0_45)),(S y3_1_46),(S y3_2_47),(L 3 e_api_Attr y3_3_48),(L 6 e_api_Node y3_4_49),(S y3_5_50)]))] ?_
         exact⟨m66,Nat.lt_succ_self m66,y2_0_39,y2_1_40,y2_2_41,y2_3_42,y2_4_43,y2_5_44,y3_0_45,y3_1_46,y3_2_47,y3_3_48,y3_4_49,y3_5_50,x6_67,(IntKind.i64.wrap (x7_37 + 1)),(IntKind.i64.wrap (x8_38 + 1)),rfl,H⟩
        ·replace H:=ifF H hb70
         refine Ok.skip ?_
         refine .rg [(2,(.bref 2 0)),(3,(.bref 3 0)),(5,(.v (.int .i64 x5_9))),(6,(.v (.int .i64 x6_67))),(7,(.v (.int .i64 x7_37))),(8,(.v (.int .i64 (IntKind.i64.wrap (x8_38 + 1)))))] [(2,(.box .ex [(.v (.int .i64 y2_0_39)),(S y2_1_40),(S y2_2_41),(L 3 e_api_Attr y2_3_42),(L 6 e_api_Node y2_4_43),(S y2_5_44)])),(3,(.box .ex [(.v (.int .i64 y3_0_45)),(S y3_1_46),(S y3_2_47),(L 3 e_api_Attr y3_3_48),(L 6 e_api_Node y3_4_49),(S y3_5_50)]))] ?_
         exact⟨m66,Nat.lt_succ_self m66,y2_0_39,y2_1_40,y2_2_41,y2_3_42,y2_4_43,y2_5_44,y3_0_45,y3_1_46,y3_2_47,y3_3_48,y3_4_49,y3_5_50,x6_67,x7_37,(IntKind.i64.wrap (x8_38 + 1)),rfl,H⟩
      ·replace H:=ifF H hb75
       refine Ok.exit ?_
       refine Ok.seq ?_
       refine .rg [(2,(.bref 2 0)),(3,(.bref 3 0)),(5,(.v (.int .i64 x5_9))),(89,(.v (.bool (x6_36 != x7_37))))] [(2,(.box .ex [(.v (.int .i64 y2_0_39)),(S y2_1_40),(S y2_2_41),(L 3 e_api_Attr y2_3_42),(L 6 e_api_Node y2_4_43),(S y2_5_44)])),(3,(.box .ex [(.v (.int .i64 y3_0_45)),(S y3_1_46),(S y3_2_47),(L 3 e_api_Attr y3_3_48),(L 6 e_api_Node y3_4_49),(S y3_5_50)]))] ?_
       refine Ok.test (b:=(x6_36 != x7_37)) rfl (fun hb74 => ?_) (fun hb74 => ?_)
       ·replace H:=ifT H hb74
        refine Ok.seq ?_
        refine .rg [(4,(.v (.bool false)))] [] ?_
        refine Ok.ret ?_
        obtain rfl:=Option.some.inj H
        exact⟨.inl rfl,⟨_,(.cons (.tmp rfl) .nil),rfl⟩,trivial⟩
       ·replace H:=ifF H hb74
        refine Ok.skip ?_
        refine .rg [(2,(.bref 2 0)),(3,(.bref 3 0)),(5,(.v (.int .i64 (IntKind.i64.wrap (x5_9 + 1)))))] [(2,(.box .ex [(.v (.int .i64 y2_0_39)),(S y2_1_40),(S y2_2_41),(L 3 e_api_Attr y2_3_42),(L 6 e_api_Node y2_4_43),(S y2_5_44)])),(3,(.box .ex [(.v (.int .i64 y3_0_45)),(S y3_1_46),(S y3_2_47),(L 3 e_api_Attr y3_3_48),(L 6 e_api_Node y3_4_49),(S y3_5_50)]))] ?_
        exact⟨m35,Nat.lt_succ_self m35,y2_0_39,y2_1_40,y2_2_41,y2_3_42,y2_4_43,y2_5_44,y3_0_45,y3_1_46,y3_2_47,y3_3_48,y3_4_49,y3_5_50,(IntKind.i64.wrap (x5_9 + 1)),rfl,H⟩
    ·replace H:=ifF H hb109
     refine Ok.exit ?_
     refine Ok.seq ?_
     refine Ok.seq ?_
     refine .rg [(2,(.bref 2 0)),(3,(.bref 3 0)),(9,(.v (.int .i64 0)))] [(2,(.box .ex [(.v (.int .i64 y2_0_10)),(S y2_1_11),(S y2_2_12),(L 3 e_api_Attr y2_3_13),(L 6 e_api_Node y2_4_14),(S y2_5_15)])),(3,(.box .ex [(.v (.int .i64 y3_0_16)),(S y3_1_17),(S y3_2_18),(L 3 e_api_Attr y3_3_19),(L 6 e_api_Node y3_4_20),(S y3_5_21)]))] ?_
     refine Ok.block ?_
     refine Ok.loop (fun m102 σ => ∃ (y2_0_77:Int) (y2_1_78:Str) (y2_2_79:Str) (y2_3_80:List T_api_Attr) (y2_4_81:List T_api_Node) (y2_5_82:Str) (y3_0_83:Int) (y3_1_84:Str) (y3_2_85:Str) (y3_3_86:List T_api_Attr) (y3_4_87:List T_api_Node) (y3_5_88:Str) (x9_76:Int),σ=⟨[(2,(.bref 2 0)),(3,(.bref 3 0)),(9,(.v (.int .i64 x9_76)))],[(2,(.box .ex [(.v (.int .i64 y2_0_77)),(S y2_1_78),(S y2_2_79),(L 3 e_api_Attr y2_3_80),(L 6 e_api_Node y2_4_81),(S y2_5_82)])),(3,(.box .ex [(.v (.int .i64 y3_0_83)),(S y3_1_84),(S y3_2_85),(L 3 e_api_Attr y3_3_86),(L 6 e_api_Node y3_4_87),(S y3_5_88)]))]⟩ ∧ watchbillref04_Same.l3 k (watchbillref04_Same k) m102 y2_0_77 y2_1_78 y2_2_79 y2_3_80 y2_4_81 y2_5_82 y3_0_83 y3_1_84 y3_2_85 y3_3_86 y3_4_87 y3_5_88 x9_76=some r) k ⟨y2_0_10,y2_1_11,y2_2_12,y2_3_13,y2_4_14,y2_5_15,y3_0_16,y3_1_17,y3_2_18,y3_3_19,y3_4_20,y3_5_21,0,rfl,H⟩ ?_
     rintro m102 σ ⟨y2_0_77,y2_1_78,y2_2_79,y2_3_80,y2_4_81,y2_5_82,y3_0_83,y3_1_84,y3_2_85,y3_3_86,y3_4_87,y3_5_88,x9_76,rfl,H⟩
     cases m102 with
     | zero => exact absurd H (by simp [watchbillref04_Same.l3])
     | succ m102 =>
      unfold watchbillref04_Same.l3 at H
      refine Ok.seq ?_
      refine Ok.seq ?_
      refine Ok.region (σ':=⟨[(2,(.bref 2 0)),(3,(.bref 3 0)),(9,(.v (.int .i64 x9_76))),(94,(.v (.bool (decide (x9_76 < (y2_4_81.length:Int))))))],[(2,(.box .ex [(.v (.int .i64 y2_0_77)),(S y2_1_78),(S y2_2_79),(L 3 e_api_Attr y2_3_80),(L 6 e_api_Node y2_4_81),(S y2_5_82)])),(3,(.box .ex [(.v (.int .i64 y3_0_83)),(S y3_1_84),(S y3_2_85),(L 3 e_api_Attr y3_3_86),(L 6 e_api_Node y3_4_87),(S y3_5_88)]))]⟩) ?_ ?_
      ·refine .rn 3 ?_
       refine .cv (VOk.lenL (e:=e_api_Node) (xs:=y2_4_81) rfl Tryz.underlying26 rfl) rfl rfl ?_
       refine .rn 1 ?_
       exact .dn
      refine Ok.test (b:=(decide (x9_76 < (y2_4_81.length:Int)))) rfl (fun hb108 => ?_) (fun hb108 => ?_)
      ·replace H:=ifT H hb108
       refine Ok.skip ?_
       refine Ok.seq ?_
       refine Ok.block ?_
       refine Ok.seq ?_
       obtain⟨c103,H⟩:=assertE H
       obtain⟨c104,H⟩:=assertE H
       obtain⟨t105,h106,H⟩:=bindE H
       refine .dA [(2,(.bref 2 0)),(3,(.bref 3 0)),(9,(.v (.int .i64 x9_76))),(108,(.v (.bool (!t105))))] [(2,(.box .ex [(.v (.int .i64 y2_0_77)),(S y2_1_78),(S y2_2_79),(L 3 e_api_Attr y2_3_80),(L 6 e_api_Node y2_4_81),(S y2_5_82)])),(3,(.box .ex [(.v (.int .i64 y3_0_83)),(S y3_1_84),(S y3_2_85),(L 3 e_api_Attr y3_3_86),(L 6 e_api_Node y3_4_87),(S y3_5_88)]))] [[],[0],[],[1,2],[3],[],[5],[],[6,7],[8],[4,9],[10]] mixed ?_ ?_
       ·refine .tn 3 ?_
        refine .tc (VOk.g (VOk.indexL (sz:=6) (e:=e_api_Node) (xs:=y2_4_81) (i:=x9_76) rfl Tryz.underlying26 sz28 rfl rfl c103)) ?_
        refine .tn 4 ?_
        refine .tc (VOk.g (VOk.indexL (sz:=6) (e:=e_api_Node) (xs:=y3_4_87) (i:=x9_76) rfl Tryz.underlying26 sz28 rfl rfl c104)) ?_
        refine .tn 1 ?_
        refine .tc (GOk.call rfl rfl cl35 rfl (@ih _ _ _ h106) rfl) ?_
        refine .tn 1 ?_
        exact .dn
       refine Ok.test (b:=(!t105)) rfl (fun hb107 => ?_) (fun hb107 => ?_)
       ·replace H:=ifT H hb107
        refine Ok.seq ?_
        refine .rg [(4,(.v (.bool false)))] [] ?_
        refine Ok.ret ?_
        obtain rfl:=Option.some.inj H
        exact⟨.inl rfl,⟨_,(.cons (.tmp rfl) .nil),rfl⟩,trivial⟩
       ·replace H:=ifF H hb107
        refine Ok.skip ?_
        refine .rg [(2,(.bref 2 0)),(3,(.bref 3 0)),(9,(.v (.int .i64 (IntKind.i64.wrap (x9_76 + 1)))))] [(2,(.box .ex [(.v (.int .i64 y2_0_77)),(S y2_1_78),(S y2_2_79),(L 3 e_api_Attr y2_3_80),(L 6 e_api_Node y2_4_81),(S y2_5_82)])),(3,(.box .ex [(.v (.int .i64 y3_0_83)),(S y3_1_84),(S y3_2_85),(L 3 e_api_Attr y3_3_86),(L 6 e_api_Node y3_4_87),(S y3_5_88)]))] ?_
        exact⟨m102,Nat.lt_succ_self m102,y2_0_77,y2_1_78,y2_2_79,y2_3_80,y2_4_81,y2_5_82,y3_0_83,y3_1_84,y3_2_85,y3_3_86,y3_4_87,y3_5_88,(IntKind.i64.wrap (x9_76 + 1)),rfl,H⟩
      ·replace H:=ifF H hb108
       refine Ok.exit ?_
       refine Ok.seq ?_
       refine .rg [(4,(.v (.bool true)))] [] ?_
       refine Ok.ret ?_
       obtain rfl:=Option.some.inj H
       exact⟨.inl rfl,⟨_,(.cons (.tmp rfl) .nil),rfl⟩,trivial⟩
def watchbillref02_Same.l0 (k:Nat) (a0:List T_api_Attr) (a1:List T_api_Attr):Nat→Int→Option Bool
 | 0,_ => none
 | m3 + 1,x5_1 => (if (decide (x5_1 < (a0.length:Int)))=true then (if (0:Int) ≤ x5_1 ∧ x5_1 < (a0.length:Int) then (if (0:Int) ≤ x5_1 ∧ x5_1 < (a1.length:Int) then (if (!((rd a0 x5_1).Name.Space == (rd a1 x5_1).Name.Space && ((rd a0 x5_1).Name.Local == (rd a1 x5_1).Name.Local && ((rd a0 x5_1).Value == (rd a1 x5_1).Value && true))))=true then some false else watchbillref02_Same.l0 k a0 a1 m3 (IntKind.i64.wrap (x5_1 + 1))) else none) else none) else some true)
def watchbillref02_Same (k:Nat) (a0:List T_api_Attr) (a1:List T_api_Attr):Option Bool:=(if ((a0.length:Int) != (a1.length:Int))=true then some false else watchbillref02_Same.l0 k a0 a1 k 0)
theorem watchbillref02_Same.ok {k:Nat} {a0:List T_api_Attr} {a1:List T_api_Attr} {r:Bool} (H:watchbillref02_Same k a0 a1=some r):Vx.Fn Tryz.prog 36 [(L 3 e_api_Attr a0),(L 3 e_api_Attr a1)] [] (.v (.bool r)) []:=by
 unfold watchbillref02_Same at H
 refine Vx.Fn.of_okR Tryz.func36 rfl (Nat.le_of_ble_eq_true rfl) ?_
 refine Ok.seq ?_
 refine .rg [(0,(L 3 e_api_Attr a0)),(1,(L 3 e_api_Attr a1))] [] ?_
 refine Ok.seq ?_
 refine Ok.seq ?_
 refine Ok.region (σ':=⟨[(0,(L 3 e_api_Attr a0)),(1,(L 3 e_api_Attr a1)),(10,(.v (.bool ((a0.length:Int) != (a1.length:Int)))))],[]⟩) ?_ ?_
 ·refine .rn 1 ?_
  refine .cv (VOk.lenL (e:=e_api_Attr) (xs:=a0) rfl Tryz.underlying25 rfl) rfl rfl ?_
  refine .rn 1 ?_
  refine .cv (VOk.lenL (e:=e_api_Attr) (xs:=a1) rfl Tryz.underlying25 rfl) rfl rfl ?_
  refine .rn 1 ?_
  exact .dn
 refine Ok.test (b:=((a0.length:Int) != (a1.length:Int))) rfl (fun hb8 => ?_) (fun hb8 => ?_)
 ·replace H:=ifT H hb8
  refine Ok.seq ?_
  refine .rg [(4,(.v (.bool false)))] [] ?_
  refine Ok.ret ?_
  obtain rfl:=Option.some.inj H
  exact⟨.inl rfl,⟨_,(.cons (.tmp rfl) .nil),rfl⟩,trivial⟩
 ·replace H:=ifF H hb8
  refine Ok.skip ?_
  refine Ok.seq ?_
  refine Ok.seq ?_
  refine .rg [(0,(L 3 e_api_Attr a0)),(1,(L 3 e_api_Attr a1)),(5,(.v (.int .i64 0)))] [] ?_
  refine Ok.block ?_
  refine Ok.loop (fun m3 σ => ∃ (x5_1:Int),σ=⟨[(0,(L 3 e_api_Attr a0)),(1,(L 3 e_api_Attr a1)),(5,(.v (.int .i64 x5_1)))],[]⟩ ∧ watchbillref02_Same.l0 k a0 a1 m3 x5_1=some r) k ⟨0,rfl,H⟩ ?_
  rintro m3 σ ⟨x5_1,rfl,H⟩
  cases m3 with
  | zero => exact absurd H (by simp [watchbillref02_Same.l0])
  | succ m3 =>
   unfold watchbillref02_Same.l0 at H
   refine Ok.seq ?_
   refine Ok.seq ?_
   refine Ok.region (σ':=⟨[(0,(L 3 e_api_Attr a0)),(1,(L 3 e_api_Attr a1)),(5,(.v (.int .i64 x5_1))),(14,(.v (.bool (decide (x5_1 < (a0.length:Int))))))],[]⟩) ?_ ?_
   ·refine .rn 2 ?_
    refine .cv (VOk.lenL (e:=e_api_Attr) (xs:=a0) rfl Tryz.underlying25 rfl) rfl rfl ?_
    refine .rn 1 ?_
    exact .dn
   refine Ok.test (b:=(decide (x5_1 < (a0.length:Int)))) rfl (fun hb7 => ?_) (fun hb7 => ?_)
   ·replace H:=ifT H hb7
    refine Ok.skip ?_
    refine Ok.seq ?_
    refine Ok.block ?_
    refine Ok.seq ?_
    obtain⟨c4,H⟩:=assertE H
    obtain⟨c5,H⟩:=assertE H
    refine .dA [(0,(L 3 e_api_Attr a0)),(1,(L 3 e_api_Attr a1)),(5,(.v (.int .i64 x5_1))),(25,(.v (.bool (!((rd a0 x5_1).Name.Space == (rd a1 x5_1).Name.Space && ((rd a0 x5_1).Name.Local == (rd a1 x5_1).Name.Local && ((rd a0 x5_1).Value == (rd a1 x5_1).Value && true)))))))] [] [[],[],[0,1],[2],[],[],[4,5],[6],[3,7]] mixed ?_ ?_
    ·refine .tn 2 ?_
     refine .tc (VOk.g (VOk.indexL (sz:=3) (e:=e_api_Attr) (xs:=a0) (i:=x5_1) rfl Tryz.underlying25 sz41 rfl rfl c4)) ?_
     refine .tn 3 ?_
     refine .tc (VOk.g (VOk.indexL (sz:=3) (e:=e_api_Attr) (xs:=a1) (i:=x5_1) rfl Tryz.underlying25 sz41 rfl rfl c5)) ?_
     refine .tn 1 ?_
     refine .tc (VOk.g (VOk.eqS' (op:=.neq) (d:=(.v (.bool (!((rd a0 x5_1).Name.Space == (rd a1 x5_1).Name.Space && ((rd a0 x5_1).Name.Local == (rd a1 x5_1).Name.Local && ((rd a0 x5_1).Value == (rd a1 x5_1).Value && true))))))) rfl (.inr rfl) (eqt41 9997) ag41 eg41 rfl rfl rfl rfl)) ?_
     exact .dn
    refine Ok.test (b:=(!((rd a0 x5_1).Name.Space == (rd a1 x5_1).Name.Space && ((rd a0 x5_1).Name.Local == (rd a1 x5_1).Name.Local && ((rd a0 x5_1).Value == (rd a1 x5_1).Value && true))))) rfl (fun hb6 => ?_) (fun hb6 => ?_)
    ·replace H:=ifT H hb6
     refine Ok.seq ?_
     refine .rg [(4,(.v (.bool false)))] [] ?_
     refine Ok.ret ?_
     obtain rfl:=Option.some.inj H
     exact⟨.inl rfl,⟨_,(.cons (.tmp rfl) .nil),rfl⟩,trivial⟩
    ·replace H:=ifF H hb6
     refine Ok.skip ?_
     refine .rg [(0,(L 3 e_api_Attr a0)),(1,(L 3 e_api_Attr a1)),(5,(.v (.int .i64 (IntKind.i64.wrap (x5_1 + 1)))))] [] ?_
     exact⟨m3,Nat.lt_succ_self m3,(IntKind.i64.wrap (x5_1 + 1)),rfl,H⟩
   ·replace H:=ifF H hb7
    refine Ok.exit ?_
    refine Ok.seq ?_
    refine .rg [(4,(.v (.bool true)))] [] ?_
    refine Ok.ret ?_
    obtain rfl:=Option.some.inj H
    exact⟨.inl rfl,⟨_,(.cons (.tmp rfl) .nil),rfl⟩,trivial⟩
def watchbillref04_Equal.l0 (k:Nat) (self:T_api_Node→T_api_Node→Option Bool):Nat→Int→Str→Str→List T_api_Attr→List T_api_Node→Str→Int→Str→Str→List T_api_Attr→List T_api_Node→Str→Int→Option Bool
 | 0,_,_,_,_,_,_,_,_,_,_,_,_,_ => none
 | m33 + 1,y2_0_8,y2_1_9,y2_2_10,y2_3_11,y2_4_12,y2_5_13,y3_0_14,y3_1_15,y3_2_16,y3_3_17,y3_4_18,y3_5_19,x5_7 => (if (decide (x5_7 < (y2_4_12.length:Int)))=true then (if (0:Int) ≤ x5_7 ∧ x5_7 < (y2_4_12.length:Int) then (if (0:Int) ≤ x5_7 ∧ x5_7 < (y3_4_18.length:Int) then ((self (rd y2_4_12 x5_7) (rd y3_4_18 x5_7)).bind fun (t36:Bool) => (if (!t36)=true then some false else watchbillref04_Equal.l0 k self m33 y2_0_8 y2_1_9 y2_2_10 y2_3_11 y2_4_12 y2_5_13 y3_0_14 y3_1_15 y3_2_16 y3_3_17 y3_4_18 y3_5_19 (IntKind.i64.wrap (x5_7 + 1)))) else none) else none) else some true)
def watchbillref04_Equal:Nat→T_api_Node→T_api_Node→Option Bool
 | 0,_,_ => none
 | k + 1,a0,a1 => ((watchbillref04_Same k a0 a1).bind fun (t1:Bool) => (((if ((!t1) == false)=true then watchbillref02_Same k a0.Attrs a1.Attrs else some default)).bind fun (t4:Bool) => (if ((!t1) || (!t4))=true then some false else watchbillref04_Equal.l0 k (watchbillref04_Equal k) k a0.Kind a0.Name.Space a0.Name.Local a0.Attrs a0.Kids a0.Text a1.Kind a1.Name.Space a1.Name.Local a1.Attrs a1.Kids a1.Text 0)))
theorem watchbillref04_Equal.ok {k:Nat} {a0:T_api_Node} {a1:T_api_Node} {r:Bool} (H:watchbillref04_Equal k a0 a1=some r):Vx.Fn Tryz.prog 19 [(.agg (e_api_Node a0)),(.agg (e_api_Node a1))] [] (.v (.bool r)) []:=by
 induction k generalizing a0 a1 r with
 | zero => exact absurd H (by simp [watchbillref04_Equal])
 | succ k ih =>
  unfold watchbillref04_Equal at H
  refine Vx.Fn.of_okR Tryz.func19 rfl (Nat.le_of_ble_eq_true rfl) ?_
  refine Ok.seq ?_
  refine Ok.region (σ':=⟨[(2,(.bref 2 0)),(3,(.bref 3 0))],[(2,(bxN a0)),(3,(bxN a1))]⟩) ?_ ?_
  ·refine OpsOk.cut1 0 (.agg (c_api_Node a0)) (DLe.of_eq (congrArg D.agg (e_api_Node_c _).symm)) ?_
   refine .rn 1 ?_
   refine OpsOk.cut1 1 (.agg (c_api_Node a1)) (DLe.of_eq (congrArg D.agg (e_api_Node_c _).symm)) ?_
   refine .rn 2 ?_
   exact .dn
  refine Ok.seq ?_
  refine Ok.seq ?_
  obtain⟨t1,h2,H⟩:=bindE H
  obtain⟨t4,h5,H⟩:=bindE H
  refine Ok.region (σ':=⟨[(2,(.bref 2 0)),(3,(.bref 3 0)),(17,(.v (.bool ((!t1) || (!t4)))))],[(2,(bxN a0)),(3,(bxN a1))]⟩) ?_ ?_
  ·refine .cv (VOk.to (d':=(.agg (e_api_Node a0))) (.loadBAgg rfl Tryz.underlying28 rfl sz28 rfl rfl rfl) (congrArg D.agg (e_api_Node_c a0).symm)) rfl rfl ?_
   refine .cv (VOk.to (d':=(.agg (e_api_Node a1))) (.loadBAgg rfl Tryz.underlying28 rfl sz28 rfl rfl rfl) (congrArg D.agg (e_api_Node_c a1).symm)) rfl rfl ?_
   refine .cg (GOk.call rfl rfl cl35 rfl (watchbillref04_Same.ok h2) rfl) rfl rfl ?_
   refine .rn 2 ?_
   refine OpsOk.consI rfl rfl rfl (.one rfl) rfl (fun hw3 => (VOk.g (VOk.to (VOk.fieldB rfl Tryz.underlying28 rfl sz25 rfl rfl) rfl))) ?_
   refine OpsOk.consI rfl rfl rfl (.one rfl) rfl (fun hw3 => (GOk.fr (fr':=[(11,(.bref 2 3))]) ⟨DLe.of_eq (cT hw3).symm,trivial⟩ (VOk.g (VOk.loadB (d:=(L 3 e_api_Attr a0.Attrs)) rfl Tryz.underlying25 rfl rfl rfl rfl)))) ?_
   refine OpsOk.consI rfl rfl rfl (.one rfl) rfl (fun hw3 => (VOk.g (VOk.to (VOk.fieldB rfl Tryz.underlying28 rfl sz25 rfl rfl) rfl))) ?_
   refine OpsOk.consI rfl rfl rfl (.one rfl) rfl (fun hw3 => (GOk.fr (fr':=[(13,(.bref 3 3))]) ⟨DLe.of_eq (cT hw3).symm,trivial⟩ (VOk.g (VOk.loadB (d:=(L 3 e_api_Attr a1.Attrs)) rfl Tryz.underlying25 rfl rfl rfl rfl)))) ?_
   refine OpsOk.consI rfl rfl rfl (.one rfl) rfl (fun hw3 => (GOk.fr (fr':=[(12,(L 3 e_api_Attr a0.Attrs)),(14,(L 3 e_api_Attr a1.Attrs))]) ⟨DLe.of_eq (cT hw3).symm,DLe.of_eq (cT hw3).symm,trivial⟩ (GOk.call rfl rfl cl36 rfl (watchbillref02_Same.ok (ifT h5 hw3)) rfl))) ?_
   refine OpsOk.consI rfl rfl rfl (.one rfl) rfl (fun hw3 => (GOk.fr (fr':=[(15,(.v (.bool t4)))]) ⟨DLe.of_eq (cT hw3).symm,trivial⟩ (VOk.g (VOk.not (b:=t4) rfl rfl)))) ?_
   refine .cv (VOk.to (VOk.pickI (b:=(!t1)) (p:=true) (q:=(!t4)) rfl rfl (fun hp6 => rfl) (fun hp6 => (cT (f_beq hp6)))) (pickOr (!t1) (!t4))) rfl rfl ?_
   exact .dn
  refine Ok.test (b:=((!t1) || (!t4))) rfl (fun hb40 => ?_) (fun hb40 => ?_)
  ·replace H:=ifT H hb40
   refine Ok.seq ?_
   refine .rg [(4,(.v (.bool false)))] [] ?_
   refine Ok.ret ?_
   obtain rfl:=Option.some.inj H
   exact⟨.inl rfl,⟨_,(.cons (.tmp rfl) .nil),rfl⟩,trivial⟩
  ·replace H:=ifF H hb40
   refine Ok.skip ?_
   refine Ok.seq ?_
   refine Ok.seq ?_
   refine .rg [(2,(.bref 2 0)),(3,(.bref 3 0)),(5,(.v (.int .i64 0)))] [(2,(bxN a0)),(3,(bxN a1))] ?_
   refine Ok.block ?_
   refine Ok.loop (fun m33 σ => ∃ (y2_0_8:Int) (y2_1_9:Str) (y2_2_10:Str) (y2_3_11:List T_api_Attr) (y2_4_12:List T_api_Node) (y2_5_13:Str) (y3_0_14:Int) (y3_1_15:Str) (y3_2_16:Str) (y3_3_17:List T_api_Attr) (y3_4_18:List T_api_Node) (y3_5_19:Str) (x5_7:Int),σ=⟨[(2,(.bref 2 0)),(3,(.bref 3 0)),(5,(.v (.int .i64 x5_7)))],[(2,(.box .ex [(.v (.int .i64 y2_0_8)),(S y2_1_9),(S y2_2_10),(L 3 e_api_Attr y2_3_11),(L 6 e_api_Node y2_4_12),(S y2_5_13)])),(3,(.box .ex [(.v (.int .i64 y3_0_14)),(S y3_1_15),(S y3_2_16),(L 3 e_api_Attr y3_3_17),(L 6 e_api_Node y3_4_18),(S y3_5_19)]))]⟩ ∧ watchbillref04_Equal.l0 k (watchbillref04_Equal k) m33 y2_0_8 y2_1_9 y2_2_10 y2_3_11 y2_4_12 y2_5_13 y3_0_14 y3_1_15 y3_2_16 y3_3_17 y3_4_18 y3_5_19 x5_7=some r) k ⟨a0.Kind,a0.Name.Space,a0.Name.Local,a0.Attrs,a0.Kids,a0.Text,a1.Kind,a1.Name.Space,a1.Name.Local,a1.Attrs,a1.Kids,a1.Text,0,rfl,H⟩ ?_
   rintro m33 σ ⟨y2_0_8,y2_1_9,y2_2_10,y2_3_11,y2_4_12,y2_5_13,y3_0_14,y3_1_15,y3_2_16,y3_3_17,y3_4_18,y3_5_19,x5_7,rfl,H⟩
   cases m33 with
   | zero => exact absurd H (by simp [watchbillref04_Equal.l0])
   | succ m33 =>
    unfold watchbillref04_Equal.l0 at H
    refine Ok.seq ?_
    refine Ok.seq ?_
    refine Ok.region (σ':=⟨[(2,(.bref 2 0)),(3,(.bref 3 0)),(5,(.v (.int .i64 x5_7))),(22,(.v (.bool (decide (x5_7 < (y2_4_12.length:Int))))))],[(2,(.box .ex [(.v (.int .i64 y2_0_8)),(S y2_1_9),(S y2_2_10),(L 3 e_api_Attr y2_3_11),(L 6 e_api_Node y2_4_12),(S y2_5_13)])),(3,(.box .ex [(.v (.int .i64 y3_0_14)),(S y3_1_15),(S y3_2_16),(L 3 e_api_Attr y3_3_17),(L 6 e_api_Node y3_4_18),(S y3_5_19)]))]⟩) ?_ ?_
    ·refine .rn 3 ?_
     refine .cv (VOk.lenL (e:=e_api_Node) (xs:=y2_4_12) rfl Tryz.underlying26 rfl) rfl rfl ?_
     refine .rn 1 ?_
     exact .dn
    refine Ok.test (b:=(decide (x5_7 < (y2_4_12.length:Int)))) rfl (fun hb39 => ?_) (fun hb39 => ?_)
    ·replace H:=ifT H hb39
     refine Ok.skip ?_
     refine Ok.seq ?_
     refine Ok.block ?_
     refine Ok.seq ?_
     obtain⟨c34,H⟩:=assertE H
     obtain⟨c35,H⟩:=assertE H
     obtain⟨t36,h37,H⟩:=bindE H
     refine .dA [(2,(.bref 2 0)),(3,(.bref 3 0)),(5,(.v (.int .i64 x5_7))),(36,(.v (.bool (!t36))))] [(2,(.box .ex [(.v (.int .i64 y2_0_8)),(S y2_1_9),(S y2_2_10),(L 3 e_api_Attr y2_3_11),(L 6 e_api_Node y2_4_12),(S y2_5_13)])),(3,(.box .ex [(.v (.int .i64 y3_0_14)),(S y3_1_15),(S y3_2_16),(L 3 e_api_Attr y3_3_17),(L 6 e_api_Node y3_4_18),(S y3_5_19)]))] [[],[0],[],[1,2],[3],[],[5],[],[6,7],[8],[4,9],[10]] mixed ?_ ?_
     ·refine .tn 3 ?_
      refine .tc (VOk.g (VOk.indexL (sz:=6) (e:=e_api_Node) (xs:=y2_4_12) (i:=x5_7) rfl Tryz.underlying26 sz28 rfl rfl c34)) ?_
      refine .tn 4 ?_
      refine .tc (VOk.g (VOk.indexL (sz:=6) (e:=e_api_Node) (xs:=y3_4_18) (i:=x5_7) rfl Tryz.underlying26 sz28 rfl rfl c35)) ?_
      refine .tn 1 ?_
      refine .tc (GOk.call rfl rfl cl19 rfl (@ih _ _ _ h37) rfl) ?_
      refine .tn 1 ?_
      exact .dn
     refine Ok.test (b:=(!t36)) rfl (fun hb38 => ?_) (fun hb38 => ?_)
     ·replace H:=ifT H hb38
      refine Ok.seq ?_
      refine .rg [(4,(.v (.bool false)))] [] ?_
      refine Ok.ret ?_
      obtain rfl:=Option.some.inj H
      exact⟨.inl rfl,⟨_,(.cons (.tmp rfl) .nil),rfl⟩,trivial⟩
     ·replace H:=ifF H hb38
      refine Ok.skip ?_
      refine .rg [(2,(.bref 2 0)),(3,(.bref 3 0)),(5,(.v (.int .i64 (IntKind.i64.wrap (x5_7 + 1)))))] [(2,(.box .ex [(.v (.int .i64 y2_0_8)),(S y2_1_9),(S y2_2_10),(L 3 e_api_Attr y2_3_11),(L 6 e_api_Node y2_4_12),(S y2_5_13)])),(3,(.box .ex [(.v (.int .i64 y3_0_14)),(S y3_1_15),(S y3_2_16),(L 3 e_api_Attr y3_3_17),(L 6 e_api_Node y3_4_18),(S y3_5_19)]))] ?_
      exact⟨m33,Nat.lt_succ_self m33,y2_0_8,y2_1_9,y2_2_10,y2_3_11,y2_4_12,y2_5_13,y3_0_14,y3_1_15,y3_2_16,y3_3_17,y3_4_18,y3_5_19,(IntKind.i64.wrap (x5_7 + 1)),rfl,H⟩
    ·replace H:=ifF H hb39
     refine Ok.exit ?_
     refine Ok.seq ?_
     refine .rg [(4,(.v (.bool true)))] [] ?_
     refine Ok.ret ?_
     obtain rfl:=Option.some.inj H
     exact⟨.inl rfl,⟨_,(.cons (.tmp rfl) .nil),rfl⟩,trivial⟩
end Go.Proofs.YtapbckofgcmgmaaGreatDoor.Sh
