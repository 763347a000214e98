import Derived.Test.YtjhbedgepfkdbaaPureT
namespace Go.Proofs.Ytjhbedgepfkdbaa.Sh
open Go Go.RowKit Go.Proofs.Vx
set_option linter.unusedVariables false
set_option maxRecDepth 100000
set_option maxHeartbeats 1000000
def watchbilllaw06_awake (k:Nat):Option Bool:=((watchbilllaw06_one ([]:List T_api_Node)).bind fun (t1:T_api_Node) => ((watchbilllaw06_one ([(T_api_Node.mk 2 (T_api_Name.mk ([]:Str) ([]:Str)) ([]:List T_api_Attr) ([]:List T_api_Node) ([120]:Str)),t1,(T_api_Node.mk 2 (T_api_Name.mk ([]:Str) ([]:Str)) ([]:List T_api_Attr) ([]:List T_api_Node) ([121]:Str))]:List T_api_Node)).bind fun (t3:T_api_Node) => ((path_Remove k t3 ([1]:List Int)).bind fun (t5:T_api_Node × Bool) => ((watchbilllaw06_one ([]:List T_api_Node)).bind fun (t7:T_api_Node) => ((path_Insert k t3 t7 0 ([]:List Int)).bind fun (t9:T_api_Node × Bool) => ((path_At k t3 ([3]:List Int)).bind fun (t11:T_api_Node × Bool) => (if (((t5.2 && ((t5.1.Kids.length:Int) == 1)) == true)=true→(0:Int) ≤ 0 ∧ 0 < (t5.1.Kids.length:Int)) then (((if ((((((t5.2 && ((t5.1.Kids.length:Int) == 1)) && (((rd t5.1.Kids 0).Text) == ([120,121]:Str))) && t9.2) && ((t9.1.Kids.length:Int) == 4)) && (!t11.2)) == true)=true then path_Places k t3 else some default)).bind fun (t25:(List (List Int))) => some ((((((t5.2 && ((t5.1.Kids.length:Int) == 1)) && (((rd t5.1.Kids 0).Text) == ([120,121]:Str))) && t9.2) && ((t9.1.Kids.length:Int) == 4)) && (!t11.2)) && ((t25.length:Int) == 2))) else none)))))))
theorem watchbilllaw06_awake.ok {k:Nat} {r:Bool} (H:watchbilllaw06_awake k=some r):Vx.Fn Try.prog 6 [] [] (.v (.bool r)) []:=by
 unfold watchbilllaw06_awake at H
 refine Vx.Fn.of_okR Try.func6 rfl (Nat.le_of_ble_eq_true rfl) ?_
 refine Ok.seq ?_
 refine .rg [] [] ?_
 refine Ok.seq ?_
 obtain⟨t1,h2,H⟩:=bindE H
 obtain⟨t3,h4,H⟩:=bindE H
 refine Ok.region (σ':=⟨[(1,(.bref 1 0))],[(1,(bxN t3))]⟩) ?_ ?_
 ·refine .cv (VOk.to (d':=(.agg (e_api_Node (T_api_Node.mk 2 (T_api_Name.mk ([]:Str) ([]:Str)) ([]:List T_api_Attr) ([]:List T_api_Node) ([120]:Str))))) (.build [none,none,none,some 3,some 6,none] [(0,1),(1,2),(3,1),(4,1),(5,1)] rfl Try.underlying27 (fa27 Try.underlying27) zo27 rfl rfl) (congrArg D.agg (e_api_Node_c (T_api_Node.mk 2 (T_api_Name.mk ([]:Str) ([]:Str)) ([]:List T_api_Attr) ([]:List T_api_Node) ([120]:Str))).symm)) rfl rfl ?_
  refine .cg (GOk.call rfl rfl cl25 rfl (Fn.weak (ds:=[(L 6 e_api_Node ([]:List T_api_Node))]) (watchbilllaw06_one.ok h2) ⟨.nil _,trivial⟩) rfl) rfl rfl ?_
  refine .cv (VOk.to (d':=(.agg (e_api_Node (T_api_Node.mk 2 (T_api_Name.mk ([]:Str) ([]:Str)) ([]:List T_api_Attr) ([]:List T_api_Node) ([121]:Str))))) (.build [none,none,none,some 3,some 6,none] [(0,1),(1,2),(3,1),(4,1),(5,1)] rfl Try.underlying27 (fa27 Try.underlying27) zo27 rfl rfl) (congrArg D.agg (e_api_Node_c (T_api_Node.mk 2 (T_api_Name.mk ([]:Str) ([]:Str)) ([]:List T_api_Attr) ([]:List T_api_Node) ([121]:Str))).symm)) rfl rfl ?_
  refine .cg (GOk.to (d':=(L 6 e_api_Node ([(T_api_Node.mk 2 (T_api_Name.mk ([]:Str) ([]:Str)) ([]:List T_api_Attr) ([]:List T_api_Node) ([120]:Str)),t1,(T_api_Node.mk 2 (T_api_Name.mk ([]:Str) ([]:Str)) ([]:List T_api_Attr) ([]:List T_api_Node) ([121]:Str))]:List T_api_Node))) (GOk.lit rfl Try.underlying25 sz27 zs27 rfl rfl rfl rfl) rfl) rfl rfl ?_
  refine .cg (GOk.call rfl rfl cl25 rfl (watchbilllaw06_one.ok h4) rfl) rfl rfl ?_
  refine .rn 1 ?_
  refine OpsOk.cut1 12 (.agg (c_api_Node t3)) (DLe.of_eq (congrArg D.agg (e_api_Node_c _).symm)) ?_
  refine .rn 1 ?_
  exact .dn
 refine Ok.seq ?_
 obtain⟨t5,h6,H⟩:=bindE H
 refine Ok.region (σ':=⟨[(1,(.bref 1 0)),(2,(.bref 2 0)),(3,(.v (.bool t5.2)))],[(1,(bxN t3)),(2,(.box .ex (c_api_Node t5.1)))]⟩) ?_ ?_
 ·refine .cv (VOk.to (d':=(.agg (e_api_Node t3))) (.loadBAgg rfl Try.underlying27 rfl sz27 rfl rfl rfl) (congrArg D.agg (e_api_Node_c t3).symm)) rfl rfl ?_
  refine .cg (GOk.to (d':=(L 1 (eI .i64) ([1]:List Int))) (GOk.lit rfl Try.underlying28 sz3 zs3 rfl rfl rfl rfl) rfl) rfl rfl ?_
  refine .cg (GOk.call rfl rfl cl21 rfl (path_Remove.ok h6) rfl) rfl rfl ?_
  refine .rn 4 ?_
  refine OpsOk.cut1 17 (.agg [(.v (.int .i64 t5.1.Kind)),(S t5.1.Name.Space),(S t5.1.Name.Local),(L 3 e_api_Attr t5.1.Attrs),(L 6 e_api_Node t5.1.Kids),(S t5.1.Text)]) (DLe.of_eq (congrArg D.agg (e_api_Node_c _).symm)) ?_
  refine .rn 2 ?_
  exact .dn
 refine Ok.seq ?_
 obtain⟨t7,h8,H⟩:=bindE H
 obtain⟨t9,h10,H⟩:=bindE H
 refine Ok.le (σ':=⟨[(1,(.bref 1 0)),(2,(.bref 2 0)),(3,(.v (.bool t5.2)))],[(1,(bxN t3)),(2,(.box .ex (c_api_Node t5.1)))]⟩) (.rf rfl rfl) ?_
 refine .dU [(1,(.bref 1 0)),(2,(.bref 2 0)),(3,(.v (.bool t5.2))),(4,(.bref 4 0)),(5,(.v (.bool t9.2)))] [(1,(bxN t3)),(2,(.box .ex (c_api_Node t5.1))),(4,(.box .ex (c_api_Node t9.1)))] [[],[],[0,1],[2],[3],[3],[],[4,6],[5]] mixed ?_ ?_
 ·refine .uc ⟨true,[(1,(.bref 1 0))],[(1,(bxN t3))],(.agg (e_api_Node t3)),[],false,[]⟩ ⟨.same _,trivial⟩ ⟨rfl,trivial⟩ (It2.val rfl rfl (fun T hT => (VOk.g (VOk.to (d':=(.agg (e_api_Node t3))) (.loadBAgg rfl Try.underlying27 rfl sz27 rfl hT.1 rfl) (congrArg D.agg (e_api_Node_c t3).symm))))) ?_
  refine .uc ⟨true,[],[],(.agg (e_api_Node t7)),[],false,[]⟩ trivial trivial (It2.val rfl rfl (fun T hT => (GOk.call rfl rfl cl25 rfl (Fn.weak (ds:=[(L 6 e_api_Node ([]:List T_api_Node))]) (watchbilllaw06_one.ok h8) ⟨.nil _,trivial⟩) rfl))) ?_
  refine .uc ⟨true,[(20,(.agg (e_api_Node t3))),(21,(.agg (e_api_Node t7)))],[],(.tup [(.agg (e_api_Node t9.1)),(.v (.bool t9.2))]),[],false,[]⟩ ⟨.same _,.same _,trivial⟩ trivial (It2.val rfl rfl (fun T hT => (GOk.call rfl rfl cl20 rfl (Fn.weak (ds:=[(.agg (e_api_Node t3)),(.agg (e_api_Node t7)),(.v (.int .i64 0)),(L 1 (eI .i64) ([]:List Int))]) (path_Insert.ok h10) ⟨.same _,.same _,.same _,.nil _,trivial⟩) rfl))) ?_
  refine .un 4 ?_
  refine .uc ⟨true,[(4,(.bref 4 0)),(23,(.agg [(.v (.int .i64 t9.1.Kind)),(S t9.1.Name.Space),(S t9.1.Name.Local),(L 3 e_api_Attr t9.1.Attrs),(L 6 e_api_Node t9.1.Kids),(S t9.1.Text)]))],[(4,bx0)],.junk,[(4,(.box .ex (c_api_Node t9.1)))],false,[]⟩ ⟨.same _,DLe.of_eq (congrArg D.agg (e_api_Node_c _).symm),trivial⟩ ⟨rfl,trivial⟩ (It2.store rfl rfl sz27 rfl rfl rfl rfl rfl rfl rfl rfl) ?_
  refine .un 1 ?_
  exact .dn
 refine Ok.seq ?_
 obtain⟨t11,h12,H⟩:=bindE H
 refine Ok.region (σ':=⟨[(1,(.bref 1 0)),(2,(.bref 2 0)),(3,(.v (.bool t5.2))),(4,(.bref 4 0)),(5,(.v (.bool t9.2))),(7,(.v (.bool t11.2)))],[(1,(bxN t3)),(2,(.box .ex (c_api_Node t5.1))),(4,(.box .ex (c_api_Node t9.1)))]⟩) ?_ ?_
 ·refine .cv (VOk.to (d':=(.agg (e_api_Node t3))) (.loadBAgg rfl Try.underlying27 rfl sz27 rfl rfl rfl) (congrArg D.agg (e_api_Node_c t3).symm)) rfl rfl ?_
  refine .cg (GOk.to (d':=(L 1 (eI .i64) ([3]:List Int))) (GOk.lit rfl Try.underlying28 sz3 zs3 rfl rfl rfl rfl) rfl) rfl rfl ?_
  refine .cg (GOk.call rfl rfl cl8 rfl (path_At.ok h12) rfl) rfl rfl ?_
  refine .rn 4 ?_
  refine OpsOk.cut1 29 (.agg [(.v (.int .i64 t11.1.Kind)),(S t11.1.Name.Space),(S t11.1.Name.Local),(L 3 e_api_Attr t11.1.Attrs),(L 6 e_api_Node t11.1.Kids),(S t11.1.Text)]) (DLe.of_eq (congrArg D.agg (e_api_Node_c _).symm)) ?_
  refine .rn 2 ?_
  exact .dn
 refine Ok.seq ?_
 obtain⟨c16,H⟩:=assertE H
 obtain⟨t25,h26,H⟩:=bindE H
 refine Ok.region (σ':=⟨[(0,(.v (.bool ((((((t5.2 && ((t5.1.Kids.length:Int) == 1)) && (((rd t5.1.Kids 0).Text) == ([120,121]:Str))) && t9.2) && ((t9.1.Kids.length:Int) == 4)) && (!t11.2)) && ((t25.length:Int) == 2)))))],[]⟩) ?_ ?_
 ·refine .rn 2 ?_
  refine OpsOk.consI rfl rfl rfl (.one rfl) rfl (fun hw13 => (VOk.g (VOk.to (VOk.fieldB rfl Try.underlying27 rfl sz25 rfl rfl) rfl))) ?_
  refine OpsOk.consI rfl rfl rfl (.one rfl) rfl (fun hw13 => (GOk.fr (fr':=[(33,(.bref 2 4))]) ⟨DLe.of_eq (cT hw13).symm,trivial⟩ (VOk.g (VOk.loadB (d:=(L 6 e_api_Node t5.1.Kids)) rfl Try.underlying25 rfl rfl rfl rfl)))) ?_
  refine OpsOk.consI rfl rfl rfl (.one rfl) rfl (fun hw13 => (GOk.fr (fr':=[(34,(L 6 e_api_Node t5.1.Kids))]) ⟨DLe.of_eq (cT hw13).symm,trivial⟩ (VOk.g (VOk.lenL (e:=e_api_Node) (xs:=t5.1.Kids) rfl Try.underlying25 rfl)))) ?_
  refine OpsOk.consI rfl rfl rfl (.one rfl) rfl (fun hw13 => (GOk.fr (fr':=[(35,(.v (.int .i64 (t5.1.Kids.length:Int))))]) ⟨DLe.of_eq (cT hw13).symm,trivial⟩ (VOk.g (VOk.arith (op:=.eql) (k:=.i64) (a:=(t5.1.Kids.length:Int)) (b:=1) rfl rfl rfl rfl)))) ?_
  refine .cv (VOk.to (VOk.pickI (b:=t5.2) (p:=((t5.1.Kids.length:Int) == 1)) (q:=false) rfl rfl (fun hp14 => (cT (t_beq hp14))) (fun hp14 => rfl)) (pickAnd t5.2 ((t5.1.Kids.length:Int) == 1))) rfl rfl ?_
  refine .rn 1 ?_
  refine OpsOk.consI rfl rfl rfl (.one rfl) rfl (fun hw15 => (VOk.g (VOk.to (VOk.fieldB rfl Try.underlying27 rfl sz25 rfl rfl) rfl))) ?_
  refine OpsOk.consI rfl rfl rfl (.one rfl) rfl (fun hw15 => (GOk.fr (fr':=[(39,(.bref 2 4))]) ⟨DLe.of_eq (cT hw15).symm,trivial⟩ (VOk.g (VOk.loadB (d:=(L 6 e_api_Node t5.1.Kids)) rfl Try.underlying25 rfl rfl rfl rfl)))) ?_
  refine OpsOk.consI rfl rfl rfl (.one rfl) rfl (fun hw15 => (GOk.fr (fr':=[(40,(L 6 e_api_Node t5.1.Kids))]) ⟨DLe.of_eq (cT hw15).symm,trivial⟩ (VOk.g (VOk.indexL (sz:=6) (e:=e_api_Node) (xs:=t5.1.Kids) (i:=0) rfl Try.underlying25 sz27 rfl rfl (c16 hw15))))) ?_
  refine OpsOk.consI rfl rfl rfl (.one rfl) rfl (fun hw15 => (GOk.fr (fr':=[(41,(.fp (e_api_Node (rd t5.1.Kids 0)) 0))]) ⟨DLe.of_eq (cT hw15).symm,trivial⟩ (VOk.g (VOk.to (VOk.fieldFp rfl Try.underlying27 rfl sz9 rfl) rfl)))) ?_
  refine OpsOk.consI rfl rfl rfl (.one rfl) rfl (fun hw15 => (GOk.fr (fr':=[(42,(.fp (e_api_Node (rd t5.1.Kids 0)) 5))]) ⟨DLe.of_eq (cT hw15).symm,trivial⟩ (VOk.g (VOk.loadFp (d:=(S ((rd t5.1.Kids 0).Text))) rfl Try.underlying9 rfl rfl rfl)))) ?_
  refine OpsOk.consI rfl rfl rfl (.one rfl) rfl (fun hw15 => (GOk.fr (fr':=[(43,(S ((rd t5.1.Kids 0).Text)))]) ⟨DLe.of_eq (cT hw15).symm,trivial⟩ (VOk.g (VOk.strOp (op:=.eql) (a:=(rd t5.1.Kids 0).Text) (b:=([120,121]:Str)) rfl rfl rfl rfl)))) ?_
  refine .cv (VOk.to (VOk.pickI (b:=(t5.2 && ((t5.1.Kids.length:Int) == 1))) (p:=(((rd t5.1.Kids 0).Text) == ([120,121]:Str))) (q:=false) rfl rfl (fun hp17 => (cT (t_beq hp17))) (fun hp17 => rfl)) (pickAnd (t5.2 && ((t5.1.Kids.length:Int) == 1)) (((rd t5.1.Kids 0).Text) == ([120,121]:Str)))) rfl rfl ?_
  refine .rn 1 ?_
  refine OpsOk.consI rfl rfl rfl (.one rfl) rfl (fun hw18 => (VOk.g (VOk.mv (d:=(.v (.bool t9.2))) rfl rfl))) ?_
  refine .cv (VOk.to (VOk.pickI (b:=((t5.2 && ((t5.1.Kids.length:Int) == 1)) && (((rd t5.1.Kids 0).Text) == ([120,121]:Str)))) (p:=t9.2) (q:=false) rfl rfl (fun hp19 => (cT (t_beq hp19))) (fun hp19 => rfl)) (pickAnd ((t5.2 && ((t5.1.Kids.length:Int) == 1)) && (((rd t5.1.Kids 0).Text) == ([120,121]:Str))) t9.2)) rfl rfl ?_
  refine .rn 1 ?_
  refine OpsOk.consI rfl rfl rfl (.one rfl) rfl (fun hw20 => (VOk.g (VOk.to (VOk.fieldB rfl Try.underlying27 rfl sz25 rfl rfl) rfl))) ?_
  refine OpsOk.consI rfl rfl rfl (.one rfl) rfl (fun hw20 => (GOk.fr (fr':=[(50,(.bref 4 4))]) ⟨DLe.of_eq (cT hw20).symm,trivial⟩ (VOk.g (VOk.loadB (d:=(L 6 e_api_Node t9.1.Kids)) rfl Try.underlying25 rfl rfl rfl rfl)))) ?_
  refine OpsOk.consI rfl rfl rfl (.one rfl) rfl (fun hw20 => (GOk.fr (fr':=[(51,(L 6 e_api_Node t9.1.Kids))]) ⟨DLe.of_eq (cT hw20).symm,trivial⟩ (VOk.g (VOk.lenL (e:=e_api_Node) (xs:=t9.1.Kids) rfl Try.underlying25 rfl)))) ?_
  refine OpsOk.consI rfl rfl rfl (.one rfl) rfl (fun hw20 => (GOk.fr (fr':=[(52,(.v (.int .i64 (t9.1.Kids.length:Int))))]) ⟨DLe.of_eq (cT hw20).symm,trivial⟩ (VOk.g (VOk.arith (op:=.eql) (k:=.i64) (a:=(t9.1.Kids.length:Int)) (b:=4) rfl rfl rfl rfl)))) ?_
  refine .cv (VOk.to (VOk.pickI (b:=(((t5.2 && ((t5.1.Kids.length:Int) == 1)) && (((rd t5.1.Kids 0).Text) == ([120,121]:Str))) && t9.2)) (p:=((t9.1.Kids.length:Int) == 4)) (q:=false) rfl rfl (fun hp21 => (cT (t_beq hp21))) (fun hp21 => rfl)) (pickAnd (((t5.2 && ((t5.1.Kids.length:Int) == 1)) && (((rd t5.1.Kids 0).Text) == ([120,121]:Str))) && t9.2) ((t9.1.Kids.length:Int) == 4))) rfl rfl ?_
  refine .rn 1 ?_
  refine OpsOk.consI rfl rfl rfl (.one rfl) rfl (fun hw22 => (VOk.g (VOk.mv (d:=(.v (.bool t11.2))) rfl rfl))) ?_
  refine OpsOk.consI rfl rfl rfl (.one rfl) rfl (fun hw22 => (GOk.fr (fr':=[(56,(.v (.bool t11.2)))]) ⟨DLe.of_eq (cT hw22).symm,trivial⟩ (VOk.g (VOk.not (b:=t11.2) rfl rfl)))) ?_
  refine .cv (VOk.to (VOk.pickI (b:=((((t5.2 && ((t5.1.Kids.length:Int) == 1)) && (((rd t5.1.Kids 0).Text) == ([120,121]:Str))) && t9.2) && ((t9.1.Kids.length:Int) == 4))) (p:=(!t11.2)) (q:=false) rfl rfl (fun hp23 => (cT (t_beq hp23))) (fun hp23 => rfl)) (pickAnd ((((t5.2 && ((t5.1.Kids.length:Int) == 1)) && (((rd t5.1.Kids 0).Text) == ([120,121]:Str))) && t9.2) && ((t9.1.Kids.length:Int) == 4)) (!t11.2))) rfl rfl ?_
  refine .rn 1 ?_
  refine OpsOk.consI rfl rfl rfl (.one rfl) rfl (fun hw24 => (VOk.g (VOk.to (d':=(.agg (e_api_Node t3))) (.loadBAgg rfl Try.underlying27 rfl sz27 rfl rfl rfl) (congrArg D.agg (e_api_Node_c t3).symm)))) ?_
  refine OpsOk.consI rfl rfl rfl (.one rfl) rfl (fun hw24 => (GOk.fr (fr':=[(60,(.agg (e_api_Node t3)))]) ⟨DLe.of_eq (cT hw24).symm,trivial⟩ (GOk.call rfl rfl cl10 rfl (path_Places.ok (ifT h26 hw24)) rfl))) ?_
  refine OpsOk.consI rfl rfl rfl (.one rfl) rfl (fun hw24 => (GOk.fr (fr':=[(61,(L 1 (eL 1 (eI .i64)) t25))]) ⟨DLe.of_eq (cT hw24).symm,trivial⟩ (VOk.g (VOk.lenL (e:=(eL 1 (eI .i64))) (xs:=t25) rfl Try.underlying34 rfl)))) ?_
  refine OpsOk.consI rfl rfl rfl (.one rfl) rfl (fun hw24 => (GOk.fr (fr':=[(62,(.v (.int .i64 (t25.length:Int))))]) ⟨DLe.of_eq (cT hw24).symm,trivial⟩ (VOk.g (VOk.arith (op:=.eql) (k:=.i64) (a:=(t25.length:Int)) (b:=2) rfl rfl rfl rfl)))) ?_
  refine .cv (VOk.to (VOk.pickI (b:=(((((t5.2 && ((t5.1.Kids.length:Int) == 1)) && (((rd t5.1.Kids 0).Text) == ([120,121]:Str))) && t9.2) && ((t9.1.Kids.length:Int) == 4)) && (!t11.2))) (p:=((t25.length:Int) == 2)) (q:=false) rfl rfl (fun hp27 => (cT (t_beq hp27))) (fun hp27 => rfl)) (pickAnd (((((t5.2 && ((t5.1.Kids.length:Int) == 1)) && (((rd t5.1.Kids 0).Text) == ([120,121]:Str))) && t9.2) && ((t9.1.Kids.length:Int) == 4)) && (!t11.2)) ((t25.length:Int) == 2))) rfl rfl ?_
  refine .rn 1 ?_
  exact .dn
 refine Ok.ret ?_
 obtain rfl:=Option.some.inj H
 exact⟨.inl rfl,⟨_,(.cons (.tmp rfl) .nil),rfl⟩,trivial⟩
def watchbilllaw06_PathElsewhere (k:Nat) (a0:T_api_Node) (a1:T_api_Node) (a2:List Int) (a3:List Int):Option Bool:=((watchbilllaw06_awake k).bind fun (t1:Bool) => (if (!t1)=true then some false else ((watchbilllaw04_Few k a0).bind fun (t3:Bool) => (((if ((!t3) == false)=true then watchbilllaw04_Few k a1 else some default)).bind fun (t6:Bool) => (((if (((!t3) || (!t6)) == false)=true then tree_Right k a0 else some default)).bind fun (t10:Bool) => (((if ((((!t3) || (!t6)) || (!t10)) == false)=true then tree_Right k a1 else some default)).bind fun (t14:Bool) => (if ((((((!t3) || (!t6)) || (!t10)) || (!t14)) || (decide ((a2.length:Int) > 100))) || (decide ((a3.length:Int) > 100)))=true then some true else ((path_Replace k a0 a1 a2).bind fun (t21:T_api_Node × Bool) => (if (!t21.2)=true then some true else ((path_At k a0 a2).bind fun (t23:T_api_Node × Bool) => (if (t23.1.Kind != 1)=true then some true else ((tree_Right k t21.1).bind fun (t25:Bool) => (((if (((!t25) && (decide ((a2.length:Int) ≤ 3))) == true)=true then watchbilllaw06_deep k a1 else some default)).bind fun (t30:Int) => (((if ((((!t25) && (decide ((a2.length:Int) ≤ 3))) && (decide (t30 ≤ 20))) == true)=true then tree_Cost k t21.1 else some default)).bind fun (t34:(Nat × Nat)) => (if ((((!t25) && (decide ((a2.length:Int) ≤ 3))) && (decide (t30 ≤ 20))) && (fcmp .leq t34.1 4656510908468559872))=true then some false else (if (((decide ((a3.length:Int) ≥ (a2.length:Int))) == true)=true→(0:Int) ≤ 0 ∧ (0:Int) ≤ (a2.length:Int) ∧ (a2.length:Int) ≤ (a3.length:Int)) then (((if ((decide ((a3.length:Int) ≥ (a2.length:Int))) == true)=true then watchbillref06_Same k (sl a3 0 (a2.length:Int)) a2 else some default)).bind fun (t39:Bool) => (if (((decide ((a3.length:Int) ≤ (a2.length:Int))) == true)=true→(0:Int) ≤ 0 ∧ (0:Int) ≤ (a3.length:Int) ∧ (a3.length:Int) ≤ (a2.length:Int)) then (((if ((decide ((a3.length:Int) ≤ (a2.length:Int))) == true)=true then watchbillref06_Same k (sl a2 0 (a3.length:Int)) a3 else some default)).bind fun (t44:Bool) => (if (((decide ((a3.length:Int) ≥ (a2.length:Int))) && t39) || ((decide ((a3.length:Int) ≤ (a2.length:Int))) && t44))=true then some true else ((path_At k a0 a3).bind fun (t49:T_api_Node × Bool) => ((path_At k t21.1 a3).bind fun (t51:T_api_Node × Bool) => (((if ((t49.2 == t51.2) == true)=true then watchbillref04_Equal k t49.1 t51.1 else some default)).bind fun (t54:Bool) => some ((t49.2 == t51.2) && t54)))))) else none)) else none))))))))))))))))
theorem watchbilllaw06_PathElsewhere.ok {k:Nat} {a0:T_api_Node} {a1:T_api_Node} {a2:List Int} {a3:List Int} {r:Bool} (H:watchbilllaw06_PathElsewhere k a0 a1 a2 a3=some r):Vx.Fn Try.prog 4 [(.agg (e_api_Node a0)),(.agg (e_api_Node a1)),(L 1 (eI .i64) a2),(L 1 (eI .i64) a3)] [] (.v (.bool r)) []:=by
 unfold watchbilllaw06_PathElsewhere at H
 refine Vx.Fn.of_okR Try.func4 rfl (Nat.le_of_ble_eq_true rfl) ?_
 refine Ok.seq ?_
 refine Ok.region (σ':=⟨[(2,(L 1 (eI .i64) a2)),(3,(L 1 (eI .i64) a3)),(4,(.bref 4 0)),(5,(.bref 5 0))],[(4,(bxN a0)),(5,(bxN a1))]⟩) ?_ ?_
 ·refine OpsOk.cut1 0 (.agg (c_api_Node a0)) (DLe.of_eq (congrArg D.agg (e_api_Node_c _).symm)) ?_
  refine .rn 1 ?_
  refine OpsOk.cut1 1 (.agg (c_api_Node a1)) (DLe.of_eq (congrArg D.agg (e_api_Node_c _).symm)) ?_
  refine .rn 2 ?_
  exact .dn
 refine Ok.seq ?_
 refine Ok.seq ?_
 obtain⟨t1,h2,H⟩:=bindE H
 refine Ok.region (σ':=⟨[(2,(L 1 (eI .i64) a2)),(3,(L 1 (eI .i64) a3)),(4,(.bref 4 0)),(5,(.bref 5 0)),(20,(.v (.bool (!t1))))],[(4,(bxN a0)),(5,(bxN a1))]⟩) ?_ ?_
 ·refine .cg (GOk.call rfl rfl cl6 rfl (watchbilllaw06_awake.ok h2) rfl) rfl rfl ?_
  refine .rn 1 ?_
  exact .dn
 refine Ok.test (b:=(!t1)) rfl (fun hb62 => ?_) (fun hb62 => ?_)
 ·replace H:=ifT H hb62
  refine Ok.seq ?_
  refine .rg [(8,(.v (.bool false)))] [] ?_
  refine Ok.ret ?_
  obtain rfl:=Option.some.inj H
  exact⟨.inl rfl,⟨_,(.cons (.tmp rfl) .nil),rfl⟩,trivial⟩
 ·replace H:=ifF H hb62
  refine Ok.skip ?_
  refine Ok.seq ?_
  refine Ok.seq ?_
  obtain⟨t3,h4,H⟩:=bindE H
  obtain⟨t6,h7,H⟩:=bindE H
  obtain⟨t10,h11,H⟩:=bindE H
  obtain⟨t14,h15,H⟩:=bindE H
  refine Ok.region (σ':=⟨[(2,(L 1 (eI .i64) a2)),(3,(L 1 (eI .i64) a3)),(4,(.bref 4 0)),(5,(.bref 5 0)),(48,(.v (.bool ((((((!t3) || (!t6)) || (!t10)) || (!t14)) || (decide ((a2.length:Int) > 100))) || (decide ((a3.length:Int) > 100))))))],[(4,(bxN a0)),(5,(bxN a1))]⟩) ?_ ?_
  ·refine .cv (VOk.to (d':=(.agg (e_api_Node a0))) (.loadBAgg rfl Try.underlying27 rfl sz27 rfl rfl rfl) (congrArg D.agg (e_api_Node_c a0).symm)) rfl rfl ?_
   refine .cg (GOk.call rfl rfl cl7 rfl (watchbilllaw04_Few.ok h4) rfl) rfl rfl ?_
   refine .rn 2 ?_
   refine OpsOk.consI rfl rfl rfl (.one rfl) rfl (fun hw5 => (VOk.g (VOk.to (d':=(.agg (e_api_Node a1))) (.loadBAgg rfl Try.underlying27 rfl sz27 rfl rfl rfl) (congrArg D.agg (e_api_Node_c a1).symm)))) ?_
   refine OpsOk.consI rfl rfl rfl (.one rfl) rfl (fun hw5 => (GOk.fr (fr':=[(25,(.agg (e_api_Node a1)))]) ⟨DLe.of_eq (cT hw5).symm,trivial⟩ (GOk.call rfl rfl cl7 rfl (watchbilllaw04_Few.ok (ifT h7 hw5)) rfl))) ?_
   refine OpsOk.consI rfl rfl rfl (.one rfl) rfl (fun hw5 => (GOk.fr (fr':=[(26,(.v (.bool t6)))]) ⟨DLe.of_eq (cT hw5).symm,trivial⟩ (VOk.g (VOk.not (b:=t6) rfl rfl)))) ?_
   refine .cv (VOk.to (VOk.pickI (b:=(!t3)) (p:=true) (q:=(!t6)) rfl rfl (fun hp8 => rfl) (fun hp8 => (cT (f_beq hp8)))) (pickOr (!t3) (!t6))) rfl rfl ?_
   refine .rn 1 ?_
   refine OpsOk.consI rfl rfl rfl (.one rfl) rfl (fun hw9 => (VOk.g (VOk.to (d':=(.agg (e_api_Node a0))) (.loadBAgg rfl Try.underlying27 rfl sz27 rfl rfl rfl) (congrArg D.agg (e_api_Node_c a0).symm)))) ?_
   refine OpsOk.consI rfl rfl rfl (.one rfl) rfl (fun hw9 => (GOk.fr (fr':=[(30,(.agg (e_api_Node a0)))]) ⟨DLe.of_eq (cT hw9).symm,trivial⟩ (GOk.call rfl rfl cl15 rfl (tree_Right.ok (ifT h11 hw9)) rfl))) ?_
   refine OpsOk.consI rfl rfl rfl (.one rfl) rfl (fun hw9 => (GOk.fr (fr':=[(31,(.v (.bool t10)))]) ⟨DLe.of_eq (cT hw9).symm,trivial⟩ (VOk.g (VOk.not (b:=t10) rfl rfl)))) ?_
   refine .cv (VOk.to (VOk.pickI (b:=((!t3) || (!t6))) (p:=true) (q:=(!t10)) rfl rfl (fun hp12 => rfl) (fun hp12 => (cT (f_beq hp12)))) (pickOr ((!t3) || (!t6)) (!t10))) rfl rfl ?_
   refine .rn 1 ?_
   refine OpsOk.consI rfl rfl rfl (.one rfl) rfl (fun hw13 => (VOk.g (VOk.to (d':=(.agg (e_api_Node a1))) (.loadBAgg rfl Try.underlying27 rfl sz27 rfl rfl rfl) (congrArg D.agg (e_api_Node_c a1).symm)))) ?_
   refine OpsOk.consI rfl rfl rfl (.one rfl) rfl (fun hw13 => (GOk.fr (fr':=[(35,(.agg (e_api_Node a1)))]) ⟨DLe.of_eq (cT hw13).symm,trivial⟩ (GOk.call rfl rfl cl15 rfl (tree_Right.ok (ifT h15 hw13)) rfl))) ?_
   refine OpsOk.consI rfl rfl rfl (.one rfl) rfl (fun hw13 => (GOk.fr (fr':=[(36,(.v (.bool t14)))]) ⟨DLe.of_eq (cT hw13).symm,trivial⟩ (VOk.g (VOk.not (b:=t14) rfl rfl)))) ?_
   refine .cv (VOk.to (VOk.pickI (b:=(((!t3) || (!t6)) || (!t10))) (p:=true) (q:=(!t14)) rfl rfl (fun hp16 => rfl) (fun hp16 => (cT (f_beq hp16)))) (pickOr (((!t3) || (!t6)) || (!t10)) (!t14))) rfl rfl ?_
   refine .rn 1 ?_
   refine OpsOk.consI rfl rfl rfl (.one rfl) rfl (fun hw17 => (VOk.g (VOk.mv (d:=(L 1 (eI .i64) a2)) rfl rfl))) ?_
   refine OpsOk.consI rfl rfl rfl (.one rfl) rfl (fun hw17 => (GOk.fr (fr':=[(40,(L 1 (eI .i64) a2))]) ⟨DLe.of_eq (cT hw17).symm,trivial⟩ (VOk.g (VOk.lenL (e:=(eI .i64)) (xs:=a2) rfl Try.underlying28 rfl)))) ?_
   refine OpsOk.consI rfl rfl rfl (.one rfl) rfl (fun hw17 => (GOk.fr (fr':=[(41,(.v (.int .i64 (a2.length:Int))))]) ⟨DLe.of_eq (cT hw17).symm,trivial⟩ (VOk.g (VOk.arith (op:=.gtr) (k:=.i64) (a:=(a2.length:Int)) (b:=100) rfl rfl rfl rfl)))) ?_
   refine .cv (VOk.to (VOk.pickI (b:=((((!t3) || (!t6)) || (!t10)) || (!t14))) (p:=true) (q:=(decide ((a2.length:Int) > 100))) rfl rfl (fun hp18 => rfl) (fun hp18 => (cT (f_beq hp18)))) (pickOr ((((!t3) || (!t6)) || (!t10)) || (!t14)) (decide ((a2.length:Int) > 100)))) rfl rfl ?_
   refine .rn 1 ?_
   refine OpsOk.consI rfl rfl rfl (.one rfl) rfl (fun hw19 => (VOk.g (VOk.mv (d:=(L 1 (eI .i64) a3)) rfl rfl))) ?_
   refine OpsOk.consI rfl rfl rfl (.one rfl) rfl (fun hw19 => (GOk.fr (fr':=[(45,(L 1 (eI .i64) a3))]) ⟨DLe.of_eq (cT hw19).symm,trivial⟩ (VOk.g (VOk.lenL (e:=(eI .i64)) (xs:=a3) rfl Try.underlying28 rfl)))) ?_
   refine OpsOk.consI rfl rfl rfl (.one rfl) rfl (fun hw19 => (GOk.fr (fr':=[(46,(.v (.int .i64 (a3.length:Int))))]) ⟨DLe.of_eq (cT hw19).symm,trivial⟩ (VOk.g (VOk.arith (op:=.gtr) (k:=.i64) (a:=(a3.length:Int)) (b:=100) rfl rfl rfl rfl)))) ?_
   refine .cv (VOk.to (VOk.pickI (b:=(((((!t3) || (!t6)) || (!t10)) || (!t14)) || (decide ((a2.length:Int) > 100)))) (p:=true) (q:=(decide ((a3.length:Int) > 100))) rfl rfl (fun hp20 => rfl) (fun hp20 => (cT (f_beq hp20)))) (pickOr (((((!t3) || (!t6)) || (!t10)) || (!t14)) || (decide ((a2.length:Int) > 100))) (decide ((a3.length:Int) > 100)))) rfl rfl ?_
   exact .dn
  refine Ok.test (b:=((((((!t3) || (!t6)) || (!t10)) || (!t14)) || (decide ((a2.length:Int) > 100))) || (decide ((a3.length:Int) > 100)))) rfl (fun hb61 => ?_) (fun hb61 => ?_)
  ·replace H:=ifT H hb61
   refine Ok.seq ?_
   refine .rg [(8,(.v (.bool true)))] [] ?_
   refine Ok.ret ?_
   obtain rfl:=Option.some.inj H
   exact⟨.inl rfl,⟨_,(.cons (.tmp rfl) .nil),rfl⟩,trivial⟩
  ·replace H:=ifF H hb61
   refine Ok.skip ?_
   refine Ok.seq ?_
   obtain⟨t21,h22,H⟩:=bindE H
   refine Ok.region (σ':=⟨[(2,(L 1 (eI .i64) a2)),(3,(L 1 (eI .i64) a3)),(4,(.bref 4 0)),(5,(.bref 5 0)),(9,(.bref 9 0)),(10,(.v (.bool t21.2)))],[(4,(bxN a0)),(5,(bxN a1)),(9,(.box .ex (c_api_Node t21.1)))]⟩) ?_ ?_
   ·refine .cv (VOk.to (d':=(.agg (e_api_Node a0))) (.loadBAgg rfl Try.underlying27 rfl sz27 rfl rfl rfl) (congrArg D.agg (e_api_Node_c a0).symm)) rfl rfl ?_
    refine .cv (VOk.to (d':=(.agg (e_api_Node a1))) (.loadBAgg rfl Try.underlying27 rfl sz27 rfl rfl rfl) (congrArg D.agg (e_api_Node_c a1).symm)) rfl rfl ?_
    refine .rn 1 ?_
    refine .cg (GOk.call rfl rfl cl16 rfl (path_Replace.ok h22) rfl) rfl rfl ?_
    refine .rn 4 ?_
    refine OpsOk.cut1 54 (.agg [(.v (.int .i64 t21.1.Kind)),(S t21.1.Name.Space),(S t21.1.Name.Local),(L 3 e_api_Attr t21.1.Attrs),(L 6 e_api_Node t21.1.Kids),(S t21.1.Text)]) (DLe.of_eq (congrArg D.agg (e_api_Node_c _).symm)) ?_
    refine .rn 2 ?_
    exact .dn
   refine Ok.seq ?_
   refine Ok.seq ?_
   refine .rg [(2,(L 1 (eI .i64) a2)),(3,(L 1 (eI .i64) a3)),(4,(.bref 4 0)),(5,(.bref 5 0)),(9,(.bref 9 0)),(57,(.v (.bool (!t21.2))))] [(4,(bxN a0)),(5,(bxN a1)),(9,(.box .ex (c_api_Node t21.1)))] ?_
   refine Ok.test (b:=(!t21.2)) rfl (fun hb60 => ?_) (fun hb60 => ?_)
   ·replace H:=ifT H hb60
    refine Ok.seq ?_
    refine .rg [(8,(.v (.bool true)))] [] ?_
    refine Ok.ret ?_
    obtain rfl:=Option.some.inj H
    exact⟨.inl rfl,⟨_,(.cons (.tmp rfl) .nil),rfl⟩,trivial⟩
   ·replace H:=ifF H hb60
    refine Ok.skip ?_
    refine Ok.seq ?_
    refine Ok.seq ?_
    obtain⟨t23,h24,H⟩:=bindE H
    refine Ok.region (σ':=⟨[(2,(L 1 (eI .i64) a2)),(3,(L 1 (eI .i64) a3)),(4,(.bref 4 0)),(5,(.bref 5 0)),(9,(.bref 9 0)),(11,(.bref 11 0))],[(4,(bxN a0)),(5,(bxN a1)),(9,(.box .ex (c_api_Node t21.1))),(11,(.box .ex (c_api_Node t23.1)))]⟩) ?_ ?_
    ·refine .cv (VOk.to (d':=(.agg (e_api_Node a0))) (.loadBAgg rfl Try.underlying27 rfl sz27 rfl rfl rfl) (congrArg D.agg (e_api_Node_c a0).symm)) rfl rfl ?_
     refine .rn 1 ?_
     refine .cg (GOk.call rfl rfl cl8 rfl (path_At.ok h24) rfl) rfl rfl ?_
     refine .rn 4 ?_
     refine OpsOk.cut1 62 (.agg [(.v (.int .i64 t23.1.Kind)),(S t23.1.Name.Space),(S t23.1.Name.Local),(L 3 e_api_Attr t23.1.Attrs),(L 6 e_api_Node t23.1.Kids),(S t23.1.Text)]) (DLe.of_eq (congrArg D.agg (e_api_Node_c _).symm)) ?_
     refine .rn 2 ?_
     exact .dn
    refine Ok.seq ?_
    refine .rg [(2,(L 1 (eI .i64) a2)),(3,(L 1 (eI .i64) a3)),(4,(.bref 4 0)),(5,(.bref 5 0)),(9,(.bref 9 0)),(66,(.v (.bool (t23.1.Kind != 1))))] [(4,(bxN a0)),(5,(bxN a1)),(9,(.box .ex (c_api_Node t21.1)))] ?_
    refine Ok.test (b:=(t23.1.Kind != 1)) rfl (fun hb59 => ?_) (fun hb59 => ?_)
    ·replace H:=ifT H hb59
     refine Ok.seq ?_
     refine .rg [(8,(.v (.bool true)))] [] ?_
     refine Ok.ret ?_
     obtain rfl:=Option.some.inj H
     exact⟨.inl rfl,⟨_,(.cons (.tmp rfl) .nil),rfl⟩,trivial⟩
    ·replace H:=ifF H hb59
     refine Ok.skip ?_
     refine Ok.seq ?_
     refine Ok.seq ?_
     obtain⟨t25,h26,H⟩:=bindE H
     obtain⟨t30,h31,H⟩:=bindE H
     obtain⟨t34,h35,H⟩:=bindE H
     refine Ok.region (σ':=⟨[(2,(L 1 (eI .i64) a2)),(3,(L 1 (eI .i64) a3)),(4,(.bref 4 0)),(9,(.bref 9 0)),(85,(.v (.bool ((((!t25) && (decide ((a2.length:Int) ≤ 3))) && (decide (t30 ≤ 20))) && (fcmp .leq t34.1 4656510908468559872)))))],[(4,(bxN a0)),(9,(.box .ex (c_api_Node t21.1)))]⟩) ?_ ?_
     ·refine .cv (VOk.to (d':=(.agg (e_api_Node t21.1))) (.loadBAgg rfl Try.underlying27 rfl sz27 rfl rfl rfl) (congrArg D.agg (e_api_Node_c t21.1).symm)) rfl rfl ?_
      refine .cg (GOk.call rfl rfl cl15 rfl (tree_Right.ok h26) rfl) rfl rfl ?_
      refine .rn 2 ?_
      refine OpsOk.consI rfl rfl rfl (.one rfl) rfl (fun hw27 => (VOk.g (VOk.mv (d:=(L 1 (eI .i64) a2)) rfl rfl))) ?_
      refine OpsOk.consI rfl rfl rfl (.one rfl) rfl (fun hw27 => (GOk.fr (fr':=[(71,(L 1 (eI .i64) a2))]) ⟨DLe.of_eq (cT hw27).symm,trivial⟩ (VOk.g (VOk.lenL (e:=(eI .i64)) (xs:=a2) rfl Try.underlying28 rfl)))) ?_
      refine OpsOk.consI rfl rfl rfl (.one rfl) rfl (fun hw27 => (GOk.fr (fr':=[(72,(.v (.int .i64 (a2.length:Int))))]) ⟨DLe.of_eq (cT hw27).symm,trivial⟩ (VOk.g (VOk.arith (op:=.leq) (k:=.i64) (a:=(a2.length:Int)) (b:=3) rfl rfl rfl rfl)))) ?_
      refine .cv (VOk.to (VOk.pickI (b:=(!t25)) (p:=(decide ((a2.length:Int) ≤ 3))) (q:=false) rfl rfl (fun hp28 => (cT (t_beq hp28))) (fun hp28 => rfl)) (pickAnd (!t25) (decide ((a2.length:Int) ≤ 3)))) rfl rfl ?_
      refine .rn 1 ?_
      refine OpsOk.consI rfl rfl rfl (.one rfl) rfl (fun hw29 => (VOk.g (VOk.to (d':=(.agg (e_api_Node a1))) (.loadBAgg rfl Try.underlying27 rfl sz27 rfl rfl rfl) (congrArg D.agg (e_api_Node_c a1).symm)))) ?_
      refine OpsOk.consI rfl rfl rfl (.one rfl) rfl (fun hw29 => (GOk.fr (fr':=[(76,(.agg (e_api_Node a1)))]) ⟨DLe.of_eq (cT hw29).symm,trivial⟩ (GOk.call rfl rfl cl17 rfl (watchbilllaw06_deep.ok (ifT h31 hw29)) rfl))) ?_
      refine OpsOk.consI rfl rfl rfl (.one rfl) rfl (fun hw29 => (GOk.fr (fr':=[(77,(.v (.int .i64 t30)))]) ⟨DLe.of_eq (cT hw29).symm,trivial⟩ (VOk.g (VOk.arith (op:=.leq) (k:=.i64) (a:=t30) (b:=20) rfl rfl rfl rfl)))) ?_
      refine .cv (VOk.to (VOk.pickI (b:=((!t25) && (decide ((a2.length:Int) ≤ 3)))) (p:=(decide (t30 ≤ 20))) (q:=false) rfl rfl (fun hp32 => (cT (t_beq hp32))) (fun hp32 => rfl)) (pickAnd ((!t25) && (decide ((a2.length:Int) ≤ 3))) (decide (t30 ≤ 20)))) rfl rfl ?_
      refine .rn 1 ?_
      refine OpsOk.consI rfl rfl rfl (.one rfl) rfl (fun hw33 => (VOk.g (VOk.to (d':=(.agg (e_api_Node t21.1))) (.loadBAgg rfl Try.underlying27 rfl sz27 rfl rfl rfl) (congrArg D.agg (e_api_Node_c t21.1).symm)))) ?_
      refine OpsOk.consI rfl rfl rfl (.one rfl) rfl (fun hw33 => (GOk.fr (fr':=[(81,(.agg (e_api_Node t21.1)))]) ⟨DLe.of_eq (cT hw33).symm,trivial⟩ (GOk.call rfl rfl cl18 rfl (tree_Cost.ok (ifT h35 hw33)) rfl))) ?_
      refine OpsOk.consI rfl rfl rfl (.one rfl) rfl (fun hw33 => (GOk.fr (fr':=[(82,(.v (.complex .f64 t34.1 t34.2)))]) ⟨DLe.of_eq (cT hw33).symm,trivial⟩ (VOk.g (VOk.re (a:=t34.1) (b:=t34.2) rfl rfl)))) ?_
      refine OpsOk.consI rfl rfl rfl (.one rfl) rfl (fun hw33 => (GOk.fr (fr':=[(83,(.v (.float .f64 t34.1)))]) ⟨DLe.of_eq (cT hw33).symm,trivial⟩ (VOk.g (VOk.fcmp (op:=.leq) (a:=t34.1) (b:=4656510908468559872) rfl (by decide) rfl rfl)))) ?_
      refine .cv (VOk.to (VOk.pickI (b:=(((!t25) && (decide ((a2.length:Int) ≤ 3))) && (decide (t30 ≤ 20)))) (p:=(fcmp .leq t34.1 4656510908468559872)) (q:=false) rfl rfl (fun hp36 => (cT (t_beq hp36))) (fun hp36 => rfl)) (pickAnd (((!t25) && (decide ((a2.length:Int) ≤ 3))) && (decide (t30 ≤ 20))) (fcmp .leq t34.1 4656510908468559872))) rfl rfl ?_
      exact .dn
     refine Ok.test (b:=((((!t25) && (decide ((a2.length:Int) ≤ 3))) && (decide (t30 ≤ 20))) && (fcmp .leq t34.1 4656510908468559872))) rfl (fun hb58 => ?_) (fun hb58 => ?_)
     ·replace H:=ifT H hb58
      refine Ok.seq ?_
      refine .rg [(8,(.v (.bool false)))] [] ?_
      refine Ok.ret ?_
      obtain rfl:=Option.some.inj H
      exact⟨.inl rfl,⟨_,(.cons (.tmp rfl) .nil),rfl⟩,trivial⟩
     ·replace H:=ifF H hb58
      refine Ok.skip ?_
      refine Ok.seq ?_
      obtain⟨c38,H⟩:=assertE H
      obtain⟨t39,h40,H⟩:=bindE H
      refine Ok.region (σ':=⟨[(2,(L 1 (eI .i64) a2)),(3,(L 1 (eI .i64) a3)),(4,(.bref 4 0)),(9,(.bref 9 0)),(13,(.v (.bool ((decide ((a3.length:Int) ≥ (a2.length:Int))) && t39))))],[(4,(bxN a0)),(9,(.box .ex (c_api_Node t21.1)))]⟩) ?_ ?_
      ·refine .rn 1 ?_
       refine .cv (VOk.lenL (e:=(eI .i64)) (xs:=a3) rfl Try.underlying28 rfl) rfl rfl ?_
       refine .rn 1 ?_
       refine .cv (VOk.lenL (e:=(eI .i64)) (xs:=a2) rfl Try.underlying28 rfl) rfl rfl ?_
       refine .rn 2 ?_
       refine OpsOk.consI rfl rfl rfl (.one rfl) rfl (fun hw37 => (VOk.g (VOk.mv (d:=(L 1 (eI .i64) a3)) rfl rfl))) ?_
       refine OpsOk.consI rfl rfl rfl (.one rfl) rfl (fun hw37 => (VOk.g (VOk.mv (d:=(L 1 (eI .i64) a2)) rfl rfl))) ?_
       refine OpsOk.consI rfl rfl rfl (.one rfl) rfl (fun hw37 => (GOk.fr (fr':=[(93,(L 1 (eI .i64) a2))]) ⟨DLe.of_eq (cT hw37).symm,trivial⟩ (VOk.g (VOk.lenL (e:=(eI .i64)) (xs:=a2) rfl Try.underlying28 rfl)))) ?_
       refine OpsOk.consI rfl rfl rfl (.one rfl) rfl (fun hw37 => (GOk.fr (fr':=[(92,(L 1 (eI .i64) a3)),(94,(.v (.int .i64 (a2.length:Int))))]) ⟨DLe.of_eq (cT hw37).symm,DLe.of_eq (cT hw37).symm,trivial⟩ (VOk.g (VOk.sliceL (e:=(eI .i64)) (xs:=a3) (l:=0) (h:=(a2.length:Int)) rfl Try.underlying28 sz3 rfl rfl rfl (c38 hw37))))) ?_
       refine OpsOk.consI rfl rfl rfl (.one rfl) rfl (fun hw37 => (VOk.g (VOk.mv (d:=(L 1 (eI .i64) a2)) rfl rfl))) ?_
       refine OpsOk.consI rfl rfl rfl (.one rfl) rfl (fun hw37 => (GOk.fr (fr':=[(95,(L 1 (eI .i64) (sl a3 0 (a2.length:Int)))),(96,(L 1 (eI .i64) a2))]) ⟨DLe.of_eq (cT hw37).symm,DLe.of_eq (cT hw37).symm,trivial⟩ (GOk.call rfl rfl cl13 rfl (watchbillref06_Same.ok (ifT h40 hw37)) rfl))) ?_
       refine .cv (VOk.to (VOk.pickI (b:=(decide ((a3.length:Int) ≥ (a2.length:Int)))) (p:=t39) (q:=false) rfl rfl (fun hp41 => (cT (t_beq hp41))) (fun hp41 => rfl)) (pickAnd (decide ((a3.length:Int) ≥ (a2.length:Int))) t39)) rfl rfl ?_
       refine .rn 1 ?_
       exact .dn
      refine Ok.seq ?_
      obtain⟨c43,H⟩:=assertE H
      obtain⟨t44,h45,H⟩:=bindE H
      refine Ok.region (σ':=⟨[(3,(L 1 (eI .i64) a3)),(4,(.bref 4 0)),(9,(.bref 9 0)),(13,(.v (.bool ((decide ((a3.length:Int) ≥ (a2.length:Int))) && t39)))),(14,(.v (.bool ((decide ((a3.length:Int) ≤ (a2.length:Int))) && t44))))],[(4,(bxN a0)),(9,(.box .ex (c_api_Node t21.1)))]⟩) ?_ ?_
      ·refine .rn 1 ?_
       refine .cv (VOk.lenL (e:=(eI .i64)) (xs:=a3) rfl Try.underlying28 rfl) rfl rfl ?_
       refine .rn 1 ?_
       refine .cv (VOk.lenL (e:=(eI .i64)) (xs:=a2) rfl Try.underlying28 rfl) rfl rfl ?_
       refine .rn 2 ?_
       refine OpsOk.consI rfl rfl rfl (.one rfl) rfl (fun hw42 => (VOk.g (VOk.mv (d:=(L 1 (eI .i64) a2)) rfl rfl))) ?_
       refine OpsOk.consI rfl rfl rfl (.one rfl) rfl (fun hw42 => (VOk.g (VOk.mv (d:=(L 1 (eI .i64) a3)) rfl rfl))) ?_
       refine OpsOk.consI rfl rfl rfl (.one rfl) rfl (fun hw42 => (GOk.fr (fr':=[(106,(L 1 (eI .i64) a3))]) ⟨DLe.of_eq (cT hw42).symm,trivial⟩ (VOk.g (VOk.lenL (e:=(eI .i64)) (xs:=a3) rfl Try.underlying28 rfl)))) ?_
       refine OpsOk.consI rfl rfl rfl (.one rfl) rfl (fun hw42 => (GOk.fr (fr':=[(105,(L 1 (eI .i64) a2)),(107,(.v (.int .i64 (a3.length:Int))))]) ⟨DLe.of_eq (cT hw42).symm,DLe.of_eq (cT hw42).symm,trivial⟩ (VOk.g (VOk.sliceL (e:=(eI .i64)) (xs:=a2) (l:=0) (h:=(a3.length:Int)) rfl Try.underlying28 sz3 rfl rfl rfl (c43 hw42))))) ?_
       refine OpsOk.consI rfl rfl rfl (.one rfl) rfl (fun hw42 => (VOk.g (VOk.mv (d:=(L 1 (eI .i64) a3)) rfl rfl))) ?_
       refine OpsOk.consI rfl rfl rfl (.one rfl) rfl (fun hw42 => (GOk.fr (fr':=[(108,(L 1 (eI .i64) (sl a2 0 (a3.length:Int)))),(109,(L 1 (eI .i64) a3))]) ⟨DLe.of_eq (cT hw42).symm,DLe.of_eq (cT hw42).symm,trivial⟩ (GOk.call rfl rfl cl13 rfl (watchbillref06_Same.ok (ifT h45 hw42)) rfl))) ?_
       refine .cv (VOk.to (VOk.pickI (b:=(decide ((a3.length:Int) ≤ (a2.length:Int)))) (p:=t44) (q:=false) rfl rfl (fun hp46 => (cT (t_beq hp46))) (fun hp46 => rfl)) (pickAnd (decide ((a3.length:Int) ≤ (a2.length:Int))) t44)) rfl rfl ?_
       refine .rn 1 ?_
       exact .dn
      refine Ok.seq ?_
      refine Ok.seq ?_
      refine Ok.region (σ':=⟨[(3,(L 1 (eI .i64) a3)),(4,(.bref 4 0)),(9,(.bref 9 0)),(115,(.v (.bool (((decide ((a3.length:Int) ≥ (a2.length:Int))) && t39) || ((decide ((a3.length:Int) ≤ (a2.length:Int))) && t44)))))],[(4,(bxN a0)),(9,(.box .ex (c_api_Node t21.1)))]⟩) ?_ ?_
      ·refine .rn 2 ?_
       refine OpsOk.consI rfl rfl rfl (.one rfl) rfl (fun hw47 => (VOk.g (VOk.mv (d:=(.v (.bool ((decide ((a3.length:Int) ≤ (a2.length:Int))) && t44)))) rfl rfl))) ?_
       refine .cv (VOk.to (VOk.pickI (b:=((decide ((a3.length:Int) ≥ (a2.length:Int))) && t39)) (p:=true) (q:=((decide ((a3.length:Int) ≤ (a2.length:Int))) && t44)) rfl rfl (fun hp48 => rfl) (fun hp48 => (cT (f_beq hp48)))) (pickOr ((decide ((a3.length:Int) ≥ (a2.length:Int))) && t39) ((decide ((a3.length:Int) ≤ (a2.length:Int))) && t44))) rfl rfl ?_
       exact .dn
      refine Ok.test (b:=(((decide ((a3.length:Int) ≥ (a2.length:Int))) && t39) || ((decide ((a3.length:Int) ≤ (a2.length:Int))) && t44))) rfl (fun hb57 => ?_) (fun hb57 => ?_)
      ·replace H:=ifT H hb57
       refine Ok.seq ?_
       refine .rg [(8,(.v (.bool true)))] [] ?_
       refine Ok.ret ?_
       obtain rfl:=Option.some.inj H
       exact⟨.inl rfl,⟨_,(.cons (.tmp rfl) .nil),rfl⟩,trivial⟩
      ·replace H:=ifF H hb57
       refine Ok.skip ?_
       refine Ok.seq ?_
       obtain⟨t49,h50,H⟩:=bindE H
       refine Ok.region (σ':=⟨[(3,(L 1 (eI .i64) a3)),(9,(.bref 9 0)),(15,(.bref 15 0)),(16,(.v (.bool t49.2)))],[(9,(.box .ex (c_api_Node t21.1))),(15,(.box .ex (c_api_Node t49.1)))]⟩) ?_ ?_
       ·refine .cv (VOk.to (d':=(.agg (e_api_Node a0))) (.loadBAgg rfl Try.underlying27 rfl sz27 rfl rfl rfl) (congrArg D.agg (e_api_Node_c a0).symm)) rfl rfl ?_
        refine .rn 1 ?_
        refine .cg (GOk.call rfl rfl cl8 rfl (path_At.ok h50) rfl) rfl rfl ?_
        refine .rn 4 ?_
        refine OpsOk.cut1 120 (.agg [(.v (.int .i64 t49.1.Kind)),(S t49.1.Name.Space),(S t49.1.Name.Local),(L 3 e_api_Attr t49.1.Attrs),(L 6 e_api_Node t49.1.Kids),(S t49.1.Text)]) (DLe.of_eq (congrArg D.agg (e_api_Node_c _).symm)) ?_
        refine .rn 2 ?_
        exact .dn
       refine Ok.seq ?_
       obtain⟨t51,h52,H⟩:=bindE H
       refine Ok.region (σ':=⟨[(15,(.bref 15 0)),(16,(.v (.bool t49.2))),(17,(.bref 17 0)),(18,(.v (.bool t51.2)))],[(15,(.box .ex (c_api_Node t49.1))),(17,(.box .ex (c_api_Node t51.1)))]⟩) ?_ ?_
       ·refine .cv (VOk.to (d':=(.agg (e_api_Node t21.1))) (.loadBAgg rfl Try.underlying27 rfl sz27 rfl rfl rfl) (congrArg D.agg (e_api_Node_c t21.1).symm)) rfl rfl ?_
        refine .rn 1 ?_
        refine .cg (GOk.call rfl rfl cl8 rfl (path_At.ok h52) rfl) rfl rfl ?_
        refine .rn 4 ?_
        refine OpsOk.cut1 126 (.agg [(.v (.int .i64 t51.1.Kind)),(S t51.1.Name.Space),(S t51.1.Name.Local),(L 3 e_api_Attr t51.1.Attrs),(L 6 e_api_Node t51.1.Kids),(S t51.1.Text)]) (DLe.of_eq (congrArg D.agg (e_api_Node_c _).symm)) ?_
        refine .rn 2 ?_
        exact .dn
       refine Ok.seq ?_
       obtain⟨t54,h55,H⟩:=bindE H
       refine Ok.region (σ':=⟨[(8,(.v (.bool ((t49.2 == t51.2) && t54))))],[]⟩) ?_ ?_
       ·refine .rn 2 ?_
        refine .cv (VOk.eqB (op:=.eql) (p:=t49.2) (q:=t51.2) rfl (.inl rfl) Try.underlying4 rfl rfl) rfl rfl ?_
        refine .rn 1 ?_
        refine OpsOk.consI rfl rfl rfl (.one rfl) rfl (fun hw53 => (VOk.g (VOk.to (d':=(.agg (e_api_Node t49.1))) (.loadBAgg rfl Try.underlying27 rfl sz27 rfl rfl rfl) (congrArg D.agg (e_api_Node_c t49.1).symm)))) ?_
        refine OpsOk.consI rfl rfl rfl (.one rfl) rfl (fun hw53 => (VOk.g (VOk.to (d':=(.agg (e_api_Node t51.1))) (.loadBAgg rfl Try.underlying27 rfl sz27 rfl rfl rfl) (congrArg D.agg (e_api_Node_c t51.1).symm)))) ?_
        refine OpsOk.consI rfl rfl rfl (.one rfl) rfl (fun hw53 => (GOk.fr (fr':=[(132,(.agg (e_api_Node t49.1))),(133,(.agg (e_api_Node t51.1)))]) ⟨DLe.of_eq (cT hw53).symm,DLe.of_eq (cT hw53).symm,trivial⟩ (GOk.call rfl rfl cl19 rfl (watchbillref04_Equal.ok (ifT h55 hw53)) rfl))) ?_
        refine .cv (VOk.to (VOk.pickI (b:=(t49.2 == t51.2)) (p:=t54) (q:=false) rfl rfl (fun hp56 => (cT (t_beq hp56))) (fun hp56 => rfl)) (pickAnd (t49.2 == t51.2) t54)) rfl rfl ?_
        refine .rn 1 ?_
        exact .dn
       refine Ok.ret ?_
       obtain rfl:=Option.some.inj H
       exact⟨.inl rfl,⟨_,(.cons (.tmp rfl) .nil),rfl⟩,trivial⟩
end Go.Proofs.Ytjhbedgepfkdbaa.Sh
