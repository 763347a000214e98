import Derived.Test.YtapbckofgcmgmaaGreatDoorPureT
namespace Go.Proofs.YtapbckofgcmgmaaGreatDoor.Sh
open Go Go.RowKit Go.Proofs.Vx
set_option linter.unusedVariables false
set_option maxRecDepth 100000
set_option maxHeartbeats 1000000
def watchbilllaw16_awake (k:Nat):Option Bool:=((tree_Parse k ([60,108,105,115,116,32,120,109,108,110,115,61,39,117,114,110,58,105,101,116,102,58,112,97,114,97,109,115,58,120,109,108,58,110,115,58,114,101,115,111,117,114,99,101,45,108,105,115,116,115,39,32,110,97,109,101,61,39,97,39,62,60,101,110,116,114,121,32,117,114,105,61,39,120,39,47,62,60,101,110,116,114,121,32,117,114,105,61,39,120,39,47,62,60,47,108,105,115,116,62]:Str)).bind fun (t1:T_api_Node × Int × Int) => ((lists_DecodeList k t1.1).bind fun (t3:T_api_Entry × Int) => ((tree_Parse k ([60,114,101,115,111,117,114,99,101,45,108,105,115,116,115,32,120,109,108,110,115,61,39,117,114,110,58,105,101,116,102,58,112,97,114,97,109,115,58,120,109,108,58,110,115,58,114,101,115,111,117,114,99,101,45,108,105,115,116,115,39,62,60,108,105,115,116,62,60,101,110,116,114,121,32,117,114,105,61,39,120,39,62,60,100,105,115,112,108,97,121,45,110,97,109,101,62,32,88,32,60,47,100,105,115,112,108,97,121,45,110,97,109,101,62,60,47,101,110,116,114,121,62,60,47,108,105,115,116,62,60,47,114,101,115,111,117,114,99,101,45,108,105,115,116,115,62]:Str)).bind fun (t5:T_api_Node × Int × Int) => ((lists_Decode k t5.1).bind fun (t7:(List T_api_Entry) × Int) => ((lists_Encode k t7.1).bind fun (t9:T_api_Node × Int) => (if ((((t3.2 == 41) && ((t7.1.length:Int) == 1)) == true)=true→(0:Int) ≤ 0 ∧ 0 < (t7.1.length:Int)) then (if (((((t3.2 == 41) && ((t7.1.length:Int) == 1)) && ((((rd t7.1 0).List_).length:Int) == 1)) == true)=true→(0:Int) ≤ 0 ∧ 0 < (t7.1.length:Int)) then (if (((((t3.2 == 41) && ((t7.1.length:Int) == 1)) && ((((rd t7.1 0).List_).length:Int) == 1)) == true)=true→(0:Int) ≤ 0 ∧ 0 < (((rd t7.1 0).List_).length:Int)) then (((if ((((((((t3.2 == 41) && ((t7.1.length:Int) == 1)) && ((((rd t7.1 0).List_).length:Int) == 1)) && (((rd ((rd t7.1 0).List_) 0).Name) == ([88]:Str))) && (t7.2 == 0)) && (t9.2 == 0)) && ((t9.1.Kids.length:Int) == 1)) == true)=true then lists_Check k t1.1 else some default)).bind fun (t27:Int) => some ((((((((t3.2 == 41) && ((t7.1.length:Int) == 1)) && ((((rd t7.1 0).List_).length:Int) == 1)) && (((rd ((rd t7.1 0).List_) 0).Name) == ([88]:Str))) && (t7.2 == 0)) && (t9.2 == 0)) && ((t9.1.Kids.length:Int) == 1)) && (t27 == 40))) else none) else none) else none))))))
theorem watchbilllaw16_awake.ok {k:Nat} {r:Bool} (H:watchbilllaw16_awake k=some r):Vx.Fn Tryz.prog 7 [] [] (.v (.bool r)) []:=by
 unfold watchbilllaw16_awake at H
 refine Vx.Fn.of_okR Tryz.func7 rfl (Nat.le_of_ble_eq_true rfl) ?_
 refine Ok.seq ?_
 refine .rg [] [] ?_
 refine Ok.seq ?_
 obtain⟨t1,h2,H⟩:=bindE H
 refine Ok.region (σ':=⟨[(1,(.bref 1 0))],[(1,(.box .ex (c_api_Node t1.1)))]⟩) ?_ ?_
 ·refine .cg (GOk.call rfl rfl cl20 rfl (tree_Parse.ok h2) rfl) rfl rfl ?_
  refine .rn 5 ?_
  refine OpsOk.cut1 15 (.agg [(.v (.int .i64 t1.1.Kind)),(S t1.1.Name.Space),(S t1.1.Name.Local),(L 3 e_api_Attr t1.1.Attrs),(L 6 e_api_Node t1.1.Kids),(S t1.1.Text)]) (DLe.of_eq (congrArg D.agg (e_api_Node_c _).symm)) ?_
  refine .rn 3 ?_
  exact .dn
 refine Ok.seq ?_
 obtain⟨t3,h4,H⟩:=bindE H
 refine Ok.region (σ':=⟨[(1,(.bref 1 0)),(5,(.v (.int .i64 t3.2)))],[(1,(.box .ex (c_api_Node t1.1)))]⟩) ?_ ?_
 ·refine .cv (VOk.to (d':=(.agg (e_api_Node t1.1))) (.loadBAgg rfl Tryz.underlying28 rfl sz28 rfl rfl rfl) (congrArg D.agg (e_api_Node_c t1.1).symm)) rfl rfl ?_
  refine .cg (GOk.call rfl rfl cl21 rfl (lists_DecodeList.ok h4) rfl) rfl rfl ?_
  refine .rn 4 ?_
  refine OpsOk.cut1 21 (.agg [(.v (.int .i64 t3.1.Kind)),(S t3.1.URI),(S t3.1.Name),(L 4 e_api_Entry t3.1.List_)]) (DLe.of_eq (congrArg D.agg (e_api_Entry_c _).symm)) ?_
  refine .rn 2 ?_
  exact .dn
 refine Ok.seq ?_
 obtain⟨t5,h6,H⟩:=bindE H
 refine Ok.region (σ':=⟨[(1,(.bref 1 0)),(5,(.v (.int .i64 t3.2))),(6,(.bref 6 0))],[(1,(.box .ex (c_api_Node t1.1))),(6,(.box .ex (c_api_Node t5.1)))]⟩) ?_ ?_
 ·refine .cg (GOk.call rfl rfl cl20 rfl (tree_Parse.ok h6) rfl) rfl rfl ?_
  refine .rn 5 ?_
  refine OpsOk.cut1 25 (.agg [(.v (.int .i64 t5.1.Kind)),(S t5.1.Name.Space),(S t5.1.Name.Local),(L 3 e_api_Attr t5.1.Attrs),(L 6 e_api_Node t5.1.Kids),(S t5.1.Text)]) (DLe.of_eq (congrArg D.agg (e_api_Node_c _).symm)) ?_
  refine .rn 3 ?_
  exact .dn
 refine Ok.seq ?_
 obtain⟨t7,h8,H⟩:=bindE H
 refine Ok.region (σ':=⟨[(1,(.bref 1 0)),(5,(.v (.int .i64 t3.2))),(9,(L 4 e_api_Entry t7.1)),(10,(.v (.int .i64 t7.2)))],[(1,(.box .ex (c_api_Node t1.1)))]⟩) ?_ ?_
 ·refine .cv (VOk.to (d':=(.agg (e_api_Node t5.1))) (.loadBAgg rfl Tryz.underlying28 rfl sz28 rfl rfl rfl) (congrArg D.agg (e_api_Node_c t5.1).symm)) rfl rfl ?_
  refine .cg (GOk.call rfl rfl cl10 rfl (lists_Decode.ok h8) rfl) rfl rfl ?_
  refine .rn 5 ?_
  exact .dn
 refine Ok.seq ?_
 obtain⟨t9,h10,H⟩:=bindE H
 refine Ok.region (σ':=⟨[(1,(.bref 1 0)),(5,(.v (.int .i64 t3.2))),(9,(L 4 e_api_Entry t7.1)),(10,(.v (.int .i64 t7.2))),(11,(.bref 11 0)),(12,(.v (.int .i64 t9.2)))],[(1,(.box .ex (c_api_Node t1.1))),(11,(.box .ex (c_api_Node t9.1)))]⟩) ?_ ?_
 ·refine .rn 1 ?_
  refine .cg (GOk.call rfl rfl cl11 rfl (lists_Encode.ok h10) rfl) rfl rfl ?_
  refine .rn 4 ?_
  refine OpsOk.cut1 36 (.agg [(.v (.int .i64 t9.1.Kind)),(S t9.1.Name.Space),(S t9.1.Name.Local),(L 3 e_api_Attr t9.1.Attrs),(L 6 e_api_Node t9.1.Kids),(S t9.1.Text)]) (DLe.of_eq (congrArg D.agg (e_api_Node_c _).symm)) ?_
  refine .rn 2 ?_
  exact .dn
 refine Ok.seq ?_
 obtain⟨c14,H⟩:=assertE H
 obtain⟨c17,H⟩:=assertE H
 obtain⟨c18,H⟩:=assertE H
 obtain⟨t27,h28,H⟩:=bindE H
 refine Ok.region (σ':=⟨[(0,(.v (.bool ((((((((t3.2 == 41) && ((t7.1.length:Int) == 1)) && ((((rd t7.1 0).List_).length:Int) == 1)) && (((rd ((rd t7.1 0).List_) 0).Name) == ([88]:Str))) && (t7.2 == 0)) && (t9.2 == 0)) && ((t9.1.Kids.length:Int) == 1)) && (t27 == 40)))))],[]⟩) ?_ ?_
 ·refine .rn 3 ?_
  refine OpsOk.consI rfl rfl rfl (.one rfl) rfl (fun hw11 => (VOk.g (VOk.mv (d:=(L 4 e_api_Entry t7.1)) rfl rfl))) ?_
  refine OpsOk.consI rfl rfl rfl (.one rfl) rfl (fun hw11 => (GOk.fr (fr':=[(41,(L 4 e_api_Entry t7.1))]) ⟨DLe.of_eq (cT hw11).symm,trivial⟩ (VOk.g (VOk.lenL (e:=e_api_Entry) (xs:=t7.1) rfl Tryz.underlying22 rfl)))) ?_
  refine OpsOk.consI rfl rfl rfl (.one rfl) rfl (fun hw11 => (GOk.fr (fr':=[(42,(.v (.int .i64 (t7.1.length:Int))))]) ⟨DLe.of_eq (cT hw11).symm,trivial⟩ (VOk.g (VOk.arith (op:=.eql) (k:=.i64) (a:=(t7.1.length:Int)) (b:=1) rfl rfl rfl rfl)))) ?_
  refine .cv (VOk.to (VOk.pickI (b:=(t3.2 == 41)) (p:=((t7.1.length:Int) == 1)) (q:=false) rfl rfl (fun hp12 => (cT (t_beq hp12))) (fun hp12 => rfl)) (pickAnd (t3.2 == 41) ((t7.1.length:Int) == 1))) rfl rfl ?_
  refine .rn 1 ?_
  refine OpsOk.consI rfl rfl rfl (.one rfl) rfl (fun hw13 => (VOk.g (VOk.mv (d:=(L 4 e_api_Entry t7.1)) rfl rfl))) ?_
  refine OpsOk.consI rfl rfl rfl (.one rfl) rfl (fun hw13 => (GOk.fr (fr':=[(46,(L 4 e_api_Entry t7.1))]) ⟨DLe.of_eq (cT hw13).symm,trivial⟩ (VOk.g (VOk.indexL (sz:=4) (e:=e_api_Entry) (xs:=t7.1) (i:=0) rfl Tryz.underlying22 sz45 rfl rfl (c14 hw13))))) ?_
  refine OpsOk.consI rfl rfl rfl (.one rfl) rfl (fun hw13 => (GOk.fr (fr':=[(47,(.fp (e_api_Entry (rd t7.1 0)) 0))]) ⟨DLe.of_eq (cT hw13).symm,trivial⟩ (VOk.g (VOk.to (VOk.fieldFp rfl Tryz.underlying45 rfl sz22 rfl) rfl)))) ?_
  refine OpsOk.consI rfl rfl rfl (.one rfl) rfl (fun hw13 => (GOk.fr (fr':=[(48,(.fp (e_api_Entry (rd t7.1 0)) 3))]) ⟨DLe.of_eq (cT hw13).symm,trivial⟩ (VOk.g (VOk.to (d':=(L 4 e_api_Entry ((rd t7.1 0).List_))) (VOk.loadFp (d:=(L 4 r_api_Entry ((rd t7.1 0).List_))) rfl Tryz.underlying22 rfl rfl rfl) (by rw [r_api_Entry_eq]))))) ?_
  refine OpsOk.consI rfl rfl rfl (.one rfl) rfl (fun hw13 => (GOk.fr (fr':=[(49,(L 4 e_api_Entry ((rd t7.1 0).List_)))]) ⟨DLe.of_eq (cT hw13).symm,trivial⟩ (VOk.g (VOk.lenL (e:=e_api_Entry) (xs:=(rd t7.1 0).List_) rfl Tryz.underlying22 rfl)))) ?_
  refine OpsOk.consI rfl rfl rfl (.one rfl) rfl (fun hw13 => (GOk.fr (fr':=[(50,(.v (.int .i64 (((rd t7.1 0).List_).length:Int))))]) ⟨DLe.of_eq (cT hw13).symm,trivial⟩ (VOk.g (VOk.arith (op:=.eql) (k:=.i64) (a:=(((rd t7.1 0).List_).length:Int)) (b:=1) rfl rfl rfl rfl)))) ?_
  refine .cv (VOk.to (VOk.pickI (b:=((t3.2 == 41) && ((t7.1.length:Int) == 1))) (p:=((((rd t7.1 0).List_).length:Int) == 1)) (q:=false) rfl rfl (fun hp15 => (cT (t_beq hp15))) (fun hp15 => rfl)) (pickAnd ((t3.2 == 41) && ((t7.1.length:Int) == 1)) ((((rd t7.1 0).List_).length:Int) == 1))) rfl rfl ?_
  refine .rn 1 ?_
  refine OpsOk.consI rfl rfl rfl (.one rfl) rfl (fun hw16 => (VOk.g (VOk.mv (d:=(L 4 e_api_Entry t7.1)) rfl rfl))) ?_
  refine OpsOk.consI rfl rfl rfl (.one rfl) rfl (fun hw16 => (GOk.fr (fr':=[(54,(L 4 e_api_Entry t7.1))]) ⟨DLe.of_eq (cT hw16).symm,trivial⟩ (VOk.g (VOk.indexL (sz:=4) (e:=e_api_Entry) (xs:=t7.1) (i:=0) rfl Tryz.underlying22 sz45 rfl rfl (c17 hw16))))) ?_
  refine OpsOk.consI rfl rfl rfl (.one rfl) rfl (fun hw16 => (GOk.fr (fr':=[(55,(.fp (e_api_Entry (rd t7.1 0)) 0))]) ⟨DLe.of_eq (cT hw16).symm,trivial⟩ (VOk.g (VOk.to (VOk.fieldFp rfl Tryz.underlying45 rfl sz22 rfl) rfl)))) ?_
  refine OpsOk.consI rfl rfl rfl (.one rfl) rfl (fun hw16 => (GOk.fr (fr':=[(56,(.fp (e_api_Entry (rd t7.1 0)) 3))]) ⟨DLe.of_eq (cT hw16).symm,trivial⟩ (VOk.g (VOk.to (d':=(L 4 e_api_Entry ((rd t7.1 0).List_))) (VOk.loadFp (d:=(L 4 r_api_Entry ((rd t7.1 0).List_))) rfl Tryz.underlying22 rfl rfl rfl) (by rw [r_api_Entry_eq]))))) ?_
  refine OpsOk.consI rfl rfl rfl (.one rfl) rfl (fun hw16 => (GOk.fr (fr':=[(57,(L 4 e_api_Entry ((rd t7.1 0).List_)))]) ⟨DLe.of_eq (cT hw16).symm,trivial⟩ (VOk.g (VOk.indexL (sz:=4) (e:=e_api_Entry) (xs:=(rd t7.1 0).List_) (i:=0) rfl Tryz.underlying22 sz45 rfl rfl (c18 hw16))))) ?_
  refine OpsOk.consI rfl rfl rfl (.one rfl) rfl (fun hw16 => (GOk.fr (fr':=[(58,(.fp (e_api_Entry (rd ((rd t7.1 0).List_) 0)) 0))]) ⟨DLe.of_eq (cT hw16).symm,trivial⟩ (VOk.g (VOk.to (VOk.fieldFp rfl Tryz.underlying45 rfl sz9 rfl) rfl)))) ?_
  refine OpsOk.consI rfl rfl rfl (.one rfl) rfl (fun hw16 => (GOk.fr (fr':=[(59,(.fp (e_api_Entry (rd ((rd t7.1 0).List_) 0)) 2))]) ⟨DLe.of_eq (cT hw16).symm,trivial⟩ (VOk.g (VOk.loadFp (d:=(S ((rd ((rd t7.1 0).List_) 0).Name))) rfl Tryz.underlying9 rfl rfl rfl)))) ?_
  refine OpsOk.consI rfl rfl rfl (.one rfl) rfl (fun hw16 => (GOk.fr (fr':=[(60,(S ((rd ((rd t7.1 0).List_) 0).Name)))]) ⟨DLe.of_eq (cT hw16).symm,trivial⟩ (VOk.g (VOk.strOp (op:=.eql) (a:=(rd ((rd t7.1 0).List_) 0).Name) (b:=([88]:Str)) rfl rfl rfl rfl)))) ?_
  refine .cv (VOk.to (VOk.pickI (b:=(((t3.2 == 41) && ((t7.1.length:Int) == 1)) && ((((rd t7.1 0).List_).length:Int) == 1))) (p:=(((rd ((rd t7.1 0).List_) 0).Name) == ([88]:Str))) (q:=false) rfl rfl (fun hp19 => (cT (t_beq hp19))) (fun hp19 => rfl)) (pickAnd (((t3.2 == 41) && ((t7.1.length:Int) == 1)) && ((((rd t7.1 0).List_).length:Int) == 1)) (((rd ((rd t7.1 0).List_) 0).Name) == ([88]:Str)))) rfl rfl ?_
  refine .rn 1 ?_
  refine OpsOk.consI rfl rfl rfl (.one rfl) rfl (fun hw20 => (VOk.g (VOk.mv (d:=(.v (.int .i64 t7.2))) rfl rfl))) ?_
  refine OpsOk.consI rfl rfl rfl (.one rfl) rfl (fun hw20 => (GOk.fr (fr':=[(64,(.v (.int .i64 t7.2)))]) ⟨DLe.of_eq (cT hw20).symm,trivial⟩ (VOk.g (VOk.arith (op:=.eql) (k:=.i64) (a:=t7.2) (b:=0) rfl rfl rfl rfl)))) ?_
  refine .cv (VOk.to (VOk.pickI (b:=((((t3.2 == 41) && ((t7.1.length:Int) == 1)) && ((((rd t7.1 0).List_).length:Int) == 1)) && (((rd ((rd t7.1 0).List_) 0).Name) == ([88]:Str)))) (p:=(t7.2 == 0)) (q:=false) rfl rfl (fun hp21 => (cT (t_beq hp21))) (fun hp21 => rfl)) (pickAnd ((((t3.2 == 41) && ((t7.1.length:Int) == 1)) && ((((rd t7.1 0).List_).length:Int) == 1)) && (((rd ((rd t7.1 0).List_) 0).Name) == ([88]:Str))) (t7.2 == 0))) rfl rfl ?_
  refine .rn 1 ?_
  refine OpsOk.consI rfl rfl rfl (.one rfl) rfl (fun hw22 => (VOk.g (VOk.mv (d:=(.v (.int .i64 t9.2))) rfl rfl))) ?_
  refine OpsOk.consI rfl rfl rfl (.one rfl) rfl (fun hw22 => (GOk.fr (fr':=[(68,(.v (.int .i64 t9.2)))]) ⟨DLe.of_eq (cT hw22).symm,trivial⟩ (VOk.g (VOk.arith (op:=.eql) (k:=.i64) (a:=t9.2) (b:=0) rfl rfl rfl rfl)))) ?_
  refine .cv (VOk.to (VOk.pickI (b:=(((((t3.2 == 41) && ((t7.1.length:Int) == 1)) && ((((rd t7.1 0).List_).length:Int) == 1)) && (((rd ((rd t7.1 0).List_) 0).Name) == ([88]:Str))) && (t7.2 == 0))) (p:=(t9.2 == 0)) (q:=false) rfl rfl (fun hp23 => (cT (t_beq hp23))) (fun hp23 => rfl)) (pickAnd (((((t3.2 == 41) && ((t7.1.length:Int) == 1)) && ((((rd t7.1 0).List_).length:Int) == 1)) && (((rd ((rd t7.1 0).List_) 0).Name) == ([88]:Str))) && (t7.2 == 0)) (t9.2 == 0))) rfl rfl ?_
  refine .rn 1 ?_
  refine OpsOk.consI rfl rfl rfl (.one rfl) rfl (fun hw24 => (VOk.g (VOk.to (VOk.fieldB rfl Tryz.underlying28 rfl sz26 rfl rfl) rfl))) ?_
  refine OpsOk.consI rfl rfl rfl (.one rfl) rfl (fun hw24 => (GOk.fr (fr':=[(72,(.bref 11 4))]) ⟨DLe.of_eq (cT hw24).symm,trivial⟩ (VOk.g (VOk.loadB (d:=(L 6 e_api_Node t9.1.Kids)) rfl Tryz.underlying26 rfl rfl rfl rfl)))) ?_
  refine OpsOk.consI rfl rfl rfl (.one rfl) rfl (fun hw24 => (GOk.fr (fr':=[(73,(L 6 e_api_Node t9.1.Kids))]) ⟨DLe.of_eq (cT hw24).symm,trivial⟩ (VOk.g (VOk.lenL (e:=e_api_Node) (xs:=t9.1.Kids) rfl Tryz.underlying26 rfl)))) ?_
  refine OpsOk.consI rfl rfl rfl (.one rfl) rfl (fun hw24 => (GOk.fr (fr':=[(74,(.v (.int .i64 (t9.1.Kids.length:Int))))]) ⟨DLe.of_eq (cT hw24).symm,trivial⟩ (VOk.g (VOk.arith (op:=.eql) (k:=.i64) (a:=(t9.1.Kids.length:Int)) (b:=1) rfl rfl rfl rfl)))) ?_
  refine .cv (VOk.to (VOk.pickI (b:=((((((t3.2 == 41) && ((t7.1.length:Int) == 1)) && ((((rd t7.1 0).List_).length:Int) == 1)) && (((rd ((rd t7.1 0).List_) 0).Name) == ([88]:Str))) && (t7.2 == 0)) && (t9.2 == 0))) (p:=((t9.1.Kids.length:Int) == 1)) (q:=false) rfl rfl (fun hp25 => (cT (t_beq hp25))) (fun hp25 => rfl)) (pickAnd ((((((t3.2 == 41) && ((t7.1.length:Int) == 1)) && ((((rd t7.1 0).List_).length:Int) == 1)) && (((rd ((rd t7.1 0).List_) 0).Name) == ([88]:Str))) && (t7.2 == 0)) && (t9.2 == 0)) ((t9.1.Kids.length:Int) == 1))) rfl rfl ?_
  refine .rn 1 ?_
  refine OpsOk.consI rfl rfl rfl (.one rfl) rfl (fun hw26 => (VOk.g (VOk.to (d':=(.agg (e_api_Node t1.1))) (.loadBAgg rfl Tryz.underlying28 rfl sz28 rfl rfl rfl) (congrArg D.agg (e_api_Node_c t1.1).symm)))) ?_
  refine OpsOk.consI rfl rfl rfl (.one rfl) rfl (fun hw26 => (GOk.fr (fr':=[(78,(.agg (e_api_Node t1.1)))]) ⟨DLe.of_eq (cT hw26).symm,trivial⟩ (GOk.call rfl rfl cl13 rfl (lists_Check.ok (ifT h28 hw26)) rfl))) ?_
  refine OpsOk.consI rfl rfl rfl (.one rfl) rfl (fun hw26 => (GOk.fr (fr':=[(79,(.v (.int .i64 t27)))]) ⟨DLe.of_eq (cT hw26).symm,trivial⟩ (VOk.g (VOk.arith (op:=.eql) (k:=.i64) (a:=t27) (b:=40) rfl rfl rfl rfl)))) ?_
  refine .cv (VOk.to (VOk.pickI (b:=(((((((t3.2 == 41) && ((t7.1.length:Int) == 1)) && ((((rd t7.1 0).List_).length:Int) == 1)) && (((rd ((rd t7.1 0).List_) 0).Name) == ([88]:Str))) && (t7.2 == 0)) && (t9.2 == 0)) && ((t9.1.Kids.length:Int) == 1))) (p:=(t27 == 40)) (q:=false) rfl rfl (fun hp29 => (cT (t_beq hp29))) (fun hp29 => rfl)) (pickAnd (((((((t3.2 == 41) && ((t7.1.length:Int) == 1)) && ((((rd t7.1 0).List_).length:Int) == 1)) && (((rd ((rd t7.1 0).List_) 0).Name) == ([88]:Str))) && (t7.2 == 0)) && (t9.2 == 0)) && ((t9.1.Kids.length:Int) == 1)) (t27 == 40))) rfl rfl ?_
  refine .rn 1 ?_
  exact .dn
 refine Ok.ret ?_
 obtain rfl:=Option.some.inj H
 exact⟨.inl rfl,⟨_,(.cons (.tmp rfl) .nil),rfl⟩,trivial⟩
def watchbilllaw16_ListsForeign (k:Nat) (a0:T_api_Node) (a1:T_api_Node) (a2:T_api_Attr):Option Bool:=((watchbilllaw16_awake k).bind fun (t1:Bool) => (if (!t1)=true then some false else ((watchbilllaw04_Few k a0).bind fun (t3:Bool) => (((if ((!t3) == false)=true then watchbilllaw04_Few k a1 else some default)).bind fun (t6:Bool) => (if (((((!t3) || (!t6)) || (a1.Kind != 1)) || (a1.Name.Space == ([117,114,110,58,105,101,116,102,58,112,97,114,97,109,115,58,120,109,108,58,110,115,58,114,101,115,111,117,114,99,101,45,108,105,115,116,115]:Str))) || (a2.Name.Space == ([]:Str)))=true then some true else ((lists_Decode k a0).bind fun (t15:(List T_api_Entry) × Int) => ((watchbilllaw16_strewn k a0 a1 a2).bind fun (t17:T_api_Node) => ((lists_Decode k t17).bind fun (t19:(List T_api_Entry) × Int) => (((if ((t15.2 == t19.2) == true)=true then watchbillref16_Same k t15.1 t19.1 else some default)).bind fun (t22:Bool) => some ((t15.2 == t19.2) && t22))))))))))
theorem watchbilllaw16_ListsForeign.ok {k:Nat} {a0:T_api_Node} {a1:T_api_Node} {a2:T_api_Attr} {r:Bool} (H:watchbilllaw16_ListsForeign k a0 a1 a2=some r):Vx.Fn Tryz.prog 4 [(.agg (e_api_Node a0)),(.agg (e_api_Node a1)),(.agg (e_api_Attr a2))] [] (.v (.bool r)) []:=by
 unfold watchbilllaw16_ListsForeign at H
 refine Vx.Fn.of_okR Tryz.func4 rfl (Nat.le_of_ble_eq_true rfl) ?_
 refine Ok.seq ?_
 refine Ok.region (σ':=⟨[(3,(.bref 3 0)),(4,(.bref 4 0)),(5,(.bref 5 0))],[(3,(bxN a0)),(4,(bxN a1)),(5,(.box .ex (c_api_Attr a2)))]⟩) ?_ ?_
 ·refine OpsOk.cut1 0 (.agg (c_api_Node a0)) (DLe.of_eq (congrArg D.agg (e_api_Node_c _).symm)) ?_
  refine .rn 1 ?_
  refine OpsOk.cut1 1 (.agg (c_api_Node a1)) (DLe.of_eq (congrArg D.agg (e_api_Node_c _).symm)) ?_
  refine .rn 3 ?_
  exact .dn
 refine Ok.seq ?_
 refine Ok.seq ?_
 obtain⟨t1,h2,H⟩:=bindE H
 refine Ok.region (σ':=⟨[(3,(.bref 3 0)),(4,(.bref 4 0)),(5,(.bref 5 0)),(12,(.v (.bool (!t1))))],[(3,(bxN a0)),(4,(bxN a1)),(5,(.box .ex (c_api_Attr a2)))]⟩) ?_ ?_
 ·refine .cg (GOk.call rfl rfl cl7 rfl (watchbilllaw16_awake.ok h2) rfl) rfl rfl ?_
  refine .rn 1 ?_
  exact .dn
 refine Ok.test (b:=(!t1)) rfl (fun hb26 => ?_) (fun hb26 => ?_)
 ·replace H:=ifT H hb26
  refine Ok.seq ?_
  refine .rg [(6,(.v (.bool false)))] [] ?_
  refine Ok.ret ?_
  obtain rfl:=Option.some.inj H
  exact⟨.inl rfl,⟨_,(.cons (.tmp rfl) .nil),rfl⟩,trivial⟩
 ·replace H:=ifF H hb26
  refine Ok.skip ?_
  refine Ok.seq ?_
  refine Ok.seq ?_
  obtain⟨t3,h4,H⟩:=bindE H
  obtain⟨t6,h7,H⟩:=bindE H
  refine Ok.region (σ':=⟨[(3,(.bref 3 0)),(4,(.bref 4 0)),(5,(.bref 5 0)),(37,(.v (.bool (((((!t3) || (!t6)) || (a1.Kind != 1)) || (a1.Name.Space == ([117,114,110,58,105,101,116,102,58,112,97,114,97,109,115,58,120,109,108,58,110,115,58,114,101,115,111,117,114,99,101,45,108,105,115,116,115]:Str))) || (a2.Name.Space == ([]:Str))))))],[(3,(bxN a0)),(4,(bxN a1)),(5,(.box .ex (c_api_Attr a2)))]⟩) ?_ ?_
  ·refine .cv (VOk.to (d':=(.agg (e_api_Node a0))) (.loadBAgg rfl Tryz.underlying28 rfl sz28 rfl rfl rfl) (congrArg D.agg (e_api_Node_c a0).symm)) rfl rfl ?_
   refine .cg (GOk.call rfl rfl cl9 rfl (watchbilllaw04_Few.ok h4) rfl) rfl rfl ?_
   refine .rn 2 ?_
   refine OpsOk.consI rfl rfl rfl (.one rfl) rfl (fun hw5 => (VOk.g (VOk.to (d':=(.agg (e_api_Node a1))) (.loadBAgg rfl Tryz.underlying28 rfl sz28 rfl rfl rfl) (congrArg D.agg (e_api_Node_c a1).symm)))) ?_
   refine OpsOk.consI rfl rfl rfl (.one rfl) rfl (fun hw5 => (GOk.fr (fr':=[(17,(.agg (e_api_Node a1)))]) ⟨DLe.of_eq (cT hw5).symm,trivial⟩ (GOk.call rfl rfl cl9 rfl (watchbilllaw04_Few.ok (ifT h7 hw5)) rfl))) ?_
   refine OpsOk.consI rfl rfl rfl (.one rfl) rfl (fun hw5 => (GOk.fr (fr':=[(18,(.v (.bool t6)))]) ⟨DLe.of_eq (cT hw5).symm,trivial⟩ (VOk.g (VOk.not (b:=t6) rfl rfl)))) ?_
   refine .cv (VOk.to (VOk.pickI (b:=(!t3)) (p:=true) (q:=(!t6)) rfl rfl (fun hp8 => rfl) (fun hp8 => (cT (f_beq hp8)))) (pickOr (!t3) (!t6))) rfl rfl ?_
   refine .rn 1 ?_
   refine OpsOk.consI rfl rfl rfl (.one rfl) rfl (fun hw9 => (VOk.g (VOk.to (VOk.fieldB rfl Tryz.underlying28 rfl sz3 rfl rfl) rfl))) ?_
   refine OpsOk.consI rfl rfl rfl (.one rfl) rfl (fun hw9 => (GOk.fr (fr':=[(22,(.bref 4 0))]) ⟨DLe.of_eq (cT hw9).symm,trivial⟩ (VOk.g (VOk.loadB (d:=(.v (.int .i64 a1.Kind))) rfl Tryz.underlying3 rfl rfl rfl rfl)))) ?_
   refine OpsOk.consI rfl rfl rfl (.one rfl) rfl (fun hw9 => (GOk.fr (fr':=[(23,(.v (.int .i64 a1.Kind)))]) ⟨DLe.of_eq (cT hw9).symm,trivial⟩ (VOk.g (VOk.arith (op:=.neq) (k:=.i64) (a:=a1.Kind) (b:=1) rfl rfl rfl rfl)))) ?_
   refine .cv (VOk.to (VOk.pickI (b:=((!t3) || (!t6))) (p:=true) (q:=(a1.Kind != 1)) rfl rfl (fun hp10 => rfl) (fun hp10 => (cT (f_beq hp10)))) (pickOr ((!t3) || (!t6)) (a1.Kind != 1))) rfl rfl ?_
   refine .rn 1 ?_
   refine OpsOk.consI rfl rfl rfl (.one rfl) rfl (fun hw11 => (VOk.g (VOk.to (VOk.fieldB rfl Tryz.underlying28 rfl sz24 rfl rfl) rfl))) ?_
   refine OpsOk.consI rfl rfl rfl (.one rfl) rfl (fun hw11 => (GOk.fr (fr':=[(27,(.bref 4 1))]) ⟨DLe.of_eq (cT hw11).symm,trivial⟩ (VOk.g (VOk.to (VOk.fieldB rfl Tryz.underlying24 rfl sz9 rfl rfl) rfl)))) ?_
   refine OpsOk.consI rfl rfl rfl (.one rfl) rfl (fun hw11 => (GOk.fr (fr':=[(28,(.bref 4 1))]) ⟨DLe.of_eq (cT hw11).symm,trivial⟩ (VOk.g (VOk.loadB (d:=(S a1.Name.Space)) rfl Tryz.underlying9 rfl rfl rfl rfl)))) ?_
   refine OpsOk.consI rfl rfl rfl (.one rfl) rfl (fun hw11 => (GOk.fr (fr':=[(29,(S a1.Name.Space))]) ⟨DLe.of_eq (cT hw11).symm,trivial⟩ (VOk.g (VOk.strOp (op:=.eql) (a:=a1.Name.Space) (b:=([117,114,110,58,105,101,116,102,58,112,97,114,97,109,115,58,120,109,108,58,110,115,58,114,101,115,111,117,114,99,101,45,108,105,115,116,115]:Str)) rfl rfl rfl rfl)))) ?_
   refine .cv (VOk.to (VOk.pickI (b:=(((!t3) || (!t6)) || (a1.Kind != 1))) (p:=true) (q:=(a1.Name.Space == ([117,114,110,58,105,101,116,102,58,112,97,114,97,109,115,58,120,109,108,58,110,115,58,114,101,115,111,117,114,99,101,45,108,105,115,116,115]:Str))) rfl rfl (fun hp12 => rfl) (fun hp12 => (cT (f_beq hp12)))) (pickOr (((!t3) || (!t6)) || (a1.Kind != 1)) (a1.Name.Space == ([117,114,110,58,105,101,116,102,58,112,97,114,97,109,115,58,120,109,108,58,110,115,58,114,101,115,111,117,114,99,101,45,108,105,115,116,115]:Str)))) rfl rfl ?_
   refine .rn 1 ?_
   refine OpsOk.consI rfl rfl rfl (.one rfl) rfl (fun hw13 => (VOk.g (VOk.to (VOk.fieldB rfl Tryz.underlying41 rfl sz24 rfl rfl) rfl))) ?_
   refine OpsOk.consI rfl rfl rfl (.one rfl) rfl (fun hw13 => (GOk.fr (fr':=[(33,(.bref 5 0))]) ⟨DLe.of_eq (cT hw13).symm,trivial⟩ (VOk.g (VOk.to (VOk.fieldB rfl Tryz.underlying24 rfl sz9 rfl rfl) rfl)))) ?_
   refine OpsOk.consI rfl rfl rfl (.one rfl) rfl (fun hw13 => (GOk.fr (fr':=[(34,(.bref 5 0))]) ⟨DLe.of_eq (cT hw13).symm,trivial⟩ (VOk.g (VOk.loadB (d:=(S a2.Name.Space)) rfl Tryz.underlying9 rfl rfl rfl rfl)))) ?_
   refine OpsOk.consI rfl rfl rfl (.one rfl) rfl (fun hw13 => (GOk.fr (fr':=[(35,(S a2.Name.Space))]) ⟨DLe.of_eq (cT hw13).symm,trivial⟩ (VOk.g (VOk.strOp (op:=.eql) (a:=a2.Name.Space) (b:=([]:Str)) rfl rfl rfl rfl)))) ?_
   refine .cv (VOk.to (VOk.pickI (b:=((((!t3) || (!t6)) || (a1.Kind != 1)) || (a1.Name.Space == ([117,114,110,58,105,101,116,102,58,112,97,114,97,109,115,58,120,109,108,58,110,115,58,114,101,115,111,117,114,99,101,45,108,105,115,116,115]:Str)))) (p:=true) (q:=(a2.Name.Space == ([]:Str))) rfl rfl (fun hp14 => rfl) (fun hp14 => (cT (f_beq hp14)))) (pickOr ((((!t3) || (!t6)) || (a1.Kind != 1)) || (a1.Name.Space == ([117,114,110,58,105,101,116,102,58,112,97,114,97,109,115,58,120,109,108,58,110,115,58,114,101,115,111,117,114,99,101,45,108,105,115,116,115]:Str))) (a2.Name.Space == ([]:Str)))) rfl rfl ?_
   exact .dn
  refine Ok.test (b:=(((((!t3) || (!t6)) || (a1.Kind != 1)) || (a1.Name.Space == ([117,114,110,58,105,101,116,102,58,112,97,114,97,109,115,58,120,109,108,58,110,115,58,114,101,115,111,117,114,99,101,45,108,105,115,116,115]:Str))) || (a2.Name.Space == ([]:Str)))) rfl (fun hb25 => ?_) (fun hb25 => ?_)
  ·replace H:=ifT H hb25
   refine Ok.seq ?_
   refine .rg [(6,(.v (.bool true)))] [] ?_
   refine Ok.ret ?_
   obtain rfl:=Option.some.inj H
   exact⟨.inl rfl,⟨_,(.cons (.tmp rfl) .nil),rfl⟩,trivial⟩
  ·replace H:=ifF H hb25
   refine Ok.skip ?_
   refine Ok.seq ?_
   obtain⟨t15,h16,H⟩:=bindE H
   refine Ok.region (σ':=⟨[(3,(.bref 3 0)),(4,(.bref 4 0)),(5,(.bref 5 0)),(7,(L 4 e_api_Entry t15.1)),(8,(.v (.int .i64 t15.2)))],[(3,(bxN a0)),(4,(bxN a1)),(5,(.box .ex (c_api_Attr a2)))]⟩) ?_ ?_
   ·refine .cv (VOk.to (d':=(.agg (e_api_Node a0))) (.loadBAgg rfl Tryz.underlying28 rfl sz28 rfl rfl rfl) (congrArg D.agg (e_api_Node_c a0).symm)) rfl rfl ?_
    refine .cg (GOk.call rfl rfl cl10 rfl (lists_Decode.ok h16) rfl) rfl rfl ?_
    refine .rn 5 ?_
    exact .dn
   refine Ok.seq ?_
   obtain⟨t17,h18,H⟩:=bindE H
   obtain⟨t19,h20,H⟩:=bindE H
   refine Ok.region (σ':=⟨[(7,(L 4 e_api_Entry t15.1)),(8,(.v (.int .i64 t15.2))),(9,(L 4 e_api_Entry t19.1)),(10,(.v (.int .i64 t19.2)))],[]⟩) ?_ ?_
   ·refine .cv (VOk.to (d':=(.agg (e_api_Node a0))) (.loadBAgg rfl Tryz.underlying28 rfl sz28 rfl rfl rfl) (congrArg D.agg (e_api_Node_c a0).symm)) rfl rfl ?_
    refine .cv (VOk.to (d':=(.agg (e_api_Node a1))) (.loadBAgg rfl Tryz.underlying28 rfl sz28 rfl rfl rfl) (congrArg D.agg (e_api_Node_c a1).symm)) rfl rfl ?_
    refine .rn 1 ?_
    refine .cg (GOk.call rfl rfl cl14 rfl (watchbilllaw16_strewn.ok h18) rfl) rfl rfl ?_
    refine .cg (GOk.call rfl rfl cl10 rfl (lists_Decode.ok h20) rfl) rfl rfl ?_
    refine .rn 5 ?_
    exact .dn
   refine Ok.seq ?_
   obtain⟨t22,h23,H⟩:=bindE H
   refine Ok.region (σ':=⟨[(6,(.v (.bool ((t15.2 == t19.2) && t22))))],[]⟩) ?_ ?_
   ·refine .rn 4 ?_
    refine OpsOk.consI rfl rfl rfl (.one rfl) rfl (fun hw21 => (VOk.g (VOk.mv (d:=(L 4 e_api_Entry t15.1)) rfl rfl))) ?_
    refine OpsOk.consI rfl rfl rfl (.one rfl) rfl (fun hw21 => (VOk.g (VOk.mv (d:=(L 4 e_api_Entry t19.1)) rfl rfl))) ?_
    refine OpsOk.consI rfl rfl rfl (.one rfl) rfl (fun hw21 => (GOk.fr (fr':=[(55,(L 4 e_api_Entry t15.1)),(56,(L 4 e_api_Entry t19.1))]) ⟨DLe.of_eq (cT hw21).symm,DLe.of_eq (cT hw21).symm,trivial⟩ (GOk.call rfl rfl cl12 rfl (watchbillref16_Same.ok (ifT h23 hw21)) rfl))) ?_
    refine .cv (VOk.to (VOk.pickI (b:=(t15.2 == t19.2)) (p:=t22) (q:=false) rfl rfl (fun hp24 => (cT (t_beq hp24))) (fun hp24 => rfl)) (pickAnd (t15.2 == t19.2) t22)) rfl rfl ?_
    refine .rn 1 ?_
    exact .dn
   refine Ok.ret ?_
   obtain rfl:=Option.some.inj H
   exact⟨.inl rfl,⟨_,(.cons (.tmp rfl) .nil),rfl⟩,trivial⟩
end Go.Proofs.YtapbckofgcmgmaaGreatDoor.Sh
