import Derived.Test.YtapbckofgcmgmaaGreatDoorPureT
namespace Go.Proofs.YtapbckofgcmgmaaGreatDoor.Sh
open Go Go.RowKit Go.Proofs.Vx
set_option linter.unusedVariables false
set_option maxRecDepth 100000
set_option maxHeartbeats 1000000
def watchbilllaw16_awake (k:Nat):Option Bool:=((tree_Parse k ([60,108,105,115,116,32,120,109,108,110,115,61,39,117,114,110,58,105,101,116,102,58,112,97,114,97,109,115,58,120,109,108,58,110,115,58,114,101,115,111,117,114,99,101,45,108,105,115,116,115,39,32,110,97,109,101,61,39,97,39,62,60,101,110,116,114,121,32,117,114,105,61,39,120,39,47,62,60,101,110,116,114,121,32,117,114,105,61,39,120,39,47,62,60,47,108,105,115,116,62]:Str)).bind fun (t1:T_api_Node × Int × Int) => ((lists_DecodeList k t1.1).bind fun (t3:T_api_Entry × Int) => ((tree_Parse k ([60,114,101,115,111,117,114,99,101,45,108,105,115,116,115,32,120,109,108,110,115,61,39,117,114,110,58,105,101,116,102,58,112,97,114,97,109,115,58,120,109,108,58,110,115,58,114,101,115,111,117,114,99,101,45,108,105,115,116,115,39,62,60,108,105,115,116,62,60,101,110,116,114,121,32,117,114,105,61,39,120,39,62,60,100,105,115,112,108,97,121,45,110,97,109,101,62,32,88,32,60,47,100,105,115,112,108,97,121,45,110,97,109,101,62,60,47,101,110,116,114,121,62,60,47,108,105,115,116,62,60,47,114,101,115,111,117,114,99,101,45,108,105,115,116,115,62]:Str)).bind fun (t5:T_api_Node × Int × Int) => ((lists_Decode k t5.1).bind fun (t7:(List T_api_Entry) × Int) => ((lists_Encode k t7.1).bind fun (t9:T_api_Node × Int) => (if ((((t3.2 == 41) && ((t7.1.length:Int) == 1)) == true)=true→(0:Int) ≤ 0 ∧ 0 < (t7.1.length:Int)) then (if (((((t3.2 == 41) && ((t7.1.length:Int) == 1)) && ((((rd t7.1 0).List_).length:Int) == 1)) == true)=true→(0:Int) ≤ 0 ∧ 0 < (t7.1.length:Int)) then (if (((((t3.2 == 41) && ((t7.1.length:Int) == 1)) && ((((rd t7.1 0).List_).length:Int) == 1)) == true)=true→(0:Int) ≤ 0 ∧ 0 < (((rd t7.1 0).List_).length:Int)) then (((if ((((((((t3.2 == 41) && ((t7.1.length:Int) == 1)) && ((((rd t7.1 0).List_).length:Int) == 1)) && (((rd ((rd t7.1 0).List_) 0).Name) == ([88]:Str))) && (t7.2 == 0)) && (t9.2 == 0)) && ((t9.1.Kids.length:Int) == 1)) == true)=true then lists_Check k t1.1 else some default)).bind fun (t27:Int) => some ((((((((t3.2 == 41) && ((t7.1.length:Int) == 1)) && ((((rd t7.1 0).List_).length:Int) == 1)) && (((rd ((rd t7.1 0).List_) 0).Name) == ([88]:Str))) && (t7.2 == 0)) && (t9.2 == 0)) && ((t9.1.Kids.length:Int) == 1)) && (t27 == 40))) else none) else none) else none))))))
theorem watchbilllaw16_awake.ok {k:Nat} {r:Bool} (H:watchbilllaw16_awake k=some r):Vx.Fn Tryz.prog 7 [] [] (.v (.bool r)) []:=by
 unfold watchbilllaw16_awake at H
 refine Vx.Fn.of_okR Tryz.func7 rfl (Nat.le_of_ble_eq_true rfl) ?_
 refine Ok.seq ?_
 refine .rg [] [] ?_
 refine Ok.seq ?_
 obtain⟨t1,h2,H⟩:=bindE H
 refine Ok.region (σ':=⟨[(1,(.bref 1 0))],[(1,(.box .ex (c_api_Node t1.1)))]⟩) ?_ ?_
 ·refine .cg (GOk.call rfl rfl cl20 rfl (tree_Parse.ok h2) rfl) rfl rfl ?_
  refine .rn 5 ?_
  refine OpsOk.cut1 15 (.agg [(.v (.int .i64 t1.1.Kind)),(S t1.1.Name.Space),(S t1.1.Name.Local),(L 3 e_api_Attr t1.1.Attrs),(L 6 e_api_Node t1.1.Kids),(S t1.1.Text)]) (DLe.of_eq (congrArg D.agg (e_api_Node_c _).symm)) ?_
  refine .rn 3 ?_
  exact .dn
 refine Ok.seq ?_
 obtain⟨t3,h4,H⟩:=bindE H
 refine Ok.region (σ':=⟨[(1,(.bref 1 0)),(5,(.v (.int .i64 t3.2)))],[(1,(.box .ex (c_api_Node t1.1)))]⟩) ?_ ?_
 ·refine .cv (VOk.to (d':=(.agg (e_api_Node t1.1))) (.loadBAgg rfl Tryz.underlying28 rfl sz28 rfl rfl rfl) (congrArg D.agg (e_api_Node_c t1.1).symm)) rfl rfl ?_
  refine .cg (GOk.call rfl rfl cl21 rfl (lists_DecodeList.ok h4) rfl) rfl rfl ?_
  refine .rn 4 ?_
  refine OpsOk.cut1 21 (.agg [(.v (.int .i64 t3.1.Kind)),(S t3.1.URI),(S t3.1.Name),(L 4 e_api_Entry t3.1.List_)]) (DLe.of_eq (congrArg D.agg (e_api_Entry_c _).symm)) ?_
  refine .rn 2 ?_
  exact .dn
 refine Ok.seq ?_
 obtain⟨t5,h6,H⟩:=bindE H
 refine Ok.region (σ':=⟨[(1,(.bref 1 0)),(5,(.v (.int .i64 t3.2))),(6,(.bref 6 0))],[(1,(.box .ex (c_api_Node t1.1))),(6,(.box .ex (c_api_Node t5.1)))]⟩) ?_ ?_
 ·refine .cg (GOk.call rfl rfl cl20 rfl (tree_Parse.ok h6) rfl) rfl rfl ?_
  refine .rn 5 ?_
  refine OpsOk.cut1 25 (.agg [(.v (.int .i64 t5.1.Kind)),(S t5.1.Name.Space),(S t5.1.Name.Local),(L 3 e_api_Attr t5.1.Attrs),(L 6 e_api_Node t5.1.Kids),(S t5.1.Text)]) (DLe.of_eq (congrArg D.agg (e_api_Node_c _).symm)) ?_
  refine .rn 3 ?_
  exact .dn
 refine Ok.seq ?_
 obtain⟨t7,h8,H⟩:=bindE H
 refine Ok.region (σ':=⟨[(1,(.bref 1 0)),(5,(.v (.int .i64 t3.2))),(9,(L 4 e_api_Entry t7.1)),(10,(.v (.int .i64 t7.2)))],[(1,(.box .ex (c_api_Node t1.1)))]⟩) ?_ ?_
 ·refine .cv (VOk.to (d':=(.agg (e_api_Node t5.1))) (.loadBAgg rfl Tryz.underlying28 rfl sz28 rfl rfl rfl) (congrArg D.agg (e_api_Node_c t5.1).symm)) rfl rfl ?_
  refine .cg (GOk.call rfl rfl cl10 rfl (lists_Decode.ok h8) rfl) rfl rfl ?_
  refine .rn 5 ?_
  exact .dn
 refine Ok.seq ?_
 obtain⟨t9,h10,H⟩:=bindE H
 refine Ok.region (σ':=⟨[(1,(.bref 1 0)),(5,(.v (.int .i64 t3.2))),(9,(L 4 e_api_Entry t7.1)),(10,(.v (.int .i64 t7.2))),(11,(.bref 11 0)),(12,(.v (.int .i64 t9.2)))],[(1,(.box .ex (c_api_Node t1.1))),(11,(.box .ex (c_api_Node t9.1)))]⟩) ?_ ?_
 ·refine .rn 1 ?_
  refine .cg (GOk.call rfl rfl cl11 rfl (lists_Encode.ok h10) rfl) rfl rfl ?_
  refine .rn 4 ?_
  refine OpsOk.cut1 36 (.agg [(.v (.int .i64 t9.1.Kind)),(S t9.1.Name.Space),(S t9.1.Name.Local),(L 3 e_api_Attr t9.1.Attrs),(L 6 e_api_Node t9.1.Kids),(S t9.1.Text)]) (DLe.of_eq (congrArg D.agg (e_api_Node_c _).symm)) ?_
  refine .rn 2 ?_
  exact .dn
 refine Ok.seq ?_
 obtain⟨c14,H⟩:=assertE H
 obtain⟨c17,H⟩:=assertE H
 obtain⟨c18,H⟩:=assertE H
 obtain⟨t27,h28,H⟩:=bindE H
 refine Ok.region (σ':=⟨[(0,(.v (.bool ((((((((t3.2 == 41) && ((t7.1.length:Int) == 1)) && ((((rd t7.1 0).List_).length:Int) == 1)) && (((rd ((rd t7.1 0).List_) 0).Name) == ([88]:Str))) && (t7.2 == 0)) && (t9.2 == 0)) && ((t9.1.Kids.length:Int) == 1)) && (t27 == 40)))))],[]⟩) ?_ ?_
 ·refine .rn 3 ?_
  refine OpsOk.consI rfl rfl rfl (.one rfl) rfl (fun hw11 => (VOk.g (VOk.mv (d:=(L 4 e_api_Entry t7.1)) rfl rfl))) ?_
  refine OpsOk.consI rfl rfl rfl (.one rfl) rfl (fun hw11 => (GOk.fr (fr':=[(41,(L 4 e_api_Entry t7.1))]) ⟨DLe.of_eq (cT hw11).symm,trivial⟩ (VOk.g (VOk.lenL (e:=e_api_Entry) (xs:=t7.1) rfl Tryz.underlying22 rfl)))) ?_
  refine OpsOk.consI rfl rfl rfl (.one rfl) rfl (fun hw11 => (GOk.fr (fr':=[(42,(.v (.int .i64 (t7.1.length:Int))))]) ⟨DLe.of_eq (cT hw11).symm,trivial⟩ (VOk.g (VOk.arith (op:=.eql) (k:=.i64) (a:=(t7.1.length:Int)) (b:=1) rfl rfl rfl rfl)))) ?_
  refine .cv (VOk.to (VOk.pickI (b:=(t3.2 == 41)) (p:=((t7.1.length:Int) == 1)) (q:=false) rfl rfl (fun hp12 => (cT (t_beq hp12))) (fun hp12 => rfl)) (pickAnd (t3.2 == 41) ((t7.1.length:Int) == 1))) rfl rfl ?_
  refine .rn 1 ?_
  refine OpsOk.consI rfl rfl rfl (.one rfl) rfl (fun hw13 => (VOk.g (VOk.mv (d:=(L 4 e_api_Entry t7.1)) rfl rfl))) ?_
  refine OpsOk.consI rfl rfl rfl (.one rfl) rfl (fun hw13 => (GOk.fr (fr':=[(46,(L 4 e_api_Entry t7.1))]) ⟨DLe.of_eq (cT hw13).symm,trivial⟩ (VOk.g (VOk.indexL (sz:=4) (e:=e_api_Entry) (xs:=t7.1) (i:=0) rfl Tryz.underlying22 sz45 rfl rfl (c14 hw13))))) ?_
  refine OpsOk.consI rfl rfl rfl (.one rfl) rfl (fun hw13 => (GOk.fr (fr':=[(47,(.fp (e_api_Entry (rd t7.1 0)) 0))]) ⟨DLe.of_eq (cT hw13).symm,trivial⟩ (VOk.g (VOk.to (VOk.fieldFp rfl Tryz.underlying45 rfl sz22 rfl) rfl)))) ?_
  refine OpsOk.consI rfl rfl rfl (.one rfl) rfl (fun hw13 => (GOk.fr (fr':=[(48,(.fp (e_api_Entry (rd t7.1 0)) 3))]) ⟨DLe.of_eq (cT hw13).symm,trivial⟩ (VOk.g (VOk.to (d':=(L 4 e_api_Entry ((rd t7.1 0).List_))) (VOk.loadFp (d:=(L 4 r_api_Entry ((rd t7.1 0).List_))) rfl Tryz.underlying22 rfl rfl rfl) (by rw [r_api_Entry_eq]))))) ?_
  refine OpsOk.consI rfl rfl rfl (.one rfl) rfl (fun hw13 => (GOk.fr (fr':=[(49,(L 4 e_api_Entry ((rd t7.1 0).List_)))]) ⟨DLe.of_eq (cT hw13).symm,trivial⟩ (VOk.g (VOk.lenL (e:=e_api_Entry) (xs:=(rd t7.1 0).List_) rfl Tryz.underlying22 rfl)))) ?_
  refine OpsOk.consI rfl rfl rfl (.one rfl) rfl (fun hw13 => (GOk.fr (fr':=[(50,(.v (.int .i64 (((rd t7.1 0).List_).length:Int))))]) ⟨DLe.of_eq (cT hw13).symm,trivial⟩ (VOk.g (VOk.arith (op:=.eql) (k:=.i64) (a:=(((rd t7.1 0).List_).length:Int)) (b:=1) rfl rfl rfl rfl)))) ?_
  refine .cv (VOk.to (VOk.pickI (b:=((t3.2 == 41) && ((t7.1.length:Int) == 1))) (p:=((((rd t7.1 0).List_).length:Int) == 1)) (q:=false) rfl rfl (fun hp15 => (cT (t_beq hp15))) (fun hp15 => rfl)) (pickAnd ((t3.2 == 41) && ((t7.1.length:Int) == 1)) ((((rd t7.1 0).List_).length:Int) == 1))) rfl rfl ?_
  refine .rn 1 ?_
  refine OpsOk.consI rfl rfl rfl (.one rfl) rfl (fun hw16 => (VOk.g (VOk.mv (d:=(L 4 e_api_Entry t7.1)) rfl rfl))) ?_
  refine OpsOk.consI rfl rfl rfl (.one rfl) rfl (fun hw16 => (GOk.fr (fr':=[(54,(L 4 e_api_Entry t7.1))]) ⟨DLe.of_eq (cT hw16).symm,trivial⟩ (VOk.g (VOk.indexL (sz:=4) (e:=e_api_Entry) (xs:=t7.1) (i:=0) rfl Tryz.underlying22 sz45 rfl rfl (c17 hw16))))) ?_
  refine OpsOk.consI rfl rfl rfl (.one rfl) rfl (fun hw16 => (GOk.fr (fr':=[(55,(.fp (e_api_Entry (rd t7.1 0)) 0))]) ⟨DLe.of_eq (cT hw16).symm,trivial⟩ (VOk.g (VOk.to (VOk.fieldFp rfl Tryz.underlying45 rfl sz22 rfl) rfl)))) ?_
  refine OpsOk.consI rfl rfl rfl (.one rfl) rfl (fun hw16 => (GOk.fr (fr':=[(56,(.fp (e_api_Entry (rd t7.1 0)) 3))]) ⟨DLe.of_eq (cT hw16).symm,trivial⟩ (VOk.g (VOk.to (d':=(L 4 e_api_Entry ((rd t7.1 0).List_))) (VOk.loadFp (d:=(L 4 r_api_Entry ((rd t7.1 0).List_))) rfl Tryz.underlying22 rfl rfl rfl) (by rw [r_api_Entry_eq]))))) ?_
  refine OpsOk.consI rfl rfl rfl (.one rfl) rfl (fun hw16 => (GOk.fr (fr':=[(57,(L 4 e_api_Entry ((rd t7.1 0).List_)))]) ⟨DLe.of_eq (cT hw16).symm,trivial⟩ (VOk.g (VOk.indexL (sz:=4) (e:=e_api_Entry) (xs:=(rd t7.1 0).List_) (i:=0) rfl Tryz.underlying22 sz45 rfl rfl (c18 hw16))))) ?_
  refine OpsOk.consI rfl rfl rfl (.one rfl) rfl (fun hw16 => (GOk.fr (fr':=[(58,(.fp (e_api_Entry (rd ((rd t7.1 0).List_) 0)) 0))]) ⟨DLe.of_eq (cT hw16).symm,trivial⟩ (VOk.g (VOk.to (VOk.fieldFp rfl Tryz.underlying45 rfl sz9 rfl) rfl)))) ?_
  refine OpsOk.consI rfl rfl rfl (.one rfl) rfl (fun hw16 => (GOk.fr (fr':=[(59,(.fp (e_api_Entry (rd ((rd t7.1 0).List_) 0)) 2))]) ⟨DLe.of_eq (cT hw16).symm,trivial⟩ (VOk.g (VOk.loadFp (d:=(S ((rd ((rd t7.1 0).List_) 0).Name))) rfl Tryz.underlying9 rfl rfl rfl)))) ?_
  refine OpsOk.consI rfl rfl rfl (.one rfl) rfl (fun hw16 => (GOk.fr (fr':=[(60,(S ((rd ((rd t7.1 0).List_) 0).Name)))]) ⟨DLe.of_eq (cT hw16).symm,trivial⟩ (VOk.g (VOk.strOp (op:=.eql) (a:=(rd ((rd t7.1 0).List_) 0).Name) (b:=([88]:Str)) rfl rfl rfl rfl)))) ?_
  refine .cv (VOk.to (VOk.pickI (b:=(((t3.2 == 41) && ((t7.1.length:Int) == 1)) && ((((rd t7.1 0).List_).length:Int) == 1))) (p:=(((rd ((rd t7.1 0).List_) 0).Name) == ([88]:Str))) (q:=false) rfl rfl (fun hp19 => (cT (t_beq hp19))) (fun hp19 => rfl)) (pickAnd (((t3.2 == 41) && ((t7.1.length:Int) == 1)) && ((((rd t7.1 0).List_).length:Int) == 1)) (((rd ((rd t7.1 0).List_) 0).Name) == ([88]:Str)))) rfl rfl ?_
  refine .rn 1 ?_
  refine OpsOk.consI rfl rfl rfl (.one rfl) rfl (fun hw20 => (VOk.g (VOk.mv (d:=(.v (.int .i64 t7.2))) rfl rfl))) ?_
  refine OpsOk.consI rfl rfl rfl (.one rfl) rfl (fun hw20 => (GOk.fr (fr':=[(64,(.v (.int .i64 t7.2)))]) ⟨DLe.of_eq (cT hw20).symm,trivial⟩ (VOk.g (VOk.arith (op:=.eql) (k:=.i64) (a:=t7.2) (b:=0) rfl rfl rfl rfl)))) ?_
  refine .cv (VOk.to (VOk.pickI (b:=((((t3.2 == 41) && ((t7.1.length:Int) == 1)) && ((((rd t7.1 0).List_).length:Int) == 1)) && (((rd ((rd t7.1 0).List_) 0).Name) == ([88]:Str)))) (p:=(t7.2 == 0)) (q:=false) rfl rfl (fun hp21 => (cT (t_beq hp21))) (fun hp21 => rfl)) (pickAnd ((((t3.2 == 41) && ((t7.1.length:Int) == 1)) && ((((rd t7.1 0).List_).length:Int) == 1)) && (((rd ((rd t7.1 0).List_) 0).Name) == ([88]:Str))) (t7.2 == 0))) rfl rfl ?_
  refine .rn 1 ?_
  refine OpsOk.consI rfl rfl rfl (.one rfl) rfl (fun hw22 => (VOk.g (VOk.mv (d:=(.v (.int .i64 t9.2))) rfl rfl))) ?_
  refine OpsOk.consI rfl rfl rfl (.one rfl) rfl (fun hw22 => (GOk.fr (fr':=[(68,(.v (.int .i64 t9.2)))]) ⟨DLe.of_eq (cT hw22).symm,trivial⟩ (VOk.g (VOk.arith (op:=.eql) (k:=.i64) (a:=t9.2) (b:=0) rfl rfl rfl rfl)))) ?_
  refine .cv (VOk.to (VOk.pickI (b:=(((((t3.2 == 41) && ((t7.1.length:Int) == 1)) && ((((rd t7.1 0).List_).length:Int) == 1)) && (((rd ((rd t7.1 0).List_) 0).Name) == ([88]:Str))) && (t7.2 == 0))) (p:=(t9.2 == 0)) (q:=false) rfl rfl (fun hp23 => (cT (t_beq hp23))) (fun hp23 => rfl)) (pickAnd (((((t3.2 == 41) && ((t7.1.length:Int) == 1)) && ((((rd t7.1 0).List_).length:Int) == 1)) && (((rd ((rd t7.1 0).List_) 0).Name) == ([88]:Str))) && (t7.2 == 0)) (t9.2 == 0))) rfl rfl ?_
  refine .rn 1 ?_
  refine OpsOk.consI rfl rfl rfl (.one rfl) rfl (fun hw24 => (VOk.g (VOk.to (VOk.fieldB rfl Tryz.underlying28 rfl sz26 rfl rfl) rfl))) ?_
  refine OpsOk.consI rfl rfl rfl (.one rfl) rfl (fun hw24 => (GOk.fr (fr':=[(72,(.bref 11 4))]) ⟨DLe.of_eq (cT hw24).symm,trivial⟩ (VOk.g (VOk.loadB (d:=(L 6 e_api_Node t9.1.Kids)) rfl Tryz.underlying26 rfl rfl rfl rfl)))) ?_
  refine OpsOk.consI rfl rfl rfl (.one rfl) rfl (fun hw24 => (GOk.fr (fr':=[(73,(L 6 e_api_Node t9.1.Kids))]) ⟨DLe.of_eq (cT hw24).symm,trivial⟩ (VOk.g (VOk.lenL (e:=e_api_Node) (xs:=t9.1.Kids) rfl Tryz.underlying26 rfl)))) ?_
  refine OpsOk.consI rfl rfl rfl (.one rfl) rfl (fun hw24 => (GOk.fr (fr':=[(74,(.v (.int .i64 (t9.1.Kids.length:Int))))]) ⟨DLe.of_eq (cT hw24).symm,trivial⟩ (VOk.g (VOk.arith (op:=.eql) (k:=.i64) (a:=(t9.1.Kids.length:Int)) (b:=1) rfl rfl rfl rfl)))) ?_
  refine .cv (VOk.to (VOk.pickI (b:=((((((t3.2 == 41) && ((t7.1.length:Int) == 1)) && ((((rd t7.1 0).List_).length:Int) == 1)) && (((rd ((rd t7.1 0).List_) 0).Name) == ([88]:Str))) && (t7.2 == 0)) && (t9.2 == 0))) (p:=((t9.1.Kids.length:Int) == 1)) (q:=false) rfl rfl (fun hp25 => (cT (t_beq hp25))) (fun hp25 => rfl)) (pickAnd ((((((t3.2 == 41) && ((t7.1.length:Int) == 1)) && ((((rd t7.1 0).List_).length:Int) == 1)) && (((rd ((rd t7.1 0).List_) 0).Name) == ([88]:Str))) && (t7.2 == 0)) && (t9.2 == 0)) ((t9.1.Kids.length:Int) == 1))) rfl rfl ?_
  refine .rn 1 ?_
  refine OpsOk.consI rfl rfl rfl (.one rfl) rfl (fun hw26 => (VOk.g (VOk.to (d':=(.agg (e_api_Node t1.1))) (.loadBAgg rfl Tryz.underlying28 rfl sz28 rfl rfl rfl) (congrArg D.agg (e_api_Node_c t1.1).symm)))) ?_
  refine OpsOk.consI rfl rfl rfl (.one rfl) rfl (fun hw26 => (GOk.fr (fr':=[(78,(.agg (e_api_Node t1.1)))]) ⟨DLe.of_eq (cT hw26).symm,trivial⟩ (GOk.call rfl rfl cl13 rfl (lists_Check.ok (ifT h28 hw26)) rfl))) ?_
  refine OpsOk.consI rfl rfl rfl (.one rfl) rfl (fun hw26 => (GOk.fr (fr':=[(79,(.v (.int .i64 t27)))]) ⟨DLe.of_eq (cT hw26).symm,trivial⟩ (VOk.g (VOk.arith (op:=.eql) (k:=.i64) (a:=t27) (b:=40) rfl rfl rfl rfl)))) ?_
  refine .cv (VOk.to (VOk.pickI (b:=(((((((t3.2 == 41) && ((t7.1.length:Int) == 1)) && ((((rd t7.1 0).List_).length:Int) == 1)) && (((rd ((rd t7.1 0).List_) 0).Name) == ([88]:Str))) && (t7.2 == 0)) && (t9.2 == 0)) && ((t9.1.Kids.length:Int) == 1))) (p:=(t27 == 40)) (q:=false) rfl rfl (fun hp29 => (cT (t_beq hp29))) (fun hp29 => rfl)) (pickAnd (((((((t3.2 == 41) && ((t7.1.length:Int) == 1)) && ((((rd t7.1 0).List_).length:Int) == 1)) && (((rd ((rd t7.1 0).List_) 0).Name) == ([88]:Str))) && (t7.2 == 0)) && (t9.2 == 0)) && ((t9.1.Kids.length:Int) == 1)) (t27 == 40))) rfl rfl ?_
  refine .rn 1 ?_
  exact .dn
 refine Ok.ret ?_
 obtain rfl:=Option.some.inj H
 exact⟨.inl rfl,⟨_,(.cons (.tmp rfl) .nil),rfl⟩,trivial⟩
def watchbilllaw16_ListsBack.j1 (k:Nat) (c0:Int→Str→Str→List T_api_Attr→List T_api_Node→Str→List T_api_Entry→Int→Option Bool) (y3_0_11:Int) (y3_1_12:Str) (y3_2_13:Str) (y3_3_14:List T_api_Attr) (y3_4_15:List T_api_Node) (y3_5_16:Str) (x5_10:Int) (x0_26:List T_api_Entry):Option Bool:=((lists_Encode k x0_26).bind fun (t27:T_api_Node × Int) => (if (t27.2 != 0)=true then (if ((x5_10 == 1) || (t27.1.Kind != 0))=true then some false else c0 y3_0_11 y3_1_12 y3_2_13 y3_3_14 y3_4_15 y3_5_16 x0_26 (IntKind.i64.wrap (x5_10 + 1))) else ((lists_Decode k t27.1).bind fun (t32:(List T_api_Entry) × Int) => (((if ((t32.2 != 0) == false)=true then watchbillref16_Same k t32.1 x0_26 else some default)).bind fun (t35:Bool) => (((if (((t32.2 != 0) || (!t35)) == false)=true then lists_Check k t27.1 else some default)).bind fun (t39:Int) => (if (((t32.2 != 0) || (!t35)) || (t39 != 0))=true then some false else c0 y3_0_11 y3_1_12 y3_2_13 y3_3_14 y3_4_15 y3_5_16 x0_26 (IntKind.i64.wrap (x5_10 + 1))))))))
def watchbilllaw16_ListsBack.l0 (k:Nat):Nat→Int→Str→Str→List T_api_Attr→List T_api_Node→Str→List T_api_Entry→Int→Option Bool
 | 0,_,_,_,_,_,_,_,_ => none
 | m25 + 1,y3_0_11,y3_1_12,y3_2_13,y3_3_14,y3_4_15,y3_5_16,x0_9,x5_10 => (if (decide (x5_10 < 2))=true then (if (x5_10 == 1)=true then ((lists_Decode k (T_api_Node.mk y3_0_11 (T_api_Name.mk y3_1_12 y3_2_13) y3_3_14 y3_4_15 y3_5_16)).bind fun (t44:(List T_api_Entry) × Int) => (if (t44.2 != 0)=true then some true else watchbilllaw16_ListsBack.j1 k (watchbilllaw16_ListsBack.l0 k m25) y3_0_11 y3_1_12 y3_2_13 y3_3_14 y3_4_15 y3_5_16 x5_10 t44.1)) else watchbilllaw16_ListsBack.j1 k (watchbilllaw16_ListsBack.l0 k m25) y3_0_11 y3_1_12 y3_2_13 y3_3_14 y3_4_15 y3_5_16 x5_10 x0_9) else some true)
def watchbilllaw16_ListsBack (k:Nat) (a0:List T_api_Entry) (a1:T_api_Node):Option Bool:=((watchbilllaw16_awake k).bind fun (t1:Bool) => (if (!t1)=true then some false else ((watchbilllaw16_Few k a0).bind fun (t3:Bool) => (((if ((!t3) == false)=true then watchbilllaw04_Few k a1 else some default)).bind fun (t6:Bool) => (if ((!t3) || (!t6))=true then some true else watchbilllaw16_ListsBack.l0 k k a1.Kind a1.Name.Space a1.Name.Local a1.Attrs a1.Kids a1.Text a0 0)))))
theorem watchbilllaw16_ListsBack.ok {k:Nat} {a0:List T_api_Entry} {a1:T_api_Node} {r:Bool} (H:watchbilllaw16_ListsBack k a0 a1=some r):Vx.Fn Tryz.prog 3 [(L 4 e_api_Entry a0),(.agg (e_api_Node a1))] [] (.v (.bool r)) []:=by
 unfold watchbilllaw16_ListsBack at H
 refine Vx.Fn.of_okR Tryz.func3 rfl (Nat.le_of_ble_eq_true rfl) ?_
 refine Ok.seq ?_
 refine Ok.region (σ':=⟨[(0,(L 4 e_api_Entry a0)),(3,(.bref 3 0))],[(3,(bxN a1))]⟩) ?_ ?_
 ·refine OpsOk.cut1 1 (.agg (c_api_Node a1)) (DLe.of_eq (congrArg D.agg (e_api_Node_c _).symm)) ?_
  refine .rn 2 ?_
  exact .dn
 refine Ok.seq ?_
 refine Ok.seq ?_
 obtain⟨t1,h2,H⟩:=bindE H
 refine Ok.region (σ':=⟨[(0,(L 4 e_api_Entry a0)),(3,(.bref 3 0)),(13,(.v (.bool (!t1))))],[(3,(bxN a1))]⟩) ?_ ?_
 ·refine .cg (GOk.call rfl rfl cl7 rfl (watchbilllaw16_awake.ok h2) rfl) rfl rfl ?_
  refine .rn 1 ?_
  exact .dn
 refine Ok.test (b:=(!t1)) rfl (fun hb50 => ?_) (fun hb50 => ?_)
 ·replace H:=ifT H hb50
  refine Ok.seq ?_
  refine .rg [(4,(.v (.bool false)))] [] ?_
  refine Ok.ret ?_
  obtain rfl:=Option.some.inj H
  exact⟨.inl rfl,⟨_,(.cons (.tmp rfl) .nil),rfl⟩,trivial⟩
 ·replace H:=ifF H hb50
  refine Ok.skip ?_
  refine Ok.seq ?_
  refine Ok.seq ?_
  obtain⟨t3,h4,H⟩:=bindE H
  obtain⟨t6,h7,H⟩:=bindE H
  refine Ok.region (σ':=⟨[(0,(L 4 e_api_Entry a0)),(3,(.bref 3 0)),(21,(.v (.bool ((!t3) || (!t6)))))],[(3,(bxN a1))]⟩) ?_ ?_
  ·refine .rn 1 ?_
   refine .cg (GOk.call rfl rfl cl8 rfl (watchbilllaw16_Few.ok h4) rfl) rfl rfl ?_
   refine .rn 2 ?_
   refine OpsOk.consI rfl rfl rfl (.one rfl) rfl (fun hw5 => (VOk.g (VOk.to (d':=(.agg (e_api_Node a1))) (.loadBAgg rfl Tryz.underlying28 rfl sz28 rfl rfl rfl) (congrArg D.agg (e_api_Node_c a1).symm)))) ?_
   refine OpsOk.consI rfl rfl rfl (.one rfl) rfl (fun hw5 => (GOk.fr (fr':=[(18,(.agg (e_api_Node a1)))]) ⟨DLe.of_eq (cT hw5).symm,trivial⟩ (GOk.call rfl rfl cl9 rfl (watchbilllaw04_Few.ok (ifT h7 hw5)) rfl))) ?_
   refine OpsOk.consI rfl rfl rfl (.one rfl) rfl (fun hw5 => (GOk.fr (fr':=[(19,(.v (.bool t6)))]) ⟨DLe.of_eq (cT hw5).symm,trivial⟩ (VOk.g (VOk.not (b:=t6) rfl rfl)))) ?_
   refine .cv (VOk.to (VOk.pickI (b:=(!t3)) (p:=true) (q:=(!t6)) rfl rfl (fun hp8 => rfl) (fun hp8 => (cT (f_beq hp8)))) (pickOr (!t3) (!t6))) rfl rfl ?_
   exact .dn
  refine Ok.test (b:=((!t3) || (!t6))) rfl (fun hb49 => ?_) (fun hb49 => ?_)
  ·replace H:=ifT H hb49
   refine Ok.seq ?_
   refine .rg [(4,(.v (.bool true)))] [] ?_
   refine Ok.ret ?_
   obtain rfl:=Option.some.inj H
   exact⟨.inl rfl,⟨_,(.cons (.tmp rfl) .nil),rfl⟩,trivial⟩
  ·replace H:=ifF H hb49
   refine Ok.skip ?_
   refine Ok.seq ?_
   refine Ok.seq ?_
   refine .rg [(0,(L 4 e_api_Entry a0)),(3,(.bref 3 0)),(5,(.v (.int .i64 0)))] [(3,(bxN a1))] ?_
   refine Ok.block ?_
   refine Ok.loop (fun m25 σ => ∃ (y3_0_11:Int) (y3_1_12:Str) (y3_2_13:Str) (y3_3_14:List T_api_Attr) (y3_4_15:List T_api_Node) (y3_5_16:Str) (x0_9:List T_api_Entry) (x5_10:Int),σ=⟨[(0,(L 4 e_api_Entry x0_9)),(3,(.bref 3 0)),(5,(.v (.int .i64 x5_10)))],[(3,(.box .ex [(.v (.int .i64 y3_0_11)),(S y3_1_12),(S y3_2_13),(L 3 e_api_Attr y3_3_14),(L 6 e_api_Node y3_4_15),(S y3_5_16)]))]⟩ ∧ watchbilllaw16_ListsBack.l0 k m25 y3_0_11 y3_1_12 y3_2_13 y3_3_14 y3_4_15 y3_5_16 x0_9 x5_10=some r) k ⟨a1.Kind,a1.Name.Space,a1.Name.Local,a1.Attrs,a1.Kids,a1.Text,a0,0,rfl,H⟩ ?_
   rintro m25 σ ⟨y3_0_11,y3_1_12,y3_2_13,y3_3_14,y3_4_15,y3_5_16,x0_9,x5_10,rfl,H⟩
   cases m25 with
   | zero => exact absurd H (by simp [watchbilllaw16_ListsBack.l0])
   | succ m25 =>
    unfold watchbilllaw16_ListsBack.l0 at H
    refine Ok.seq ?_
    refine Ok.seq ?_
    refine .rg [(0,(L 4 e_api_Entry x0_9)),(3,(.bref 3 0)),(5,(.v (.int .i64 x5_10))),(23,(.v (.bool (decide (x5_10 < 2)))))] [(3,(.box .ex [(.v (.int .i64 y3_0_11)),(S y3_1_12),(S y3_2_13),(L 3 e_api_Attr y3_3_14),(L 6 e_api_Node y3_4_15),(S y3_5_16)]))] ?_
    refine Ok.test (b:=(decide (x5_10 < 2))) rfl (fun hb48 => ?_) (fun hb48 => ?_)
    ·replace H:=ifT H hb48
     refine Ok.skip ?_
     refine Ok.seq ?_
     refine Ok.block ?_
     refine Ok.meet (fun σ => ∃ (x0_26:List T_api_Entry),σ=⟨[(0,(L 4 e_api_Entry x0_26)),(3,(.bref 3 0)),(5,(.v (.int .i64 x5_10)))],[(3,(.box .ex [(.v (.int .i64 y3_0_11)),(S y3_1_12),(S y3_2_13),(L 3 e_api_Attr y3_3_14),(L 6 e_api_Node y3_4_15),(S y3_5_16)]))]⟩ ∧ watchbilllaw16_ListsBack.j1 k (watchbilllaw16_ListsBack.l0 k m25) y3_0_11 y3_1_12 y3_2_13 y3_3_14 y3_4_15 y3_5_16 x5_10 x0_26=some r) ?_ ?_
     ·refine Ok.seq ?_
      refine .rg [(0,(L 4 e_api_Entry x0_9)),(3,(.bref 3 0)),(5,(.v (.int .i64 x5_10))),(27,(.v (.bool (x5_10 == 1))))] [(3,(.box .ex [(.v (.int .i64 y3_0_11)),(S y3_1_12),(S y3_2_13),(L 3 e_api_Attr y3_3_14),(L 6 e_api_Node y3_4_15),(S y3_5_16)]))] ?_
      refine Ok.test (b:=(x5_10 == 1)) rfl (fun hb47 => ?_) (fun hb47 => ?_)
      ·replace H:=ifT H hb47
       refine Ok.seq ?_
       obtain⟨t44,h45,H⟩:=bindE H
       refine Ok.region (σ':=⟨[(3,(.bref 3 0)),(5,(.v (.int .i64 x5_10))),(6,(L 4 e_api_Entry t44.1)),(7,(.v (.int .i64 t44.2)))],[(3,(.box .ex [(.v (.int .i64 y3_0_11)),(S y3_1_12),(S y3_2_13),(L 3 e_api_Attr y3_3_14),(L 6 e_api_Node y3_4_15),(S y3_5_16)]))]⟩) ?_ ?_
       ·refine .cv (VOk.to (d':=(.agg (e_api_Node (T_api_Node.mk y3_0_11 (T_api_Name.mk y3_1_12 y3_2_13) y3_3_14 y3_4_15 y3_5_16)))) (.loadBAgg rfl Tryz.underlying28 rfl sz28 rfl rfl rfl) (congrArg D.agg (e_api_Node_c (T_api_Node.mk y3_0_11 (T_api_Name.mk y3_1_12 y3_2_13) y3_3_14 y3_4_15 y3_5_16)).symm)) rfl rfl ?_
        refine .cg (GOk.call rfl rfl cl10 rfl (lists_Decode.ok h45) rfl) rfl rfl ?_
        refine .rn 5 ?_
        exact .dn
       refine Ok.seq ?_
       refine Ok.seq ?_
       refine .rg [(3,(.bref 3 0)),(5,(.v (.int .i64 x5_10))),(6,(L 4 e_api_Entry t44.1)),(34,(.v (.bool (t44.2 != 0))))] [(3,(.box .ex [(.v (.int .i64 y3_0_11)),(S y3_1_12),(S y3_2_13),(L 3 e_api_Attr y3_3_14),(L 6 e_api_Node y3_4_15),(S y3_5_16)]))] ?_
       refine Ok.test (b:=(t44.2 != 0)) rfl (fun hb46 => ?_) (fun hb46 => ?_)
       ·replace H:=ifT H hb46
        refine Ok.seq ?_
        refine .rg [(4,(.v (.bool true)))] [] ?_
        refine Ok.ret ?_
        obtain rfl:=Option.some.inj H
        exact⟨.inl rfl,⟨_,(.cons (.tmp rfl) .nil),rfl⟩,trivial⟩
       ·replace H:=ifF H hb46
        refine Ok.skip ?_
        refine .rg [(0,(L 4 e_api_Entry t44.1)),(3,(.bref 3 0)),(5,(.v (.int .i64 x5_10)))] [(3,(.box .ex [(.v (.int .i64 y3_0_11)),(S y3_1_12),(S y3_2_13),(L 3 e_api_Attr y3_3_14),(L 6 e_api_Node y3_4_15),(S y3_5_16)]))] ?_
        exact⟨t44.1,rfl,H⟩
      ·replace H:=ifF H hb47
       refine Ok.le (σ':=⟨[(0,(L 4 e_api_Entry x0_9)),(3,(.bref 3 0)),(5,(.v (.int .i64 x5_10)))],[(3,(.box .ex [(.v (.int .i64 y3_0_11)),(S y3_1_12),(S y3_2_13),(L 3 e_api_Attr y3_3_14),(L 6 e_api_Node y3_4_15),(S y3_5_16)]))]⟩) (.rf rfl rfl) ?_
       refine Ok.skip ?_
       exact⟨x0_9,rfl,H⟩
     ·rintro σ ⟨x0_26,rfl,H⟩
      unfold watchbilllaw16_ListsBack.j1 at H
      refine Ok.seq ?_
      obtain⟨t27,h28,H⟩:=bindE H
      refine Ok.region (σ':=⟨[(0,(L 4 e_api_Entry x0_26)),(3,(.bref 3 0)),(5,(.v (.int .i64 x5_10))),(8,(.bref 8 0)),(9,(.v (.int .i64 t27.2)))],[(3,(.box .ex [(.v (.int .i64 y3_0_11)),(S y3_1_12),(S y3_2_13),(L 3 e_api_Attr y3_3_14),(L 6 e_api_Node y3_4_15),(S y3_5_16)])),(8,(.box .ex (c_api_Node t27.1)))]⟩) ?_ ?_
      ·refine .rn 1 ?_
       refine .cg (GOk.call rfl rfl cl11 rfl (lists_Encode.ok h28) rfl) rfl rfl ?_
       refine .rn 4 ?_
       refine OpsOk.cut1 39 (.agg [(.v (.int .i64 t27.1.Kind)),(S t27.1.Name.Space),(S t27.1.Name.Local),(L 3 e_api_Attr t27.1.Attrs),(L 6 e_api_Node t27.1.Kids),(S t27.1.Text)]) (DLe.of_eq (congrArg D.agg (e_api_Node_c _).symm)) ?_
       refine .rn 2 ?_
       exact .dn
      refine Ok.seq ?_
      refine Ok.seq ?_
      refine .rg [(0,(L 4 e_api_Entry x0_26)),(3,(.bref 3 0)),(5,(.v (.int .i64 x5_10))),(8,(.bref 8 0)),(42,(.v (.bool (t27.2 != 0))))] [(3,(.box .ex [(.v (.int .i64 y3_0_11)),(S y3_1_12),(S y3_2_13),(L 3 e_api_Attr y3_3_14),(L 6 e_api_Node y3_4_15),(S y3_5_16)])),(8,(.box .ex (c_api_Node t27.1)))] ?_
      refine Ok.test (b:=(t27.2 != 0)) rfl (fun hb43 => ?_) (fun hb43 => ?_)
      ·replace H:=ifT H hb43
       refine Ok.seq ?_
       refine Ok.seq ?_
       refine Ok.region (σ':=⟨[(0,(L 4 e_api_Entry x0_26)),(3,(.bref 3 0)),(5,(.v (.int .i64 x5_10))),(49,(.v (.bool ((x5_10 == 1) || (t27.1.Kind != 0)))))],[(3,(.box .ex [(.v (.int .i64 y3_0_11)),(S y3_1_12),(S y3_2_13),(L 3 e_api_Attr y3_3_14),(L 6 e_api_Node y3_4_15),(S y3_5_16)]))]⟩) ?_ ?_
       ·refine .rn 3 ?_
        refine OpsOk.consI rfl rfl rfl (.one rfl) rfl (fun hw29 => (VOk.g (VOk.to (VOk.fieldB rfl Tryz.underlying28 rfl sz3 rfl rfl) rfl))) ?_
        refine OpsOk.consI rfl rfl rfl (.one rfl) rfl (fun hw29 => (GOk.fr (fr':=[(46,(.bref 8 0))]) ⟨DLe.of_eq (cT hw29).symm,trivial⟩ (VOk.g (VOk.loadB (d:=(.v (.int .i64 t27.1.Kind))) rfl Tryz.underlying3 rfl rfl rfl rfl)))) ?_
        refine OpsOk.consI rfl rfl rfl (.one rfl) rfl (fun hw29 => (GOk.fr (fr':=[(47,(.v (.int .i64 t27.1.Kind)))]) ⟨DLe.of_eq (cT hw29).symm,trivial⟩ (VOk.g (VOk.arith (op:=.neq) (k:=.i64) (a:=t27.1.Kind) (b:=0) rfl rfl rfl rfl)))) ?_
        refine .cv (VOk.to (VOk.pickI (b:=(x5_10 == 1)) (p:=true) (q:=(t27.1.Kind != 0)) rfl rfl (fun hp30 => rfl) (fun hp30 => (cT (f_beq hp30)))) (pickOr (x5_10 == 1) (t27.1.Kind != 0))) rfl rfl ?_
        exact .dn
       refine Ok.test (b:=((x5_10 == 1) || (t27.1.Kind != 0))) rfl (fun hb31 => ?_) (fun hb31 => ?_)
       ·replace H:=ifT H hb31
        refine Ok.seq ?_
        refine .rg [(4,(.v (.bool false)))] [] ?_
        refine Ok.ret ?_
        obtain rfl:=Option.some.inj H
        exact⟨.inl rfl,⟨_,(.cons (.tmp rfl) .nil),rfl⟩,trivial⟩
       ·replace H:=ifF H hb31
        refine Ok.skip ?_
        refine Ok.exit ?_
        refine .rg [(0,(L 4 e_api_Entry x0_26)),(3,(.bref 3 0)),(5,(.v (.int .i64 (IntKind.i64.wrap (x5_10 + 1)))))] [(3,(.box .ex [(.v (.int .i64 y3_0_11)),(S y3_1_12),(S y3_2_13),(L 3 e_api_Attr y3_3_14),(L 6 e_api_Node y3_4_15),(S y3_5_16)]))] ?_
        exact⟨m25,Nat.lt_succ_self m25,y3_0_11,y3_1_12,y3_2_13,y3_3_14,y3_4_15,y3_5_16,x0_26,(IntKind.i64.wrap (x5_10 + 1)),rfl,H⟩
      ·replace H:=ifF H hb43
       refine Ok.skip ?_
       refine Ok.seq ?_
       obtain⟨t32,h33,H⟩:=bindE H
       refine Ok.region (σ':=⟨[(0,(L 4 e_api_Entry x0_26)),(3,(.bref 3 0)),(5,(.v (.int .i64 x5_10))),(8,(.bref 8 0)),(10,(L 4 e_api_Entry t32.1)),(11,(.v (.int .i64 t32.2)))],[(3,(.box .ex [(.v (.int .i64 y3_0_11)),(S y3_1_12),(S y3_2_13),(L 3 e_api_Attr y3_3_14),(L 6 e_api_Node y3_4_15),(S y3_5_16)])),(8,(.box .ex (c_api_Node t27.1)))]⟩) ?_ ?_
       ·refine .cv (VOk.to (d':=(.agg (e_api_Node t27.1))) (.loadBAgg rfl Tryz.underlying28 rfl sz28 rfl rfl rfl) (congrArg D.agg (e_api_Node_c t27.1).symm)) rfl rfl ?_
        refine .cg (GOk.call rfl rfl cl10 rfl (lists_Decode.ok h33) rfl) rfl rfl ?_
        refine .rn 5 ?_
        exact .dn
       refine Ok.seq ?_
       obtain⟨t35,h36,H⟩:=bindE H
       obtain⟨t39,h40,H⟩:=bindE H
       refine Ok.region (σ':=⟨[(0,(L 4 e_api_Entry x0_26)),(3,(.bref 3 0)),(5,(.v (.int .i64 x5_10))),(67,(.v (.bool (((t32.2 != 0) || (!t35)) || (t39 != 0)))))],[(3,(.box .ex [(.v (.int .i64 y3_0_11)),(S y3_1_12),(S y3_2_13),(L 3 e_api_Attr y3_3_14),(L 6 e_api_Node y3_4_15),(S y3_5_16)]))]⟩) ?_ ?_
       ·refine .rn 3 ?_
        refine OpsOk.consI rfl rfl rfl (.one rfl) rfl (fun hw34 => (VOk.g (VOk.mv (d:=(L 4 e_api_Entry t32.1)) rfl rfl))) ?_
        refine OpsOk.consI rfl rfl rfl (.one rfl) rfl (fun hw34 => (VOk.g (VOk.mv (d:=(L 4 e_api_Entry x0_26)) rfl rfl))) ?_
        refine OpsOk.consI rfl rfl rfl (.one rfl) rfl (fun hw34 => (GOk.fr (fr':=[(58,(L 4 e_api_Entry t32.1)),(59,(L 4 e_api_Entry x0_26))]) ⟨DLe.of_eq (cT hw34).symm,DLe.of_eq (cT hw34).symm,trivial⟩ (GOk.call rfl rfl cl12 rfl (watchbillref16_Same.ok (ifT h36 hw34)) rfl))) ?_
        refine OpsOk.consI rfl rfl rfl (.one rfl) rfl (fun hw34 => (GOk.fr (fr':=[(60,(.v (.bool t35)))]) ⟨DLe.of_eq (cT hw34).symm,trivial⟩ (VOk.g (VOk.not (b:=t35) rfl rfl)))) ?_
        refine .cv (VOk.to (VOk.pickI (b:=(t32.2 != 0)) (p:=true) (q:=(!t35)) rfl rfl (fun hp37 => rfl) (fun hp37 => (cT (f_beq hp37)))) (pickOr (t32.2 != 0) (!t35))) rfl rfl ?_
        refine .rn 1 ?_
        refine OpsOk.consI rfl rfl rfl (.one rfl) rfl (fun hw38 => (VOk.g (VOk.to (d':=(.agg (e_api_Node t27.1))) (.loadBAgg rfl Tryz.underlying28 rfl sz28 rfl rfl rfl) (congrArg D.agg (e_api_Node_c t27.1).symm)))) ?_
        refine OpsOk.consI rfl rfl rfl (.one rfl) rfl (fun hw38 => (GOk.fr (fr':=[(64,(.agg (e_api_Node t27.1)))]) ⟨DLe.of_eq (cT hw38).symm,trivial⟩ (GOk.call rfl rfl cl13 rfl (lists_Check.ok (ifT h40 hw38)) rfl))) ?_
        refine OpsOk.consI rfl rfl rfl (.one rfl) rfl (fun hw38 => (GOk.fr (fr':=[(65,(.v (.int .i64 t39)))]) ⟨DLe.of_eq (cT hw38).symm,trivial⟩ (VOk.g (VOk.arith (op:=.neq) (k:=.i64) (a:=t39) (b:=0) rfl rfl rfl rfl)))) ?_
        refine .cv (VOk.to (VOk.pickI (b:=((t32.2 != 0) || (!t35))) (p:=true) (q:=(t39 != 0)) rfl rfl (fun hp41 => rfl) (fun hp41 => (cT (f_beq hp41)))) (pickOr ((t32.2 != 0) || (!t35)) (t39 != 0))) rfl rfl ?_
        exact .dn
       refine Ok.test (b:=(((t32.2 != 0) || (!t35)) || (t39 != 0))) rfl (fun hb42 => ?_) (fun hb42 => ?_)
       ·replace H:=ifT H hb42
        refine Ok.seq ?_
        refine .rg [(4,(.v (.bool false)))] [] ?_
        refine Ok.ret ?_
        obtain rfl:=Option.some.inj H
        exact⟨.inl rfl,⟨_,(.cons (.tmp rfl) .nil),rfl⟩,trivial⟩
       ·replace H:=ifF H hb42
        refine Ok.skip ?_
        refine .rg [(0,(L 4 e_api_Entry x0_26)),(3,(.bref 3 0)),(5,(.v (.int .i64 (IntKind.i64.wrap (x5_10 + 1)))))] [(3,(.box .ex [(.v (.int .i64 y3_0_11)),(S y3_1_12),(S y3_2_13),(L 3 e_api_Attr y3_3_14),(L 6 e_api_Node y3_4_15),(S y3_5_16)]))] ?_
        exact⟨m25,Nat.lt_succ_self m25,y3_0_11,y3_1_12,y3_2_13,y3_3_14,y3_4_15,y3_5_16,x0_26,(IntKind.i64.wrap (x5_10 + 1)),rfl,H⟩
    ·replace H:=ifF H hb48
     refine Ok.exit ?_
     refine Ok.seq ?_
     refine .rg [(4,(.v (.bool true)))] [] ?_
     refine Ok.ret ?_
     obtain rfl:=Option.some.inj H
     exact⟨.inl rfl,⟨_,(.cons (.tmp rfl) .nil),rfl⟩,trivial⟩
def watchbilllaw16_ListsOrder.l1 (k:Nat) (t18:(List T_api_Entry) × Int) (t20:(List T_api_Entry) × Int):Nat→Int→Option Bool
 | 0,_ => none
 | m26 + 1,x13_24 => (if (decide (x13_24 < (t18.1.length:Int)))=true then (if (0:Int) ≤ x13_24 ∧ x13_24 < (t18.1.length:Int) then (if (0:Int) ≤ (IntKind.i64.wrap ((IntKind.i64.wrap ((t20.1.length:Int) - 1)) - x13_24)) ∧ (IntKind.i64.wrap ((IntKind.i64.wrap ((t20.1.length:Int) - 1)) - x13_24)) < (t20.1.length:Int) then ((watchbillref16_One_1 k (rd t18.1 x13_24) (rd t20.1 (IntKind.i64.wrap ((IntKind.i64.wrap ((t20.1.length:Int) - 1)) - x13_24)))).bind fun (t29:Bool) => (if (!t29)=true then some false else watchbilllaw16_ListsOrder.l1 k t18 t20 m26 (IntKind.i64.wrap (x13_24 + 1)))) else none) else none) else some true)
def watchbilllaw16_ListsOrder.l0 (k:Nat) (a0:List T_api_Entry):Nat→List T_api_Entry→Int→Option Bool
 | 0,_,_ => none
 | m9 + 1,y3_6,x4_5 => (if (decide (x4_5 ≥ 0))=true then (if (0:Int) ≤ x4_5 ∧ x4_5 < (a0.length:Int) then (if (y3_6.length + ([(rd a0 x4_5)]:List T_api_Entry).length) * 64 ≤ 140737488355328 then watchbilllaw16_ListsOrder.l0 k a0 m9 (y3_6 ++ ([(rd a0 x4_5)]:List T_api_Entry)) (IntKind.i64.wrap (x4_5 - 1)) else none) else none) else ((lists_Encode k a0).bind fun (t12:T_api_Node × Int) => ((lists_Encode k y3_6).bind fun (t14:T_api_Node × Int) => (if ((t12.2 != t14.2) || (t12.2 != 0))=true then some (t12.2 == t14.2) else ((lists_Decode k t12.1).bind fun (t18:(List T_api_Entry) × Int) => ((lists_Decode k t14.1).bind fun (t20:(List T_api_Entry) × Int) => (if (((t18.1.length:Int) != (a0.length:Int)) || ((t20.1.length:Int) != (a0.length:Int)))=true then some false else watchbilllaw16_ListsOrder.l1 k t18 t20 k 0)))))))
def watchbilllaw16_ListsOrder (k:Nat) (a0:List T_api_Entry):Option Bool:=((watchbilllaw16_awake k).bind fun (t1:Bool) => (if (!t1)=true then some false else ((watchbilllaw16_Few k a0).bind fun (t3:Bool) => (if (!t3)=true then some true else watchbilllaw16_ListsOrder.l0 k a0 k ([]:List T_api_Entry) (IntKind.i64.wrap ((a0.length:Int) - 1))))))
theorem watchbilllaw16_ListsOrder.ok {k:Nat} {a0:List T_api_Entry} {r:Bool} (H:watchbilllaw16_ListsOrder k a0=some r):Vx.Fn Tryz.prog 5 [(L 4 e_api_Entry a0)] [] (.v (.bool r)) []:=by
 unfold watchbilllaw16_ListsOrder at H
 refine Vx.Fn.of_okR Tryz.func5 rfl (Nat.le_of_ble_eq_true rfl) ?_
 refine Ok.seq ?_
 refine .rg [(0,(L 4 e_api_Entry a0))] [] ?_
 refine Ok.seq ?_
 refine Ok.seq ?_
 obtain⟨t1,h2,H⟩:=bindE H
 refine Ok.region (σ':=⟨[(0,(L 4 e_api_Entry a0)),(15,(.v (.bool (!t1))))],[]⟩) ?_ ?_
 ·refine .cg (GOk.call rfl rfl cl7 rfl (watchbilllaw16_awake.ok h2) rfl) rfl rfl ?_
  refine .rn 1 ?_
  exact .dn
 refine Ok.test (b:=(!t1)) rfl (fun hb37 => ?_) (fun hb37 => ?_)
 ·replace H:=ifT H hb37
  refine Ok.seq ?_
  refine .rg [(2,(.v (.bool false)))] [] ?_
  refine Ok.ret ?_
  obtain rfl:=Option.some.inj H
  exact⟨.inl rfl,⟨_,(.cons (.tmp rfl) .nil),rfl⟩,trivial⟩
 ·replace H:=ifF H hb37
  refine Ok.skip ?_
  refine Ok.seq ?_
  refine Ok.seq ?_
  obtain⟨t3,h4,H⟩:=bindE H
  refine Ok.region (σ':=⟨[(0,(L 4 e_api_Entry a0)),(18,(.v (.bool (!t3))))],[]⟩) ?_ ?_
  ·refine .rn 1 ?_
   refine .cg (GOk.call rfl rfl cl8 rfl (watchbilllaw16_Few.ok h4) rfl) rfl rfl ?_
   refine .rn 1 ?_
   exact .dn
  refine Ok.test (b:=(!t3)) rfl (fun hb36 => ?_) (fun hb36 => ?_)
  ·replace H:=ifT H hb36
   refine Ok.seq ?_
   refine .rg [(2,(.v (.bool true)))] [] ?_
   refine Ok.ret ?_
   obtain rfl:=Option.some.inj H
   exact⟨.inl rfl,⟨_,(.cons (.tmp rfl) .nil),rfl⟩,trivial⟩
  ·replace H:=ifF H hb36
   refine Ok.skip ?_
   refine Ok.seq ?_
   refine Ok.region (σ':=⟨[(0,(L 4 e_api_Entry a0)),(3,(.sref 3))],[(3,(.rows true 45 4 (([]:List T_api_Entry).map e_api_Entry)))]⟩) ?_ ?_
   ·refine OpsOk.cons rfl (.nilT 3 45 4 (.inl rfl) rfl rfl) ?_
    exact .dn
   refine Ok.seq ?_
   refine Ok.seq ?_
   refine Ok.region (σ':=⟨[(0,(L 4 e_api_Entry a0)),(3,(.sref 3)),(4,(.v (.int .i64 (IntKind.i64.wrap ((a0.length:Int) - 1)))))],[(3,(.rows true 45 4 (([]:List T_api_Entry).map e_api_Entry)))]⟩) ?_ ?_
   ·refine .rn 1 ?_
    refine .cv (VOk.lenL (e:=e_api_Entry) (xs:=a0) rfl Tryz.underlying22 rfl) rfl rfl ?_
    refine .rn 2 ?_
    exact .dn
   refine Ok.block ?_
   refine Ok.loop (fun m9 σ => ∃ (y3_6:List T_api_Entry) (x4_5:Int),σ=⟨[(0,(L 4 e_api_Entry a0)),(3,(.sref 3)),(4,(.v (.int .i64 x4_5)))],[(3,(.rows true 45 4 (y3_6.map e_api_Entry)))]⟩ ∧ watchbilllaw16_ListsOrder.l0 k a0 m9 y3_6 x4_5=some r) k ⟨([]:List T_api_Entry),(IntKind.i64.wrap ((a0.length:Int) - 1)),rfl,H⟩ ?_
   rintro m9 σ ⟨y3_6,x4_5,rfl,H⟩
   cases m9 with
   | zero => exact absurd H (by simp [watchbilllaw16_ListsOrder.l0])
   | succ m9 =>
    unfold watchbilllaw16_ListsOrder.l0 at H
    refine Ok.seq ?_
    refine Ok.seq ?_
    refine .rg [(0,(L 4 e_api_Entry a0)),(3,(.sref 3)),(4,(.v (.int .i64 x4_5))),(23,(.v (.bool (decide (x4_5 ≥ 0)))))] [(3,(.rows true 45 4 (y3_6.map e_api_Entry)))] ?_
    refine Ok.test (b:=(decide (x4_5 ≥ 0))) rfl (fun hb35 => ?_) (fun hb35 => ?_)
    ·replace H:=ifT H hb35
     refine Ok.skip ?_
     refine Ok.seq ?_
     refine Ok.block ?_
     obtain⟨c10,H⟩:=assertE H
     obtain⟨c11,H⟩:=assertE H
     refine Ok.region (σ':=⟨[(0,(L 4 e_api_Entry a0)),(3,(.sref 3)),(4,(.v (.int .i64 x4_5)))],[(3,(.rows true 45 4 ((y3_6 ++ ([(rd a0 x4_5)]:List T_api_Entry)).map e_api_Entry)))]⟩) ?_ ?_
     ·refine .rn 3 ?_
      refine .cv (VOk.indexL (sz:=4) (e:=e_api_Entry) (xs:=a0) (i:=x4_5) rfl Tryz.underlying22 sz45 rfl rfl c10) rfl rfl ?_
      refine .rn 1 ?_
      refine .cg (GOk.to (d':=(L 4 e_api_Entry ([(rd a0 x4_5)]:List T_api_Entry))) (GOk.lit rfl Tryz.underlying22 sz45 zs45 rfl rfl rfl rfl) rfl) rfl rfl ?_
      refine OpsOk.cons rfl (OpOk.appendL (e:=e_api_Entry) (xs:=y3_6) (ys:=([(rd a0 x4_5)]:List T_api_Entry)) rfl Tryz.underlying22 elt45 rfl rfl rfl c11 rfl) ?_
      refine .rn 1 ?_
      exact .dn
     refine .rg [(0,(L 4 e_api_Entry a0)),(3,(.sref 3)),(4,(.v (.int .i64 (IntKind.i64.wrap (x4_5 - 1)))))] [(3,(.rows true 45 4 ((y3_6 ++ ([(rd a0 x4_5)]:List T_api_Entry)).map e_api_Entry)))] ?_
     exact⟨m9,Nat.lt_succ_self m9,(y3_6 ++ ([(rd a0 x4_5)]:List T_api_Entry)),(IntKind.i64.wrap (x4_5 - 1)),rfl,H⟩
    ·replace H:=ifF H hb35
     refine Ok.exit ?_
     refine Ok.seq ?_
     obtain⟨t12,h13,H⟩:=bindE H
     refine Ok.region (σ':=⟨[(0,(L 4 e_api_Entry a0)),(3,(.sref 3)),(5,(.bref 5 0)),(6,(.v (.int .i64 t12.2)))],[(3,(.rows true 45 4 (y3_6.map e_api_Entry))),(5,(.box .ex (c_api_Node t12.1)))]⟩) ?_ ?_
     ·refine .rn 1 ?_
      refine .cg (GOk.call rfl rfl cl11 rfl (lists_Encode.ok h13) rfl) rfl rfl ?_
      refine .rn 4 ?_
      refine OpsOk.cut1 36 (.agg [(.v (.int .i64 t12.1.Kind)),(S t12.1.Name.Space),(S t12.1.Name.Local),(L 3 e_api_Attr t12.1.Attrs),(L 6 e_api_Node t12.1.Kids),(S t12.1.Text)]) (DLe.of_eq (congrArg D.agg (e_api_Node_c _).symm)) ?_
      refine .rn 2 ?_
      exact .dn
     refine Ok.seq ?_
     obtain⟨t14,h15,H⟩:=bindE H
     refine Ok.frzL 3 (e:=e_api_Entry) (xs:=y3_6) rfl ?_
     refine Ok.region (σ':=⟨[(0,(L 4 e_api_Entry a0)),(5,(.bref 5 0)),(6,(.v (.int .i64 t12.2))),(7,(.bref 7 0)),(8,(.v (.int .i64 t14.2)))],[(5,(.box .ex (c_api_Node t12.1))),(7,(.box .ex (c_api_Node t14.1)))]⟩) ?_ ?_
     ·refine .rn 1 ?_
      refine .cg (GOk.call rfl rfl cl11 rfl (lists_Encode.ok h15) rfl) rfl rfl ?_
      refine .rn 4 ?_
      refine OpsOk.cut1 41 (.agg [(.v (.int .i64 t14.1.Kind)),(S t14.1.Name.Space),(S t14.1.Name.Local),(L 3 e_api_Attr t14.1.Attrs),(L 6 e_api_Node t14.1.Kids),(S t14.1.Text)]) (DLe.of_eq (congrArg D.agg (e_api_Node_c _).symm)) ?_
      refine .rn 2 ?_
      exact .dn
     refine Ok.seq ?_
     refine Ok.seq ?_
     refine Ok.region (σ':=⟨[(0,(L 4 e_api_Entry a0)),(5,(.bref 5 0)),(6,(.v (.int .i64 t12.2))),(7,(.bref 7 0)),(8,(.v (.int .i64 t14.2))),(49,(.v (.bool ((t12.2 != t14.2) || (t12.2 != 0)))))],[(5,(.box .ex (c_api_Node t12.1))),(7,(.box .ex (c_api_Node t14.1)))]⟩) ?_ ?_
     ·refine .rn 4 ?_
      refine OpsOk.consI rfl rfl rfl (.one rfl) rfl (fun hw16 => (VOk.g (VOk.mv (d:=(.v (.int .i64 t12.2))) rfl rfl))) ?_
      refine OpsOk.consI rfl rfl rfl (.one rfl) rfl (fun hw16 => (GOk.fr (fr':=[(47,(.v (.int .i64 t12.2)))]) ⟨DLe.of_eq (cT hw16).symm,trivial⟩ (VOk.g (VOk.arith (op:=.neq) (k:=.i64) (a:=t12.2) (b:=0) rfl rfl rfl rfl)))) ?_
      refine .cv (VOk.to (VOk.pickI (b:=(t12.2 != t14.2)) (p:=true) (q:=(t12.2 != 0)) rfl rfl (fun hp17 => rfl) (fun hp17 => (cT (f_beq hp17)))) (pickOr (t12.2 != t14.2) (t12.2 != 0))) rfl rfl ?_
      exact .dn
     refine Ok.test (b:=((t12.2 != t14.2) || (t12.2 != 0))) rfl (fun hb34 => ?_) (fun hb34 => ?_)
     ·replace H:=ifT H hb34
      refine Ok.seq ?_
      refine .rg [(2,(.v (.bool (t12.2 == t14.2))))] [] ?_
      refine Ok.ret ?_
      obtain rfl:=Option.some.inj H
      exact⟨.inl rfl,⟨_,(.cons (.tmp rfl) .nil),rfl⟩,trivial⟩
     ·replace H:=ifF H hb34
      refine Ok.skip ?_
      refine Ok.seq ?_
      obtain⟨t18,h19,H⟩:=bindE H
      refine Ok.region (σ':=⟨[(0,(L 4 e_api_Entry a0)),(7,(.bref 7 0)),(9,(L 4 e_api_Entry t18.1))],[(7,(.box .ex (c_api_Node t14.1)))]⟩) ?_ ?_
      ·refine .cv (VOk.to (d':=(.agg (e_api_Node t12.1))) (.loadBAgg rfl Tryz.underlying28 rfl sz28 rfl rfl rfl) (congrArg D.agg (e_api_Node_c t12.1).symm)) rfl rfl ?_
       refine .cg (GOk.call rfl rfl cl10 rfl (lists_Decode.ok h19) rfl) rfl rfl ?_
       refine .rn 5 ?_
       exact .dn
      refine Ok.seq ?_
      obtain⟨t20,h21,H⟩:=bindE H
      refine Ok.region (σ':=⟨[(0,(L 4 e_api_Entry a0)),(9,(L 4 e_api_Entry t18.1)),(11,(L 4 e_api_Entry t20.1))],[]⟩) ?_ ?_
      ·refine .cv (VOk.to (d':=(.agg (e_api_Node t14.1))) (.loadBAgg rfl Tryz.underlying28 rfl sz28 rfl rfl rfl) (congrArg D.agg (e_api_Node_c t14.1).symm)) rfl rfl ?_
       refine .cg (GOk.call rfl rfl cl10 rfl (lists_Decode.ok h21) rfl) rfl rfl ?_
       refine .rn 5 ?_
       exact .dn
      refine Ok.seq ?_
      refine Ok.seq ?_
      refine Ok.region (σ':=⟨[(9,(L 4 e_api_Entry t18.1)),(11,(L 4 e_api_Entry t20.1)),(74,(.v (.bool (((t18.1.length:Int) != (a0.length:Int)) || ((t20.1.length:Int) != (a0.length:Int))))))],[]⟩) ?_ ?_
      ·refine .rn 1 ?_
       refine .cv (VOk.lenL (e:=e_api_Entry) (xs:=t18.1) rfl Tryz.underlying22 rfl) rfl rfl ?_
       refine .rn 1 ?_
       refine .cv (VOk.lenL (e:=e_api_Entry) (xs:=a0) rfl Tryz.underlying22 rfl) rfl rfl ?_
       refine .rn 2 ?_
       refine OpsOk.consI rfl rfl rfl (.one rfl) rfl (fun hw22 => (VOk.g (VOk.mv (d:=(L 4 e_api_Entry t20.1)) rfl rfl))) ?_
       refine OpsOk.consI rfl rfl rfl (.one rfl) rfl (fun hw22 => (GOk.fr (fr':=[(69,(L 4 e_api_Entry t20.1))]) ⟨DLe.of_eq (cT hw22).symm,trivial⟩ (VOk.g (VOk.lenL (e:=e_api_Entry) (xs:=t20.1) rfl Tryz.underlying22 rfl)))) ?_
       refine OpsOk.consI rfl rfl rfl (.one rfl) rfl (fun hw22 => (VOk.g (VOk.mv (d:=(L 4 e_api_Entry a0)) rfl rfl))) ?_
       refine OpsOk.consI rfl rfl rfl (.one rfl) rfl (fun hw22 => (GOk.fr (fr':=[(71,(L 4 e_api_Entry a0))]) ⟨DLe.of_eq (cT hw22).symm,trivial⟩ (VOk.g (VOk.lenL (e:=e_api_Entry) (xs:=a0) rfl Tryz.underlying22 rfl)))) ?_
       refine OpsOk.consI rfl rfl rfl (.one rfl) rfl (fun hw22 => (GOk.fr (fr':=[(70,(.v (.int .i64 (t20.1.length:Int)))),(72,(.v (.int .i64 (a0.length:Int))))]) ⟨DLe.of_eq (cT hw22).symm,DLe.of_eq (cT hw22).symm,trivial⟩ (VOk.g (VOk.arith (op:=.neq) (k:=.i64) (a:=(t20.1.length:Int)) (b:=(a0.length:Int)) rfl rfl rfl rfl)))) ?_
       refine .cv (VOk.to (VOk.pickI (b:=((t18.1.length:Int) != (a0.length:Int))) (p:=true) (q:=((t20.1.length:Int) != (a0.length:Int))) rfl rfl (fun hp23 => rfl) (fun hp23 => (cT (f_beq hp23)))) (pickOr ((t18.1.length:Int) != (a0.length:Int)) ((t20.1.length:Int) != (a0.length:Int)))) rfl rfl ?_
       exact .dn
      refine Ok.test (b:=(((t18.1.length:Int) != (a0.length:Int)) || ((t20.1.length:Int) != (a0.length:Int)))) rfl (fun hb33 => ?_) (fun hb33 => ?_)
      ·replace H:=ifT H hb33
       refine Ok.seq ?_
       refine .rg [(2,(.v (.bool false)))] [] ?_
       refine Ok.ret ?_
       obtain rfl:=Option.some.inj H
       exact⟨.inl rfl,⟨_,(.cons (.tmp rfl) .nil),rfl⟩,trivial⟩
      ·replace H:=ifF H hb33
       refine Ok.skip ?_
       refine Ok.seq ?_
       refine Ok.seq ?_
       refine .rg [(9,(L 4 e_api_Entry t18.1)),(11,(L 4 e_api_Entry t20.1)),(13,(.v (.int .i64 0)))] [] ?_
       refine Ok.block ?_
       refine Ok.loop (fun m26 σ => ∃ (x13_24:Int),σ=⟨[(9,(L 4 e_api_Entry t18.1)),(11,(L 4 e_api_Entry t20.1)),(13,(.v (.int .i64 x13_24)))],[]⟩ ∧ watchbilllaw16_ListsOrder.l1 k t18 t20 m26 x13_24=some r) k ⟨0,rfl,H⟩ ?_
       rintro m26 σ ⟨x13_24,rfl,H⟩
       cases m26 with
       | zero => exact absurd H (by simp [watchbilllaw16_ListsOrder.l1])
       | succ m26 =>
        unfold watchbilllaw16_ListsOrder.l1 at H
        refine Ok.seq ?_
        refine Ok.seq ?_
        refine Ok.region (σ':=⟨[(9,(L 4 e_api_Entry t18.1)),(11,(L 4 e_api_Entry t20.1)),(13,(.v (.int .i64 x13_24))),(78,(.v (.bool (decide (x13_24 < (t18.1.length:Int))))))],[]⟩) ?_ ?_
        ·refine .rn 2 ?_
         refine .cv (VOk.lenL (e:=e_api_Entry) (xs:=t18.1) rfl Tryz.underlying22 rfl) rfl rfl ?_
         refine .rn 1 ?_
         exact .dn
        refine Ok.test (b:=(decide (x13_24 < (t18.1.length:Int)))) rfl (fun hb32 => ?_) (fun hb32 => ?_)
        ·replace H:=ifT H hb32
         refine Ok.skip ?_
         refine Ok.seq ?_
         refine Ok.block ?_
         refine Ok.seq ?_
         obtain⟨c27,H⟩:=assertE H
         obtain⟨c28,H⟩:=assertE H
         obtain⟨t29,h30,H⟩:=bindE H
         refine .dA [(9,(L 4 e_api_Entry t18.1)),(11,(L 4 e_api_Entry t20.1)),(13,(.v (.int .i64 x13_24))),(94,(.v (.bool (!t29))))] [] [[],[],[0,1],[2],[],[],[5],[6],[],[7,8],[4,9],[10],[3,11],[12]] mixed ?_ ?_
         ·refine .tn 2 ?_
          refine .tc (VOk.g (VOk.indexL (sz:=4) (e:=e_api_Entry) (xs:=t18.1) (i:=x13_24) rfl Tryz.underlying22 sz45 rfl rfl c27)) ?_
          refine .tn 3 ?_
          refine .tc (VOk.g (VOk.lenL (e:=e_api_Entry) (xs:=t20.1) rfl Tryz.underlying22 rfl)) ?_
          refine .tn 3 ?_
          refine .tc (VOk.g (VOk.indexL (sz:=4) (e:=e_api_Entry) (xs:=t20.1) (i:=(IntKind.i64.wrap ((IntKind.i64.wrap ((t20.1.length:Int) - 1)) - x13_24))) rfl Tryz.underlying22 sz45 rfl rfl c28)) ?_
          refine .tn 1 ?_
          refine .tc (GOk.call rfl rfl cl15 rfl (watchbillref16_One_1.ok h30) rfl) ?_
          refine .tn 1 ?_
          exact .dn
         refine Ok.test (b:=(!t29)) rfl (fun hb31 => ?_) (fun hb31 => ?_)
         ·replace H:=ifT H hb31
          refine Ok.seq ?_
          refine .rg [(2,(.v (.bool false)))] [] ?_
          refine Ok.ret ?_
          obtain rfl:=Option.some.inj H
          exact⟨.inl rfl,⟨_,(.cons (.tmp rfl) .nil),rfl⟩,trivial⟩
         ·replace H:=ifF H hb31
          refine Ok.skip ?_
          refine .rg [(9,(L 4 e_api_Entry t18.1)),(11,(L 4 e_api_Entry t20.1)),(13,(.v (.int .i64 (IntKind.i64.wrap (x13_24 + 1)))))] [] ?_
          exact⟨m26,Nat.lt_succ_self m26,(IntKind.i64.wrap (x13_24 + 1)),rfl,H⟩
        ·replace H:=ifF H hb32
         refine Ok.exit ?_
         refine Ok.seq ?_
         refine .rg [(2,(.v (.bool true)))] [] ?_
         refine Ok.ret ?_
         obtain rfl:=Option.some.inj H
         exact⟨.inl rfl,⟨_,(.cons (.tmp rfl) .nil),rfl⟩,trivial⟩
end Go.Proofs.YtapbckofgcmgmaaGreatDoor.Sh
