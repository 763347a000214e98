import Derived.Test.YtafoiodfflcpeaaPureT
namespace Go.Proofs.Ytafoiodfflcpeaa.Sh
open Go Go.RowKit Go.Proofs.Vx
set_option linter.unusedVariables false
set_option maxRecDepth 100000
set_option maxHeartbeats 1000000
def change_insert (k:Nat) (a0:T_api_Node) (a1:T_api_Node) (a2:List T_api_Step):Option (T_api_Node × (List Int) × Int):=(if ((a2.length:Int) == 1)=true then some ((T_api_Node.mk 0 (T_api_Name.mk ([]:Str) ([]:Str)) ([]:List T_api_Attr) ([]:List T_api_Node) ([]:Str)),([]:List Int),42) else (if (0:Int) ≤ 0 ∧ (0:Int) ≤ (IntKind.i64.wrap ((a2.length:Int) - 1)) ∧ (IntKind.i64.wrap ((a2.length:Int) - 1)) ≤ (a2.length:Int) then ((match_Select k a0 (sl a2 0 (IntKind.i64.wrap ((a2.length:Int) - 1)))).bind fun (t2:(List Int) × Int) => (if (t2.2 != 0)=true then some ((T_api_Node.mk 0 (T_api_Name.mk ([]:Str) ([]:Str)) ([]:List T_api_Attr) ([]:List T_api_Node) ([]:Str)),([]:List Int),43) else ((path_At k a0 t2.1).bind fun (t4:T_api_Node × Bool) => (if (0:Int) ≤ (IntKind.i64.wrap ((a2.length:Int) - 1)) ∧ (IntKind.i64.wrap ((a2.length:Int) - 1)) < (a2.length:Int) then ((change_place k t4.1 (rd a2 (IntKind.i64.wrap ((a2.length:Int) - 1)))).bind fun (t7:Int × Bool) => (if (!t7.2)=true then some ((T_api_Node.mk 0 (T_api_Name.mk ([]:Str) ([]:Str)) ([]:List T_api_Attr) ([]:List T_api_Node) ([]:Str)),([]:List Int),42) else ((path_Insert k a0 a1 t7.1 t2.1).bind fun (t9:T_api_Node × Bool) => ((slices_Clone_39_o t2.1).bind fun (t11:List Int) => (if (t11.length + ([t7.1]:List Int).length) * 8 ≤ 140737488355328 then some (t9.1,(t11 ++ ([t7.1]:List Int)),0) else none))))) else none)))) else none))
theorem change_insert.ok {k:Nat} {a0:T_api_Node} {a1:T_api_Node} {a2:List T_api_Step} {r:T_api_Node × (List Int) × Int} (H:change_insert k a0 a1 a2=some r):Vx.Fn Try.prog 21 [(.agg (e_api_Node a0)),(.agg (e_api_Node a1)),(L 9 e_api_Step a2)] [] (.tup [(.agg (e_api_Node r.1)),(L 1 (eI .i64) r.2.1),(.v (.int .i64 r.2.2))]) []:=by
 unfold change_insert at H
 refine Vx.Fn.of_okR Try.func21 rfl (Nat.le_of_ble_eq_true rfl) ?_
 refine Ok.seq ?_
 refine Ok.region (σ':=⟨[(2,(L 9 e_api_Step a2)),(3,(.bref 3 0)),(4,(.bref 4 0)),(6,(.bref 6 0))],[(3,(bxN a0)),(4,(bxN a1)),(6,bx0)]⟩) ?_ ?_
 ·refine OpsOk.cut1 0 (.agg (c_api_Node a0)) (DLe.of_eq (congrArg D.agg (e_api_Node_c _).symm)) ?_
  refine .rn 1 ?_
  refine OpsOk.cut1 1 (.agg (c_api_Node a1)) (DLe.of_eq (congrArg D.agg (e_api_Node_c _).symm)) ?_
  refine .rn 2 ?_
  refine OpsOk.cons rfl (.nilT 7 3 1 (.inl rfl) rfl rfl) ?_
  refine .rn 1 ?_
  exact .dn
 refine Ok.seq ?_
 refine Ok.seq ?_
 refine Ok.region (σ':=⟨[(2,(L 9 e_api_Step a2)),(3,(.bref 3 0)),(4,(.bref 4 0)),(6,(.bref 6 0)),(19,(.v (.bool ((a2.length:Int) == 1))))],[(3,(bxN a0)),(4,(bxN a1)),(6,bx0)]⟩) ?_ ?_
 ·refine .rn 1 ?_
  refine .cv (VOk.lenL (e:=e_api_Step) (xs:=a2) rfl Try.underlying28 rfl) rfl rfl ?_
  refine .rn 1 ?_
  exact .dn
 refine Ok.test (b:=((a2.length:Int) == 1)) rfl (fun hb16 => ?_) (fun hb16 => ?_)
 ·replace H:=ifT H hb16
  refine Ok.seq ?_
  refine Ok.region (σ':=⟨[(6,(.bref 6 0)),(7,(.sref 7)),(8,(.v (.int .i64 42)))],[(6,(.box .ex (c_api_Node (T_api_Node.mk 0 (T_api_Name.mk ([]:Str) ([]:Str)) ([]:List T_api_Attr) ([]:List T_api_Node) ([]:Str))))),(7,(.rows true 3 1 (([]:List Int).map (eI .i64))))]⟩) ?_ ?_
  ·refine .cv (VOk.to (d':=(.agg (e_api_Node (T_api_Node.mk 0 (T_api_Name.mk ([]:Str) ([]:Str)) ([]:List T_api_Attr) ([]:List T_api_Node) ([]:Str))))) (.build [none,none,none,some 3,some 6,none] [(0,1),(1,2),(3,1),(4,1),(5,1)] rfl Try.underlying27 (fa27 Try.underlying27) zo27 rfl rfl) (congrArg D.agg (e_api_Node_c (T_api_Node.mk 0 (T_api_Name.mk ([]:Str) ([]:Str)) ([]:List T_api_Attr) ([]:List T_api_Node) ([]:Str))).symm)) rfl rfl ?_
   refine OpsOk.cut1 20 (.agg [(.v (.int .i64 ((T_api_Node.mk 0 (T_api_Name.mk ([]:Str) ([]:Str)) ([]:List T_api_Attr) ([]:List T_api_Node) ([]:Str)).Kind))),(S ((T_api_Node.mk 0 (T_api_Name.mk ([]:Str) ([]:Str)) ([]:List T_api_Attr) ([]:List T_api_Node) ([]:Str)).Name.Space)),(S ((T_api_Node.mk 0 (T_api_Name.mk ([]:Str) ([]:Str)) ([]:List T_api_Attr) ([]:List T_api_Node) ([]:Str)).Name.Local)),(L 3 e_api_Attr ((T_api_Node.mk 0 (T_api_Name.mk ([]:Str) ([]:Str)) ([]:List T_api_Attr) ([]:List T_api_Node) ([]:Str)).Attrs)),(L 6 e_api_Node ((T_api_Node.mk 0 (T_api_Name.mk ([]:Str) ([]:Str)) ([]:List T_api_Attr) ([]:List T_api_Node) ([]:Str)).Kids)),(S ((T_api_Node.mk 0 (T_api_Name.mk ([]:Str) ([]:Str)) ([]:List T_api_Attr) ([]:List T_api_Node) ([]:Str)).Text))]) (DLe.of_eq (congrArg D.agg (e_api_Node_c _).symm)) ?_
   refine .rn 1 ?_
   refine OpsOk.cons rfl (.nilT 7 3 1 (.inl rfl) rfl rfl) ?_
   refine .rn 1 ?_
   exact .dn
  refine Ok.frzL 7 (e:=(eI .i64)) (xs:=([]:List Int)) rfl ?_
  refine Ok.ret ?_
  obtain rfl:=Option.some.inj H
  exact⟨.inl rfl,⟨_,(.cons (.cell (VOk.to (d':=(.agg (e_api_Node (T_api_Node.mk 0 (T_api_Name.mk ([]:Str) ([]:Str)) ([]:List T_api_Attr) ([]:List T_api_Node) ([]:Str))))) (.loadBAgg rfl Try.underlying27 rfl sz27 rfl rfl rfl) (congrArg D.agg (e_api_Node_c (T_api_Node.mk 0 (T_api_Name.mk ([]:Str) ([]:Str)) ([]:List T_api_Attr) ([]:List T_api_Node) ([]:Str))).symm))) (.cons (.tmp rfl) (.cons (.tmp rfl) .nil))),rfl⟩,trivial⟩
 ·replace H:=ifF H hb16
  refine Ok.skip ?_
  refine Ok.seq ?_
  obtain⟨c1,H⟩:=assertE H
  obtain⟨t2,h3,H⟩:=bindE H
  refine .dA [(2,(L 9 e_api_Step a2)),(3,(.bref 3 0)),(4,(.bref 4 0)),(6,(.bref 6 0)),(9,(L 1 (eI .i64) t2.1)),(10,(.v (.int .i64 t2.2)))] [(3,(bxN a0)),(4,(bxN a1)),(6,bx0)] [[],[],[],[2],[3],[1,4],[0,5],[6],[7],[7],[8],[9]] mixed ?_ ?_
  ·refine .tc (VOk.g (VOk.to (d':=(.agg (e_api_Node a0))) (.loadBAgg rfl Try.underlying27 rfl sz27 rfl rfl rfl) (congrArg D.agg (e_api_Node_c a0).symm))) ?_
   refine .tn 2 ?_
   refine .tc (VOk.g (VOk.lenL (e:=e_api_Step) (xs:=a2) rfl Try.underlying28 rfl)) ?_
   refine .tn 1 ?_
   refine .tc (VOk.g (VOk.sliceL (e:=e_api_Step) (xs:=a2) (l:=0) (h:=(IntKind.i64.wrap ((a2.length:Int) - 1))) rfl Try.underlying28 sz45 rfl rfl rfl c1)) ?_
   refine .tc (GOk.call rfl rfl cl9 rfl (match_Select.ok h3) rfl) ?_
   refine .tn 5 ?_
   exact .dn
  refine Ok.seq ?_
  refine Ok.seq ?_
  refine .rg [(2,(L 9 e_api_Step a2)),(3,(.bref 3 0)),(4,(.bref 4 0)),(6,(.bref 6 0)),(9,(L 1 (eI .i64) t2.1)),(32,(.v (.bool (t2.2 != 0))))] [(3,(bxN a0)),(4,(bxN a1)),(6,bx0)] ?_
  refine Ok.test (b:=(t2.2 != 0)) rfl (fun hb15 => ?_) (fun hb15 => ?_)
  ·replace H:=ifT H hb15
   refine Ok.seq ?_
   refine Ok.region (σ':=⟨[(6,(.bref 6 0)),(7,(.sref 7)),(8,(.v (.int .i64 43)))],[(6,(.box .ex (c_api_Node (T_api_Node.mk 0 (T_api_Name.mk ([]:Str) ([]:Str)) ([]:List T_api_Attr) ([]:List T_api_Node) ([]:Str))))),(7,(.rows true 3 1 (([]:List Int).map (eI .i64))))]⟩) ?_ ?_
   ·refine .cv (VOk.to (d':=(.agg (e_api_Node (T_api_Node.mk 0 (T_api_Name.mk ([]:Str) ([]:Str)) ([]:List T_api_Attr) ([]:List T_api_Node) ([]:Str))))) (.build [none,none,none,some 3,some 6,none] [(0,1),(1,2),(3,1),(4,1),(5,1)] rfl Try.underlying27 (fa27 Try.underlying27) zo27 rfl rfl) (congrArg D.agg (e_api_Node_c (T_api_Node.mk 0 (T_api_Name.mk ([]:Str) ([]:Str)) ([]:List T_api_Attr) ([]:List T_api_Node) ([]:Str))).symm)) rfl rfl ?_
    refine OpsOk.cut1 33 (.agg [(.v (.int .i64 ((T_api_Node.mk 0 (T_api_Name.mk ([]:Str) ([]:Str)) ([]:List T_api_Attr) ([]:List T_api_Node) ([]:Str)).Kind))),(S ((T_api_Node.mk 0 (T_api_Name.mk ([]:Str) ([]:Str)) ([]:List T_api_Attr) ([]:List T_api_Node) ([]:Str)).Name.Space)),(S ((T_api_Node.mk 0 (T_api_Name.mk ([]:Str) ([]:Str)) ([]:List T_api_Attr) ([]:List T_api_Node) ([]:Str)).Name.Local)),(L 3 e_api_Attr ((T_api_Node.mk 0 (T_api_Name.mk ([]:Str) ([]:Str)) ([]:List T_api_Attr) ([]:List T_api_Node) ([]:Str)).Attrs)),(L 6 e_api_Node ((T_api_Node.mk 0 (T_api_Name.mk ([]:Str) ([]:Str)) ([]:List T_api_Attr) ([]:List T_api_Node) ([]:Str)).Kids)),(S ((T_api_Node.mk 0 (T_api_Name.mk ([]:Str) ([]:Str)) ([]:List T_api_Attr) ([]:List T_api_Node) ([]:Str)).Text))]) (DLe.of_eq (congrArg D.agg (e_api_Node_c _).symm)) ?_
    refine .rn 1 ?_
    refine OpsOk.cons rfl (.nilT 7 3 1 (.inl rfl) rfl rfl) ?_
    refine .rn 1 ?_
    exact .dn
   refine Ok.frzL 7 (e:=(eI .i64)) (xs:=([]:List Int)) rfl ?_
   refine Ok.ret ?_
   obtain rfl:=Option.some.inj H
   exact⟨.inl rfl,⟨_,(.cons (.cell (VOk.to (d':=(.agg (e_api_Node (T_api_Node.mk 0 (T_api_Name.mk ([]:Str) ([]:Str)) ([]:List T_api_Attr) ([]:List T_api_Node) ([]:Str))))) (.loadBAgg rfl Try.underlying27 rfl sz27 rfl rfl rfl) (congrArg D.agg (e_api_Node_c (T_api_Node.mk 0 (T_api_Name.mk ([]:Str) ([]:Str)) ([]:List T_api_Attr) ([]:List T_api_Node) ([]:Str))).symm))) (.cons (.tmp rfl) (.cons (.tmp rfl) .nil))),rfl⟩,trivial⟩
  ·replace H:=ifF H hb15
   refine Ok.skip ?_
   refine Ok.seq ?_
   obtain⟨t4,h5,H⟩:=bindE H
   refine Ok.region (σ':=⟨[(2,(L 9 e_api_Step a2)),(3,(.bref 3 0)),(4,(.bref 4 0)),(6,(.bref 6 0)),(9,(L 1 (eI .i64) t2.1)),(11,(.bref 11 0))],[(3,(bxN a0)),(4,(bxN a1)),(6,bx0),(11,(.box .ex (c_api_Node t4.1)))]⟩) ?_ ?_
   ·refine .cv (VOk.to (d':=(.agg (e_api_Node a0))) (.loadBAgg rfl Try.underlying27 rfl sz27 rfl rfl rfl) (congrArg D.agg (e_api_Node_c a0).symm)) rfl rfl ?_
    refine .rn 1 ?_
    refine .cg (GOk.call rfl rfl cl10 rfl (path_At.ok h5) rfl) rfl rfl ?_
    refine .rn 4 ?_
    refine OpsOk.cut1 38 (.agg [(.v (.int .i64 t4.1.Kind)),(S t4.1.Name.Space),(S t4.1.Name.Local),(L 3 e_api_Attr t4.1.Attrs),(L 6 e_api_Node t4.1.Kids),(S t4.1.Text)]) (DLe.of_eq (congrArg D.agg (e_api_Node_c _).symm)) ?_
    refine .rn 2 ?_
    exact .dn
   refine Ok.seq ?_
   obtain⟨c6,H⟩:=assertE H
   obtain⟨t7,h8,H⟩:=bindE H
   refine .dA [(3,(.bref 3 0)),(4,(.bref 4 0)),(6,(.bref 6 0)),(9,(L 1 (eI .i64) t2.1)),(13,(.v (.int .i64 t7.1))),(14,(.v (.bool t7.2)))] [(3,(bxN a0)),(4,(bxN a1)),(6,bx0)] [[],[],[],[2],[3],[1,4],[5],[0,6],[7],[8],[8],[9],[10]] mixed ?_ ?_
   ·refine .tc (VOk.g (VOk.to (d':=(.agg (e_api_Node t4.1))) (.loadBAgg rfl Try.underlying27 rfl sz27 rfl rfl rfl) (congrArg D.agg (e_api_Node_c t4.1).symm))) ?_
    refine .tn 2 ?_
    refine .tc (VOk.g (VOk.lenL (e:=e_api_Step) (xs:=a2) rfl Try.underlying28 rfl)) ?_
    refine .tn 1 ?_
    refine .tc (VOk.g (VOk.indexL (sz:=9) (e:=e_api_Step) (xs:=a2) (i:=(IntKind.i64.wrap ((a2.length:Int) - 1))) rfl Try.underlying28 sz45 rfl rfl c6)) ?_
    refine .tn 1 ?_
    refine .tc (GOk.call rfl rfl cl37 rfl (change_place.ok h8) rfl) ?_
    refine .tn 5 ?_
    exact .dn
   refine Ok.seq ?_
   refine Ok.seq ?_
   refine .rg [(3,(.bref 3 0)),(4,(.bref 4 0)),(6,(.bref 6 0)),(9,(L 1 (eI .i64) t2.1)),(13,(.v (.int .i64 t7.1))),(52,(.v (.bool (!t7.2))))] [(3,(bxN a0)),(4,(bxN a1)),(6,bx0)] ?_
   refine Ok.test (b:=(!t7.2)) rfl (fun hb14 => ?_) (fun hb14 => ?_)
   ·replace H:=ifT H hb14
    refine Ok.seq ?_
    refine Ok.region (σ':=⟨[(6,(.bref 6 0)),(7,(.sref 7)),(8,(.v (.int .i64 42)))],[(6,(.box .ex (c_api_Node (T_api_Node.mk 0 (T_api_Name.mk ([]:Str) ([]:Str)) ([]:List T_api_Attr) ([]:List T_api_Node) ([]:Str))))),(7,(.rows true 3 1 (([]:List Int).map (eI .i64))))]⟩) ?_ ?_
    ·refine .cv (VOk.to (d':=(.agg (e_api_Node (T_api_Node.mk 0 (T_api_Name.mk ([]:Str) ([]:Str)) ([]:List T_api_Attr) ([]:List T_api_Node) ([]:Str))))) (.build [none,none,none,some 3,some 6,none] [(0,1),(1,2),(3,1),(4,1),(5,1)] rfl Try.underlying27 (fa27 Try.underlying27) zo27 rfl rfl) (congrArg D.agg (e_api_Node_c (T_api_Node.mk 0 (T_api_Name.mk ([]:Str) ([]:Str)) ([]:List T_api_Attr) ([]:List T_api_Node) ([]:Str))).symm)) rfl rfl ?_
     refine OpsOk.cut1 53 (.agg [(.v (.int .i64 ((T_api_Node.mk 0 (T_api_Name.mk ([]:Str) ([]:Str)) ([]:List T_api_Attr) ([]:List T_api_Node) ([]:Str)).Kind))),(S ((T_api_Node.mk 0 (T_api_Name.mk ([]:Str) ([]:Str)) ([]:List T_api_Attr) ([]:List T_api_Node) ([]:Str)).Name.Space)),(S ((T_api_Node.mk 0 (T_api_Name.mk ([]:Str) ([]:Str)) ([]:List T_api_Attr) ([]:List T_api_Node) ([]:Str)).Name.Local)),(L 3 e_api_Attr ((T_api_Node.mk 0 (T_api_Name.mk ([]:Str) ([]:Str)) ([]:List T_api_Attr) ([]:List T_api_Node) ([]:Str)).Attrs)),(L 6 e_api_Node ((T_api_Node.mk 0 (T_api_Name.mk ([]:Str) ([]:Str)) ([]:List T_api_Attr) ([]:List T_api_Node) ([]:Str)).Kids)),(S ((T_api_Node.mk 0 (T_api_Name.mk ([]:Str) ([]:Str)) ([]:List T_api_Attr) ([]:List T_api_Node) ([]:Str)).Text))]) (DLe.of_eq (congrArg D.agg (e_api_Node_c _).symm)) ?_
     refine .rn 1 ?_
     refine OpsOk.cons rfl (.nilT 7 3 1 (.inl rfl) rfl rfl) ?_
     refine .rn 1 ?_
     exact .dn
    refine Ok.frzL 7 (e:=(eI .i64)) (xs:=([]:List Int)) rfl ?_
    refine Ok.ret ?_
    obtain rfl:=Option.some.inj H
    exact⟨.inl rfl,⟨_,(.cons (.cell (VOk.to (d':=(.agg (e_api_Node (T_api_Node.mk 0 (T_api_Name.mk ([]:Str) ([]:Str)) ([]:List T_api_Attr) ([]:List T_api_Node) ([]:Str))))) (.loadBAgg rfl Try.underlying27 rfl sz27 rfl rfl rfl) (congrArg D.agg (e_api_Node_c (T_api_Node.mk 0 (T_api_Name.mk ([]:Str) ([]:Str)) ([]:List T_api_Attr) ([]:List T_api_Node) ([]:Str))).symm))) (.cons (.tmp rfl) (.cons (.tmp rfl) .nil))),rfl⟩,trivial⟩
   ·replace H:=ifF H hb14
    refine Ok.skip ?_
    refine Ok.seq ?_
    obtain⟨t9,h10,H⟩:=bindE H
    refine Ok.region (σ':=⟨[(6,(.bref 6 0)),(9,(L 1 (eI .i64) t2.1)),(13,(.v (.int .i64 t7.1))),(15,(.bref 15 0))],[(6,bx0),(15,(.box .ex (c_api_Node t9.1)))]⟩) ?_ ?_
    ·refine .cv (VOk.to (d':=(.agg (e_api_Node a0))) (.loadBAgg rfl Try.underlying27 rfl sz27 rfl rfl rfl) (congrArg D.agg (e_api_Node_c a0).symm)) rfl rfl ?_
     refine .cv (VOk.to (d':=(.agg (e_api_Node a1))) (.loadBAgg rfl Try.underlying27 rfl sz27 rfl rfl rfl) (congrArg D.agg (e_api_Node_c a1).symm)) rfl rfl ?_
     refine .rn 2 ?_
     refine .cg (GOk.call rfl rfl cl38 rfl (path_Insert.ok h10) rfl) rfl rfl ?_
     refine .rn 4 ?_
     refine OpsOk.cut1 60 (.agg [(.v (.int .i64 t9.1.Kind)),(S t9.1.Name.Space),(S t9.1.Name.Local),(L 3 e_api_Attr t9.1.Attrs),(L 6 e_api_Node t9.1.Kids),(S t9.1.Text)]) (DLe.of_eq (congrArg D.agg (e_api_Node_c _).symm)) ?_
     refine .rn 2 ?_
     exact .dn
    refine Ok.seq ?_
    obtain⟨t11,h12,H⟩:=bindE H
    obtain⟨c13,H⟩:=assertE H
    refine Ok.le (σ':=⟨[(6,(.bref 6 0)),(9,(L 1 (eI .i64) t2.1)),(13,(.v (.int .i64 t7.1))),(15,(.bref 15 0))],[(6,bx0),(15,(.box .ex (c_api_Node t9.1)))]⟩) (.rf rfl rfl) ?_
    refine Ok.drawE2 (σ':=⟨[(6,(.bref 6 0)),(7,(.sref 64)),(8,(.v (.int .i64 0)))],[(6,(.box .ex (c_api_Node t9.1))),(64,(.rows true 3 1 ((t11 ++ ([t7.1]:List Int)).map (eI .i64))))]⟩) [⟨true,[(15,(.bref 15 0))],[(15,(.box .ex (c_api_Node t9.1)))],(.agg (e_api_Node t9.1)),[],false,[]⟩,⟨true,[(9,(L 1 (eI .i64) t2.1))],[],(L 1 (eI .i64) t2.1),[],false,[]⟩,⟨true,[(63,(L 1 (eI .i64) t2.1))],[],(.sref 64),[(64,(.rows true 3 1 (t11.map (eI .i64))))],true,[]⟩,⟨true,[(13,(.v (.int .i64 t7.1)))],[],(.v (.int .i64 t7.1)),[],false,[]⟩,⟨true,[(65,(.v (.int .i64 t7.1)))],[],(L 1 (eI .i64) ([t7.1]:List Int)),[],false,[]⟩,⟨true,[(64,(.sref 64)),(66,(L 1 (eI .i64) ([t7.1]:List Int)))],[(64,(.rows true 3 1 (t11.map (eI .i64))))],(.sref 67),[(67,(.rows true 3 1 ((t11 ++ ([t7.1]:List Int)).map (eI .i64)))),(64,.none)],true,[]⟩,⟨true,[(6,(.bref 6 0)),(62,(.agg [(.v (.int .i64 t9.1.Kind)),(S t9.1.Name.Space),(S t9.1.Name.Local),(L 3 e_api_Attr t9.1.Attrs),(L 6 e_api_Node t9.1.Kids),(S t9.1.Text)]))],[(6,bx0)],.junk,[(6,(.box .ex (c_api_Node t9.1)))],false,[]⟩,⟨true,[(67,(.sref 67))],[(67,(.rows true 3 1 ((t11 ++ ([t7.1]:List Int)).map (eI .i64))))],(.sref 67),[],false,[]⟩,⟨true,[],[],(.v (.int .i64 0)),[],false,[]⟩] [[],[],[1],[],[3],[2,4],[0],[5],[]] mixed (by kernel_rfl) ?_ ?_
    ·refine TxtE2.cons ⟨.same _,trivial⟩ ⟨rfl,trivial⟩ (It2.val rfl rfl (fun T hT => (VOk.g (VOk.to (d':=(.agg (e_api_Node t9.1))) (.loadBAgg rfl Try.underlying27 rfl sz27 rfl hT.1 rfl) (congrArg D.agg (e_api_Node_c t9.1).symm))))) ?_
     refine TxtE2.cons ⟨.same _,trivial⟩ trivial (It2.val rfl rfl (fun T hT => (VOk.g (VOk.mv (d:=(L 1 (eI .i64) t2.1)) rfl rfl)))) ?_
     refine TxtE2.cons ⟨.same _,trivial⟩ trivial (It2.callO 64 (rows:=t11.map (eI .i64)) rfl rfl rfl cl39 rfl (slices_Clone_39_o.ok h12) rfl) ?_
     refine TxtE2.cons ⟨.same _,trivial⟩ trivial (It2.val rfl rfl (fun T hT => (VOk.g (VOk.mv (d:=(.v (.int .i64 t7.1))) rfl rfl)))) ?_
     refine TxtE2.cons ⟨.same _,trivial⟩ trivial (It2.val rfl rfl (fun T hT => (GOk.to (d':=(L 1 (eI .i64) ([t7.1]:List Int))) (GOk.lit rfl Try.underlying34 sz3 zs3 rfl rfl rfl rfl) rfl))) ?_
     refine TxtE2.cons ⟨.same _,.same _,trivial⟩ ⟨rfl,trivial⟩ (It2.appendL 67 (e:=(eI .i64)) (xs:=t11) (ys:=([t7.1]:List Int)) rfl rfl Try.underlying34 elt3 rfl rfl rfl rfl c13 rfl rfl) ?_
     refine TxtE2.cons ⟨.same _,DLe.of_eq (congrArg D.agg (e_api_Node_c _).symm),trivial⟩ ⟨rfl,trivial⟩ (It2.store rfl rfl sz27 rfl rfl rfl rfl rfl rfl rfl rfl) ?_
     refine TxtE2.cons ⟨.same _,trivial⟩ ⟨rfl,trivial⟩ (It2.val rfl rfl (fun T hT => (VOk.g (VOk.asg (d:=(.sref 67)) rfl rfl)))) ?_
     refine TxtE2.cons trivial trivial (It2.val rfl rfl (fun T hT => (VOk.g (VOk.asg (d:=(.v (.int .i64 0))) rfl rfl)))) ?_
     exact .doneS (SLe.trans (Le.s (.rf rfl rfl)) (SLe.ren 67 64 rfl rfl))
    refine Ok.frzL 64 (e:=(eI .i64)) (xs:=(t11 ++ ([t7.1]:List Int))) rfl ?_
    refine Ok.ret ?_
    obtain rfl:=Option.some.inj H
    exact⟨.inl rfl,⟨_,(.cons (.cell (VOk.to (d':=(.agg (e_api_Node t9.1))) (.loadBAgg rfl Try.underlying27 rfl sz27 rfl rfl rfl) (congrArg D.agg (e_api_Node_c t9.1).symm))) (.cons (.tmp rfl) (.cons (.tmp rfl) .nil))),rfl⟩,trivial⟩
def change_PutElement.j0 (k:Nat) (a2:List T_api_Step) (t5:(List Int) × Int) (x10_7:List Int) (y9_0_8:Int) (y9_1_9:Str) (y9_2_10:Str) (y9_3_11:List T_api_Attr) (y9_4_12:List T_api_Node) (y9_5_13:Str):Option (T_api_Node × Bool × Int):=((change_checked k (T_api_Node.mk y9_0_8 (T_api_Name.mk y9_1_9 y9_2_10) y9_3_11 y9_4_12 y9_5_13) a2 x10_7).bind fun (t14:Int) => (if (t14 != 0)=true then some ((T_api_Node.mk 0 (T_api_Name.mk ([]:Str) ([]:Str)) ([]:List T_api_Attr) ([]:List T_api_Node) ([]:Str)),false,t14) else some ((T_api_Node.mk y9_0_8 (T_api_Name.mk y9_1_9 y9_2_10) y9_3_11 y9_4_12 y9_5_13),(t5.2 == 5),0)))
def change_PutElement (k:Nat) (a0:T_api_Node) (a1:T_api_Node) (a2:List T_api_Step):Option (T_api_Node × Bool × Int):=((change_names k a2).bind fun (t1:Bool) => (if ((!t1) || (a1.Kind != 1))=true then some ((T_api_Node.mk 0 (T_api_Name.mk ([]:Str) ([]:Str)) ([]:List T_api_Attr) ([]:List T_api_Node) ([]:Str)),false,33) else ((match_Select k a0 a2).bind fun (t5:(List Int) × Int) => (if (t5.2 == 35)=true then some ((T_api_Node.mk 0 (T_api_Name.mk ([]:Str) ([]:Str)) ([]:List T_api_Attr) ([]:List T_api_Node) ([]:Str)),false,t5.2) else (if (t5.2 == 5)=true then ((change_insert k a0 a1 a2).bind fun (t17:T_api_Node × (List Int) × Int) => (if (t17.2.2 != 0)=true then some ((T_api_Node.mk 0 (T_api_Name.mk ([]:Str) ([]:Str)) ([]:List T_api_Attr) ([]:List T_api_Node) ([]:Str)),false,t17.2.2) else change_PutElement.j0 k a2 t5 t17.2.1 t17.1.Kind t17.1.Name.Space t17.1.Name.Local t17.1.Attrs t17.1.Kids t17.1.Text)) else ((path_Replace k a0 a1 t5.1).bind fun (t20:T_api_Node × Bool) => change_PutElement.j0 k a2 t5 t5.1 t20.1.Kind t20.1.Name.Space t20.1.Name.Local t20.1.Attrs t20.1.Kids t20.1.Text))))))
theorem change_PutElement.ok {k:Nat} {a0:T_api_Node} {a1:T_api_Node} {a2:List T_api_Step} {r:T_api_Node × Bool × Int} (H:change_PutElement k a0 a1 a2=some r):Vx.Fn Try.prog 8 [(.agg (e_api_Node a0)),(.agg (e_api_Node a1)),(L 9 e_api_Step a2)] [] (.tup [(.agg (e_api_Node r.1)),(.v (.bool r.2.1)),(.v (.int .i64 r.2.2))]) []:=by
 unfold change_PutElement at H
 refine Vx.Fn.of_okR Try.func8 rfl (Nat.le_of_ble_eq_true rfl) ?_
 refine Ok.seq ?_
 refine Ok.region (σ':=⟨[(2,(L 9 e_api_Step a2)),(3,(.bref 3 0)),(4,(.bref 4 0)),(6,(.bref 6 0))],[(3,(bxN a0)),(4,(bxN a1)),(6,bx0)]⟩) ?_ ?_
 ·refine OpsOk.cut1 0 (.agg (c_api_Node a0)) (DLe.of_eq (congrArg D.agg (e_api_Node_c _).symm)) ?_
  refine .rn 1 ?_
  refine OpsOk.cut1 1 (.agg (c_api_Node a1)) (DLe.of_eq (congrArg D.agg (e_api_Node_c _).symm)) ?_
  refine .rn 4 ?_
  exact .dn
 refine Ok.seq ?_
 refine Ok.seq ?_
 obtain⟨t1,h2,H⟩:=bindE H
 refine Ok.region (σ':=⟨[(2,(L 9 e_api_Step a2)),(3,(.bref 3 0)),(4,(.bref 4 0)),(6,(.bref 6 0)),(21,(.v (.bool ((!t1) || (a1.Kind != 1)))))],[(3,(bxN a0)),(4,(bxN a1)),(6,bx0)]⟩) ?_ ?_
 ·refine .rn 1 ?_
  refine .cg (GOk.call rfl rfl cl20 rfl (change_names.ok h2) rfl) rfl rfl ?_
  refine .rn 2 ?_
  refine OpsOk.consI rfl rfl rfl (.one rfl) rfl (fun hw3 => (VOk.g (VOk.to (VOk.fieldB rfl Try.underlying27 rfl sz3 rfl rfl) rfl))) ?_
  refine OpsOk.consI rfl rfl rfl (.one rfl) rfl (fun hw3 => (GOk.fr (fr':=[(18,(.bref 4 0))]) ⟨DLe.of_eq (cT hw3).symm,trivial⟩ (VOk.g (VOk.loadB (d:=(.v (.int .i64 a1.Kind))) rfl Try.underlying3 rfl rfl rfl rfl)))) ?_
  refine OpsOk.consI rfl rfl rfl (.one rfl) rfl (fun hw3 => (GOk.fr (fr':=[(19,(.v (.int .i64 a1.Kind)))]) ⟨DLe.of_eq (cT hw3).symm,trivial⟩ (VOk.g (VOk.arith (op:=.neq) (k:=.i64) (a:=a1.Kind) (b:=1) rfl rfl rfl rfl)))) ?_
  refine .cv (VOk.to (VOk.pickI (b:=(!t1)) (p:=true) (q:=(a1.Kind != 1)) rfl rfl (fun hp4 => rfl) (fun hp4 => (cT (f_beq hp4)))) (pickOr (!t1) (a1.Kind != 1))) rfl rfl ?_
  exact .dn
 refine Ok.test (b:=((!t1) || (a1.Kind != 1))) rfl (fun hb24 => ?_) (fun hb24 => ?_)
 ·replace H:=ifT H hb24
  refine Ok.seq ?_
  refine Ok.region (σ':=⟨[(6,(.bref 6 0)),(7,(.v (.bool false))),(8,(.v (.int .i64 33)))],[(6,(.box .ex (c_api_Node (T_api_Node.mk 0 (T_api_Name.mk ([]:Str) ([]:Str)) ([]:List T_api_Attr) ([]:List T_api_Node) ([]:Str)))))]⟩) ?_ ?_
  ·refine .cv (VOk.to (d':=(.agg (e_api_Node (T_api_Node.mk 0 (T_api_Name.mk ([]:Str) ([]:Str)) ([]:List T_api_Attr) ([]:List T_api_Node) ([]:Str))))) (.build [none,none,none,some 3,some 6,none] [(0,1),(1,2),(3,1),(4,1),(5,1)] rfl Try.underlying27 (fa27 Try.underlying27) zo27 rfl rfl) (congrArg D.agg (e_api_Node_c (T_api_Node.mk 0 (T_api_Name.mk ([]:Str) ([]:Str)) ([]:List T_api_Attr) ([]:List T_api_Node) ([]:Str))).symm)) rfl rfl ?_
   refine OpsOk.cut1 22 (.agg [(.v (.int .i64 ((T_api_Node.mk 0 (T_api_Name.mk ([]:Str) ([]:Str)) ([]:List T_api_Attr) ([]:List T_api_Node) ([]:Str)).Kind))),(S ((T_api_Node.mk 0 (T_api_Name.mk ([]:Str) ([]:Str)) ([]:List T_api_Attr) ([]:List T_api_Node) ([]:Str)).Name.Space)),(S ((T_api_Node.mk 0 (T_api_Name.mk ([]:Str) ([]:Str)) ([]:List T_api_Attr) ([]:List T_api_Node) ([]:Str)).Name.Local)),(L 3 e_api_Attr ((T_api_Node.mk 0 (T_api_Name.mk ([]:Str) ([]:Str)) ([]:List T_api_Attr) ([]:List T_api_Node) ([]:Str)).Attrs)),(L 6 e_api_Node ((T_api_Node.mk 0 (T_api_Name.mk ([]:Str) ([]:Str)) ([]:List T_api_Attr) ([]:List T_api_Node) ([]:Str)).Kids)),(S ((T_api_Node.mk 0 (T_api_Name.mk ([]:Str) ([]:Str)) ([]:List T_api_Attr) ([]:List T_api_Node) ([]:Str)).Text))]) (DLe.of_eq (congrArg D.agg (e_api_Node_c _).symm)) ?_
   refine .rn 3 ?_
   exact .dn
  refine Ok.ret ?_
  obtain rfl:=Option.some.inj H
  exact⟨.inl rfl,⟨_,(.cons (.cell (VOk.to (d':=(.agg (e_api_Node (T_api_Node.mk 0 (T_api_Name.mk ([]:Str) ([]:Str)) ([]:List T_api_Attr) ([]:List T_api_Node) ([]:Str))))) (.loadBAgg rfl Try.underlying27 rfl sz27 rfl rfl rfl) (congrArg D.agg (e_api_Node_c (T_api_Node.mk 0 (T_api_Name.mk ([]:Str) ([]:Str)) ([]:List T_api_Attr) ([]:List T_api_Node) ([]:Str))).symm))) (.cons (.tmp rfl) (.cons (.tmp rfl) .nil))),rfl⟩,trivial⟩
 ·replace H:=ifF H hb24
  refine Ok.skip ?_
  refine Ok.seq ?_
  refine .rg [(2,(L 9 e_api_Step a2)),(3,(.bref 3 0)),(4,(.bref 4 0)),(6,(.bref 6 0)),(9,(.bref 9 0))] [(3,(bxN a0)),(4,(bxN a1)),(6,bx0),(9,bx0)] ?_
  refine Ok.seq ?_
  obtain⟨t5,h6,H⟩:=bindE H
  refine Ok.region (σ':=⟨[(2,(L 9 e_api_Step a2)),(3,(.bref 3 0)),(4,(.bref 4 0)),(6,(.bref 6 0)),(9,(.bref 9 0)),(10,(L 1 (eI .i64) t5.1)),(11,(.v (.int .i64 t5.2)))],[(3,(bxN a0)),(4,(bxN a1)),(6,bx0),(9,bx0)]⟩) ?_ ?_
  ·refine .cv (VOk.to (d':=(.agg (e_api_Node a0))) (.loadBAgg rfl Try.underlying27 rfl sz27 rfl rfl rfl) (congrArg D.agg (e_api_Node_c a0).symm)) rfl rfl ?_
   refine .rn 1 ?_
   refine .cg (GOk.call rfl rfl cl9 rfl (match_Select.ok h6) rfl) rfl rfl ?_
   refine .rn 5 ?_
   exact .dn
  refine Ok.seq ?_
  refine .rg [(2,(L 9 e_api_Step a2)),(3,(.bref 3 0)),(4,(.bref 4 0)),(6,(.bref 6 0)),(9,(.bref 9 0)),(10,(L 1 (eI .i64) t5.1)),(11,(.v (.int .i64 t5.2))),(12,(.v (.bool (t5.2 == 5))))] [(3,(bxN a0)),(4,(bxN a1)),(6,bx0),(9,bx0)] ?_
  refine Ok.meet (fun σ => ∃ (x10_7:List Int) (y9_0_8:Int) (y9_1_9:Str) (y9_2_10:Str) (y9_3_11:List T_api_Attr) (y9_4_12:List T_api_Node) (y9_5_13:Str),σ=⟨[(2,(L 9 e_api_Step a2)),(6,(.bref 6 0)),(9,(.bref 9 0)),(10,(L 1 (eI .i64) x10_7)),(12,(.v (.bool (t5.2 == 5))))],[(6,bx0),(9,(.box .ex [(.v (.int .i64 y9_0_8)),(S y9_1_9),(S y9_2_10),(L 3 e_api_Attr y9_3_11),(L 6 e_api_Node y9_4_12),(S y9_5_13)]))]⟩ ∧ change_PutElement.j0 k a2 t5 x10_7 y9_0_8 y9_1_9 y9_2_10 y9_3_11 y9_4_12 y9_5_13=some r) ?_ ?_
  ·refine Ok.seq ?_
   refine .rg [(2,(L 9 e_api_Step a2)),(3,(.bref 3 0)),(4,(.bref 4 0)),(6,(.bref 6 0)),(9,(.bref 9 0)),(10,(L 1 (eI .i64) t5.1)),(11,(.v (.int .i64 t5.2))),(12,(.v (.bool (t5.2 == 5)))),(31,(.v (.int .i64 t5.2)))] [(3,(bxN a0)),(4,(bxN a1)),(6,bx0),(9,bx0)] ?_
   refine Ok.block ?_
   refine Ok.seq ?_
   refine .rg [(2,(L 9 e_api_Step a2)),(3,(.bref 3 0)),(4,(.bref 4 0)),(6,(.bref 6 0)),(9,(.bref 9 0)),(10,(L 1 (eI .i64) t5.1)),(11,(.v (.int .i64 t5.2))),(12,(.v (.bool (t5.2 == 5)))),(31,(.v (.int .i64 t5.2))),(39,(.v (.bool (t5.2 == 35))))] [(3,(bxN a0)),(4,(bxN a1)),(6,bx0),(9,bx0)] ?_
   refine Ok.test (b:=(t5.2 == 35)) rfl (fun hb23 => ?_) (fun hb23 => ?_)
   ·replace H:=ifT H hb23
    refine Ok.seq ?_
    refine Ok.region (σ':=⟨[(6,(.bref 6 0)),(7,(.v (.bool false))),(8,(.v (.int .i64 t5.2)))],[(6,(.box .ex (c_api_Node (T_api_Node.mk 0 (T_api_Name.mk ([]:Str) ([]:Str)) ([]:List T_api_Attr) ([]:List T_api_Node) ([]:Str)))))]⟩) ?_ ?_
    ·refine .cv (VOk.to (d':=(.agg (e_api_Node (T_api_Node.mk 0 (T_api_Name.mk ([]:Str) ([]:Str)) ([]:List T_api_Attr) ([]:List T_api_Node) ([]:Str))))) (.build [none,none,none,some 3,some 6,none] [(0,1),(1,2),(3,1),(4,1),(5,1)] rfl Try.underlying27 (fa27 Try.underlying27) zo27 rfl rfl) (congrArg D.agg (e_api_Node_c (T_api_Node.mk 0 (T_api_Name.mk ([]:Str) ([]:Str)) ([]:List T_api_Attr) ([]:List T_api_Node) ([]:Str))).symm)) rfl rfl ?_
     refine .rn 1 ?_
     refine OpsOk.cut1 41 (.agg [(.v (.int .i64 ((T_api_Node.mk 0 (T_api_Name.mk ([]:Str) ([]:Str)) ([]:List T_api_Attr) ([]:List T_api_Node) ([]:Str)).Kind))),(S ((T_api_Node.mk 0 (T_api_Name.mk ([]:Str) ([]:Str)) ([]:List T_api_Attr) ([]:List T_api_Node) ([]:Str)).Name.Space)),(S ((T_api_Node.mk 0 (T_api_Name.mk ([]:Str) ([]:Str)) ([]:List T_api_Attr) ([]:List T_api_Node) ([]:Str)).Name.Local)),(L 3 e_api_Attr ((T_api_Node.mk 0 (T_api_Name.mk ([]:Str) ([]:Str)) ([]:List T_api_Attr) ([]:List T_api_Node) ([]:Str)).Attrs)),(L 6 e_api_Node ((T_api_Node.mk 0 (T_api_Name.mk ([]:Str) ([]:Str)) ([]:List T_api_Attr) ([]:List T_api_Node) ([]:Str)).Kids)),(S ((T_api_Node.mk 0 (T_api_Name.mk ([]:Str) ([]:Str)) ([]:List T_api_Attr) ([]:List T_api_Node) ([]:Str)).Text))]) (DLe.of_eq (congrArg D.agg (e_api_Node_c _).symm)) ?_
     refine .rn 3 ?_
     exact .dn
    refine Ok.ret ?_
    obtain rfl:=Option.some.inj H
    exact⟨.inl rfl,⟨_,(.cons (.cell (VOk.to (d':=(.agg (e_api_Node (T_api_Node.mk 0 (T_api_Name.mk ([]:Str) ([]:Str)) ([]:List T_api_Attr) ([]:List T_api_Node) ([]:Str))))) (.loadBAgg rfl Try.underlying27 rfl sz27 rfl rfl rfl) (congrArg D.agg (e_api_Node_c (T_api_Node.mk 0 (T_api_Name.mk ([]:Str) ([]:Str)) ([]:List T_api_Attr) ([]:List T_api_Node) ([]:Str))).symm))) (.cons (.tmp rfl) (.cons (.tmp rfl) .nil))),rfl⟩,trivial⟩
   ·replace H:=ifF H hb23
    refine Ok.seq ?_
    refine .rg [(2,(L 9 e_api_Step a2)),(3,(.bref 3 0)),(4,(.bref 4 0)),(6,(.bref 6 0)),(9,(.bref 9 0)),(10,(L 1 (eI .i64) t5.1)),(12,(.v (.bool (t5.2 == 5)))),(43,(.v (.bool (t5.2 == 5))))] [(3,(bxN a0)),(4,(bxN a1)),(6,bx0),(9,bx0)] ?_
    refine Ok.test (b:=(t5.2 == 5)) rfl (fun hb22 => ?_) (fun hb22 => ?_)
    ·replace H:=ifT H hb22
     refine Ok.seq ?_
     obtain⟨t17,h18,H⟩:=bindE H
     refine Ok.region (σ':=⟨[(2,(L 9 e_api_Step a2)),(6,(.bref 6 0)),(9,(.bref 9 0)),(10,(L 1 (eI .i64) t17.2.1)),(11,(.v (.int .i64 t17.2.2))),(12,(.v (.bool (t5.2 == 5))))],[(6,bx0),(9,(.box .ex (c_api_Node t17.1)))]⟩) ?_ ?_
     ·refine .cv (VOk.to (d':=(.agg (e_api_Node a0))) (.loadBAgg rfl Try.underlying27 rfl sz27 rfl rfl rfl) (congrArg D.agg (e_api_Node_c a0).symm)) rfl rfl ?_
      refine .cv (VOk.to (d':=(.agg (e_api_Node a1))) (.loadBAgg rfl Try.underlying27 rfl sz27 rfl rfl rfl) (congrArg D.agg (e_api_Node_c a1).symm)) rfl rfl ?_
      refine .rn 1 ?_
      refine .cg (GOk.call rfl rfl cl21 rfl (change_insert.ok h18) rfl) rfl rfl ?_
      refine .rn 4 ?_
      refine OpsOk.cut1 50 (.agg [(.v (.int .i64 t17.1.Kind)),(S t17.1.Name.Space),(S t17.1.Name.Local),(L 3 e_api_Attr t17.1.Attrs),(L 6 e_api_Node t17.1.Kids),(S t17.1.Text)]) (DLe.of_eq (congrArg D.agg (e_api_Node_c _).symm)) ?_
      refine .rn 3 ?_
      exact .dn
     refine Ok.seq ?_
     refine .rg [(2,(L 9 e_api_Step a2)),(6,(.bref 6 0)),(9,(.bref 9 0)),(10,(L 1 (eI .i64) t17.2.1)),(11,(.v (.int .i64 t17.2.2))),(12,(.v (.bool (t5.2 == 5)))),(54,(.v (.bool (t17.2.2 != 0))))] [(6,bx0),(9,(.box .ex (c_api_Node t17.1)))] ?_
     refine Ok.test (b:=(t17.2.2 != 0)) rfl (fun hb19 => ?_) (fun hb19 => ?_)
     ·replace H:=ifT H hb19
      refine Ok.seq ?_
      refine Ok.region (σ':=⟨[(6,(.bref 6 0)),(7,(.v (.bool false))),(8,(.v (.int .i64 t17.2.2)))],[(6,(.box .ex (c_api_Node (T_api_Node.mk 0 (T_api_Name.mk ([]:Str) ([]:Str)) ([]:List T_api_Attr) ([]:List T_api_Node) ([]:Str)))))]⟩) ?_ ?_
      ·refine .cv (VOk.to (d':=(.agg (e_api_Node (T_api_Node.mk 0 (T_api_Name.mk ([]:Str) ([]:Str)) ([]:List T_api_Attr) ([]:List T_api_Node) ([]:Str))))) (.build [none,none,none,some 3,some 6,none] [(0,1),(1,2),(3,1),(4,1),(5,1)] rfl Try.underlying27 (fa27 Try.underlying27) zo27 rfl rfl) (congrArg D.agg (e_api_Node_c (T_api_Node.mk 0 (T_api_Name.mk ([]:Str) ([]:Str)) ([]:List T_api_Attr) ([]:List T_api_Node) ([]:Str))).symm)) rfl rfl ?_
       refine .rn 1 ?_
       refine OpsOk.cut1 55 (.agg [(.v (.int .i64 ((T_api_Node.mk 0 (T_api_Name.mk ([]:Str) ([]:Str)) ([]:List T_api_Attr) ([]:List T_api_Node) ([]:Str)).Kind))),(S ((T_api_Node.mk 0 (T_api_Name.mk ([]:Str) ([]:Str)) ([]:List T_api_Attr) ([]:List T_api_Node) ([]:Str)).Name.Space)),(S ((T_api_Node.mk 0 (T_api_Name.mk ([]:Str) ([]:Str)) ([]:List T_api_Attr) ([]:List T_api_Node) ([]:Str)).Name.Local)),(L 3 e_api_Attr ((T_api_Node.mk 0 (T_api_Name.mk ([]:Str) ([]:Str)) ([]:List T_api_Attr) ([]:List T_api_Node) ([]:Str)).Attrs)),(L 6 e_api_Node ((T_api_Node.mk 0 (T_api_Name.mk ([]:Str) ([]:Str)) ([]:List T_api_Attr) ([]:List T_api_Node) ([]:Str)).Kids)),(S ((T_api_Node.mk 0 (T_api_Name.mk ([]:Str) ([]:Str)) ([]:List T_api_Attr) ([]:List T_api_Node) ([]:Str)).Text))]) (DLe.of_eq (congrArg D.agg (e_api_Node_c _).symm)) ?_
       refine .rn 3 ?_
       exact .dn
      refine Ok.ret ?_
      obtain rfl:=Option.some.inj H
      exact⟨.inl rfl,⟨_,(.cons (.cell (VOk.to (d':=(.agg (e_api_Node (T_api_Node.mk 0 (T_api_Name.mk ([]:Str) ([]:Str)) ([]:List T_api_Attr) ([]:List T_api_Node) ([]:Str))))) (.loadBAgg rfl Try.underlying27 rfl sz27 rfl rfl rfl) (congrArg D.agg (e_api_Node_c (T_api_Node.mk 0 (T_api_Name.mk ([]:Str) ([]:Str)) ([]:List T_api_Attr) ([]:List T_api_Node) ([]:Str))).symm))) (.cons (.tmp rfl) (.cons (.tmp rfl) .nil))),rfl⟩,trivial⟩
     ·replace H:=ifF H hb19
      refine Ok.le (σ':=⟨[(2,(L 9 e_api_Step a2)),(6,(.bref 6 0)),(9,(.bref 9 0)),(10,(L 1 (eI .i64) t17.2.1)),(12,(.v (.bool (t5.2 == 5))))],[(6,bx0),(9,(.box .ex (c_api_Node t17.1)))]⟩) (.rf rfl rfl) ?_
      refine Ok.skip ?_
      exact⟨t17.2.1,t17.1.Kind,t17.1.Name.Space,t17.1.Name.Local,t17.1.Attrs,t17.1.Kids,t17.1.Text,rfl,H⟩
    ·replace H:=ifF H hb22
     obtain⟨t20,h21,H⟩:=bindE H
     refine Ok.region (σ':=⟨[(2,(L 9 e_api_Step a2)),(6,(.bref 6 0)),(9,(.bref 9 0)),(10,(L 1 (eI .i64) t5.1)),(12,(.v (.bool (t5.2 == 5))))],[(6,bx0),(9,(.box .ex (c_api_Node t20.1)))]⟩) ?_ ?_
     ·refine .cv (VOk.to (d':=(.agg (e_api_Node a0))) (.loadBAgg rfl Try.underlying27 rfl sz27 rfl rfl rfl) (congrArg D.agg (e_api_Node_c a0).symm)) rfl rfl ?_
      refine .cv (VOk.to (d':=(.agg (e_api_Node a1))) (.loadBAgg rfl Try.underlying27 rfl sz27 rfl rfl rfl) (congrArg D.agg (e_api_Node_c a1).symm)) rfl rfl ?_
      refine .rn 1 ?_
      refine .cg (GOk.call rfl rfl cl22 rfl (path_Replace.ok h21) rfl) rfl rfl ?_
      refine .rn 3 ?_
      refine OpsOk.cut1 37 (.agg [(.v (.int .i64 t20.1.Kind)),(S t20.1.Name.Space),(S t20.1.Name.Local),(L 3 e_api_Attr t20.1.Attrs),(L 6 e_api_Node t20.1.Kids),(S t20.1.Text)]) (DLe.of_eq (congrArg D.agg (e_api_Node_c _).symm)) ?_
      refine .rn 1 ?_
      exact .dn
     exact⟨t5.1,t20.1.Kind,t20.1.Name.Space,t20.1.Name.Local,t20.1.Attrs,t20.1.Kids,t20.1.Text,rfl,H⟩
  ·rintro σ ⟨x10_7,y9_0_8,y9_1_9,y9_2_10,y9_3_11,y9_4_12,y9_5_13,rfl,H⟩
   unfold change_PutElement.j0 at H
   refine Ok.seq ?_
   refine Ok.seq ?_
   obtain⟨t14,h15,H⟩:=bindE H
   refine Ok.region (σ':=⟨[(6,(.bref 6 0)),(9,(.bref 9 0)),(12,(.v (.bool (t5.2 == 5)))),(13,(.v (.int .i64 t14)))],[(6,bx0),(9,(.box .ex [(.v (.int .i64 y9_0_8)),(S y9_1_9),(S y9_2_10),(L 3 e_api_Attr y9_3_11),(L 6 e_api_Node y9_4_12),(S y9_5_13)]))]⟩) ?_ ?_
   ·refine .cv (VOk.to (d':=(.agg (e_api_Node (T_api_Node.mk y9_0_8 (T_api_Name.mk y9_1_9 y9_2_10) y9_3_11 y9_4_12 y9_5_13)))) (.loadBAgg rfl Try.underlying27 rfl sz27 rfl rfl rfl) (congrArg D.agg (e_api_Node_c (T_api_Node.mk y9_0_8 (T_api_Name.mk y9_1_9 y9_2_10) y9_3_11 y9_4_12 y9_5_13)).symm)) rfl rfl ?_
    refine .rn 2 ?_
    refine .cg (GOk.call rfl rfl cl23 rfl (change_checked.ok h15) rfl) rfl rfl ?_
    refine .rn 1 ?_
    exact .dn
   refine Ok.seq ?_
   refine .rg [(6,(.bref 6 0)),(9,(.bref 9 0)),(12,(.v (.bool (t5.2 == 5)))),(13,(.v (.int .i64 t14))),(62,(.v (.bool (t14 != 0))))] [(6,bx0),(9,(.box .ex [(.v (.int .i64 y9_0_8)),(S y9_1_9),(S y9_2_10),(L 3 e_api_Attr y9_3_11),(L 6 e_api_Node y9_4_12),(S y9_5_13)]))] ?_
   refine Ok.test (b:=(t14 != 0)) rfl (fun hb16 => ?_) (fun hb16 => ?_)
   ·replace H:=ifT H hb16
    refine Ok.seq ?_
    refine Ok.region (σ':=⟨[(6,(.bref 6 0)),(7,(.v (.bool false))),(8,(.v (.int .i64 t14)))],[(6,(.box .ex (c_api_Node (T_api_Node.mk 0 (T_api_Name.mk ([]:Str) ([]:Str)) ([]:List T_api_Attr) ([]:List T_api_Node) ([]:Str)))))]⟩) ?_ ?_
    ·refine .cv (VOk.to (d':=(.agg (e_api_Node (T_api_Node.mk 0 (T_api_Name.mk ([]:Str) ([]:Str)) ([]:List T_api_Attr) ([]:List T_api_Node) ([]:Str))))) (.build [none,none,none,some 3,some 6,none] [(0,1),(1,2),(3,1),(4,1),(5,1)] rfl Try.underlying27 (fa27 Try.underlying27) zo27 rfl rfl) (congrArg D.agg (e_api_Node_c (T_api_Node.mk 0 (T_api_Name.mk ([]:Str) ([]:Str)) ([]:List T_api_Attr) ([]:List T_api_Node) ([]:Str))).symm)) rfl rfl ?_
     refine .rn 1 ?_
     refine OpsOk.cut1 63 (.agg [(.v (.int .i64 ((T_api_Node.mk 0 (T_api_Name.mk ([]:Str) ([]:Str)) ([]:List T_api_Attr) ([]:List T_api_Node) ([]:Str)).Kind))),(S ((T_api_Node.mk 0 (T_api_Name.mk ([]:Str) ([]:Str)) ([]:List T_api_Attr) ([]:List T_api_Node) ([]:Str)).Name.Space)),(S ((T_api_Node.mk 0 (T_api_Name.mk ([]:Str) ([]:Str)) ([]:List T_api_Attr) ([]:List T_api_Node) ([]:Str)).Name.Local)),(L 3 e_api_Attr ((T_api_Node.mk 0 (T_api_Name.mk ([]:Str) ([]:Str)) ([]:List T_api_Attr) ([]:List T_api_Node) ([]:Str)).Attrs)),(L 6 e_api_Node ((T_api_Node.mk 0 (T_api_Name.mk ([]:Str) ([]:Str)) ([]:List T_api_Attr) ([]:List T_api_Node) ([]:Str)).Kids)),(S ((T_api_Node.mk 0 (T_api_Name.mk ([]:Str) ([]:Str)) ([]:List T_api_Attr) ([]:List T_api_Node) ([]:Str)).Text))]) (DLe.of_eq (congrArg D.agg (e_api_Node_c _).symm)) ?_
     refine .rn 3 ?_
     exact .dn
    refine Ok.ret ?_
    obtain rfl:=Option.some.inj H
    exact⟨.inl rfl,⟨_,(.cons (.cell (VOk.to (d':=(.agg (e_api_Node (T_api_Node.mk 0 (T_api_Name.mk ([]:Str) ([]:Str)) ([]:List T_api_Attr) ([]:List T_api_Node) ([]:Str))))) (.loadBAgg rfl Try.underlying27 rfl sz27 rfl rfl rfl) (congrArg D.agg (e_api_Node_c (T_api_Node.mk 0 (T_api_Name.mk ([]:Str) ([]:Str)) ([]:List T_api_Attr) ([]:List T_api_Node) ([]:Str))).symm))) (.cons (.tmp rfl) (.cons (.tmp rfl) .nil))),rfl⟩,trivial⟩
   ·replace H:=ifF H hb16
    refine Ok.skip ?_
    refine Ok.seq ?_
    refine Ok.region (σ':=⟨[(6,(.bref 6 0)),(7,(.v (.bool (t5.2 == 5)))),(8,(.v (.int .i64 0)))],[(6,(.box .ex (c_api_Node (T_api_Node.mk y9_0_8 (T_api_Name.mk y9_1_9 y9_2_10) y9_3_11 y9_4_12 y9_5_13))))]⟩) ?_ ?_
    ·refine .cv (VOk.to (d':=(.agg (e_api_Node (T_api_Node.mk y9_0_8 (T_api_Name.mk y9_1_9 y9_2_10) y9_3_11 y9_4_12 y9_5_13)))) (.loadBAgg rfl Try.underlying27 rfl sz27 rfl rfl rfl) (congrArg D.agg (e_api_Node_c (T_api_Node.mk y9_0_8 (T_api_Name.mk y9_1_9 y9_2_10) y9_3_11 y9_4_12 y9_5_13)).symm)) rfl rfl ?_
     refine .rn 1 ?_
     refine OpsOk.cut1 65 (.agg [(.v (.int .i64 ((T_api_Node.mk y9_0_8 (T_api_Name.mk y9_1_9 y9_2_10) y9_3_11 y9_4_12 y9_5_13).Kind))),(S ((T_api_Node.mk y9_0_8 (T_api_Name.mk y9_1_9 y9_2_10) y9_3_11 y9_4_12 y9_5_13).Name.Space)),(S ((T_api_Node.mk y9_0_8 (T_api_Name.mk y9_1_9 y9_2_10) y9_3_11 y9_4_12 y9_5_13).Name.Local)),(L 3 e_api_Attr ((T_api_Node.mk y9_0_8 (T_api_Name.mk y9_1_9 y9_2_10) y9_3_11 y9_4_12 y9_5_13).Attrs)),(L 6 e_api_Node ((T_api_Node.mk y9_0_8 (T_api_Name.mk y9_1_9 y9_2_10) y9_3_11 y9_4_12 y9_5_13).Kids)),(S ((T_api_Node.mk y9_0_8 (T_api_Name.mk y9_1_9 y9_2_10) y9_3_11 y9_4_12 y9_5_13).Text))]) (DLe.of_eq (congrArg D.agg (e_api_Node_c _).symm)) ?_
     refine .rn 3 ?_
     exact .dn
    refine Ok.ret ?_
    obtain rfl:=Option.some.inj H
    exact⟨.inl rfl,⟨_,(.cons (.cell (VOk.to (d':=(.agg (e_api_Node (T_api_Node.mk y9_0_8 (T_api_Name.mk y9_1_9 y9_2_10) y9_3_11 y9_4_12 y9_5_13)))) (.loadBAgg rfl Try.underlying27 rfl sz27 rfl rfl rfl) (congrArg D.agg (e_api_Node_c (T_api_Node.mk y9_0_8 (T_api_Name.mk y9_1_9 y9_2_10) y9_3_11 y9_4_12 y9_5_13)).symm))) (.cons (.tmp rfl) (.cons (.tmp rfl) .nil))),rfl⟩,trivial⟩
def change_Delete.j0 (k:Nat) (a1:List T_api_Step) (y8_0_9:Int) (y8_1_10:Str) (y8_2_11:Str) (y8_3_12:List T_api_Attr) (y8_4_13:List T_api_Node) (y8_5_14:Str):Option (T_api_Node × Int):=((match_Select k (T_api_Node.mk y8_0_9 (T_api_Name.mk y8_1_10 y8_2_11) y8_3_12 y8_4_13 y8_5_14) a1).bind fun (t15:(List Int) × Int) => (if (t15.2 != 5)=true then some ((T_api_Node.mk 0 (T_api_Name.mk ([]:Str) ([]:Str)) ([]:List T_api_Attr) ([]:List T_api_Node) ([]:Str)),50) else some ((T_api_Node.mk y8_0_9 (T_api_Name.mk y8_1_10 y8_2_11) y8_3_12 y8_4_13 y8_5_14),0)))
def change_Delete (k:Nat) (a0:T_api_Node) (a1:List T_api_Step):Option (T_api_Node × Int):=((change_names k a1).bind fun (t1:Bool) => (((if ((!t1) == true)=true then change_attr k a1 else some default)).bind fun (t4:Bool) => (if ((!t1) && (!t4))=true then some ((T_api_Node.mk 0 (T_api_Name.mk ([]:Str) ([]:Str)) ([]:List T_api_Attr) ([]:List T_api_Node) ([]:Str)),33) else ((match_Select k a0 a1).bind fun (t7:(List Int) × Int) => (if (t7.2 != 0)=true then some ((T_api_Node.mk 0 (T_api_Name.mk ([]:Str) ([]:Str)) ([]:List T_api_Attr) ([]:List T_api_Node) ([]:Str)),t7.2) else ((change_attr k a1).bind fun (t18:Bool) => (if t18=true then (if (0:Int) ≤ (IntKind.i64.wrap ((a1.length:Int) - 1)) ∧ (IntKind.i64.wrap ((a1.length:Int) - 1)) < (a1.length:Int) then ((path_DropAttr k a0 ((rd a1 (IntKind.i64.wrap ((a1.length:Int) - 1))).Name) t7.1).bind fun (t21:T_api_Node × Bool) => change_Delete.j0 k a1 t21.1.Kind t21.1.Name.Space t21.1.Name.Local t21.1.Attrs t21.1.Kids t21.1.Text) else none) else ((path_Remove k a0 t7.1).bind fun (t23:T_api_Node × Bool) => (if (!t23.2)=true then some ((T_api_Node.mk 0 (T_api_Name.mk ([]:Str) ([]:Str)) ([]:List T_api_Attr) ([]:List T_api_Node) ([]:Str)),50) else change_Delete.j0 k a1 t23.1.Kind t23.1.Name.Space t23.1.Name.Local t23.1.Attrs t23.1.Kids t23.1.Text)))))))))
theorem change_Delete.ok {k:Nat} {a0:T_api_Node} {a1:List T_api_Step} {r:T_api_Node × Int} (H:change_Delete k a0 a1=some r):Vx.Fn Try.prog 15 [(.agg (e_api_Node a0)),(L 9 e_api_Step a1)] [] (.tup [(.agg (e_api_Node r.1)),(.v (.int .i64 r.2))]) []:=by
 unfold change_Delete at H
 refine Vx.Fn.of_okR Try.func15 rfl (Nat.le_of_ble_eq_true rfl) ?_
 refine Ok.seq ?_
 refine Ok.region (σ':=⟨[(1,(L 9 e_api_Step a1)),(2,(.bref 2 0)),(4,(.bref 4 0))],[(2,(bxN a0)),(4,bx0)]⟩) ?_ ?_
 ·refine OpsOk.cut1 0 (.agg (c_api_Node a0)) (DLe.of_eq (congrArg D.agg (e_api_Node_c _).symm)) ?_
  refine .rn 3 ?_
  exact .dn
 refine Ok.seq ?_
 refine Ok.seq ?_
 obtain⟨t1,h2,H⟩:=bindE H
 obtain⟨t4,h5,H⟩:=bindE H
 refine Ok.region (σ':=⟨[(1,(L 9 e_api_Step a1)),(2,(.bref 2 0)),(4,(.bref 4 0)),(19,(.v (.bool ((!t1) && (!t4)))))],[(2,(bxN a0)),(4,bx0)]⟩) ?_ ?_
 ·refine .rn 1 ?_
  refine .cg (GOk.call rfl rfl cl20 rfl (change_names.ok h2) rfl) rfl rfl ?_
  refine .rn 2 ?_
  refine OpsOk.consI rfl rfl rfl (.one rfl) rfl (fun hw3 => (VOk.g (VOk.mv (d:=(L 9 e_api_Step a1)) rfl rfl))) ?_
  refine OpsOk.consI rfl rfl rfl (.one rfl) rfl (fun hw3 => (GOk.fr (fr':=[(16,(L 9 e_api_Step a1))]) ⟨DLe.of_eq (cT hw3).symm,trivial⟩ (GOk.call rfl rfl cl32 rfl (change_attr.ok (ifT h5 hw3)) rfl))) ?_
  refine OpsOk.consI rfl rfl rfl (.one rfl) rfl (fun hw3 => (GOk.fr (fr':=[(17,(.v (.bool t4)))]) ⟨DLe.of_eq (cT hw3).symm,trivial⟩ (VOk.g (VOk.not (b:=t4) rfl rfl)))) ?_
  refine .cv (VOk.to (VOk.pickI (b:=(!t1)) (p:=(!t4)) (q:=false) rfl rfl (fun hp6 => (cT (t_beq hp6))) (fun hp6 => rfl)) (pickAnd (!t1) (!t4))) rfl rfl ?_
  exact .dn
 refine Ok.test (b:=((!t1) && (!t4))) rfl (fun hb28 => ?_) (fun hb28 => ?_)
 ·replace H:=ifT H hb28
  refine Ok.seq ?_
  refine Ok.region (σ':=⟨[(4,(.bref 4 0)),(5,(.v (.int .i64 33)))],[(4,(.box .ex (c_api_Node (T_api_Node.mk 0 (T_api_Name.mk ([]:Str) ([]:Str)) ([]:List T_api_Attr) ([]:List T_api_Node) ([]:Str)))))]⟩) ?_ ?_
  ·refine .cv (VOk.to (d':=(.agg (e_api_Node (T_api_Node.mk 0 (T_api_Name.mk ([]:Str) ([]:Str)) ([]:List T_api_Attr) ([]:List T_api_Node) ([]:Str))))) (.build [none,none,none,some 3,some 6,none] [(0,1),(1,2),(3,1),(4,1),(5,1)] rfl Try.underlying27 (fa27 Try.underlying27) zo27 rfl rfl) (congrArg D.agg (e_api_Node_c (T_api_Node.mk 0 (T_api_Name.mk ([]:Str) ([]:Str)) ([]:List T_api_Attr) ([]:List T_api_Node) ([]:Str))).symm)) rfl rfl ?_
   refine OpsOk.cut1 20 (.agg [(.v (.int .i64 ((T_api_Node.mk 0 (T_api_Name.mk ([]:Str) ([]:Str)) ([]:List T_api_Attr) ([]:List T_api_Node) ([]:Str)).Kind))),(S ((T_api_Node.mk 0 (T_api_Name.mk ([]:Str) ([]:Str)) ([]:List T_api_Attr) ([]:List T_api_Node) ([]:Str)).Name.Space)),(S ((T_api_Node.mk 0 (T_api_Name.mk ([]:Str) ([]:Str)) ([]:List T_api_Attr) ([]:List T_api_Node) ([]:Str)).Name.Local)),(L 3 e_api_Attr ((T_api_Node.mk 0 (T_api_Name.mk ([]:Str) ([]:Str)) ([]:List T_api_Attr) ([]:List T_api_Node) ([]:Str)).Attrs)),(L 6 e_api_Node ((T_api_Node.mk 0 (T_api_Name.mk ([]:Str) ([]:Str)) ([]:List T_api_Attr) ([]:List T_api_Node) ([]:Str)).Kids)),(S ((T_api_Node.mk 0 (T_api_Name.mk ([]:Str) ([]:Str)) ([]:List T_api_Attr) ([]:List T_api_Node) ([]:Str)).Text))]) (DLe.of_eq (congrArg D.agg (e_api_Node_c _).symm)) ?_
   refine .rn 2 ?_
   exact .dn
  refine Ok.ret ?_
  obtain rfl:=Option.some.inj H
  exact⟨.inl rfl,⟨_,(.cons (.cell (VOk.to (d':=(.agg (e_api_Node (T_api_Node.mk 0 (T_api_Name.mk ([]:Str) ([]:Str)) ([]:List T_api_Attr) ([]:List T_api_Node) ([]:Str))))) (.loadBAgg rfl Try.underlying27 rfl sz27 rfl rfl rfl) (congrArg D.agg (e_api_Node_c (T_api_Node.mk 0 (T_api_Name.mk ([]:Str) ([]:Str)) ([]:List T_api_Attr) ([]:List T_api_Node) ([]:Str))).symm))) (.cons (.tmp rfl) .nil)),rfl⟩,trivial⟩
 ·replace H:=ifF H hb28
  refine Ok.skip ?_
  refine Ok.seq ?_
  obtain⟨t7,h8,H⟩:=bindE H
  refine Ok.region (σ':=⟨[(1,(L 9 e_api_Step a1)),(2,(.bref 2 0)),(4,(.bref 4 0)),(6,(L 1 (eI .i64) t7.1)),(7,(.v (.int .i64 t7.2)))],[(2,(bxN a0)),(4,bx0)]⟩) ?_ ?_
  ·refine .cv (VOk.to (d':=(.agg (e_api_Node a0))) (.loadBAgg rfl Try.underlying27 rfl sz27 rfl rfl rfl) (congrArg D.agg (e_api_Node_c a0).symm)) rfl rfl ?_
   refine .rn 1 ?_
   refine .cg (GOk.call rfl rfl cl9 rfl (match_Select.ok h8) rfl) rfl rfl ?_
   refine .rn 5 ?_
   exact .dn
  refine Ok.seq ?_
  refine Ok.seq ?_
  refine .rg [(1,(L 9 e_api_Step a1)),(2,(.bref 2 0)),(4,(.bref 4 0)),(6,(L 1 (eI .i64) t7.1)),(7,(.v (.int .i64 t7.2))),(28,(.v (.bool (t7.2 != 0))))] [(2,(bxN a0)),(4,bx0)] ?_
  refine Ok.test (b:=(t7.2 != 0)) rfl (fun hb27 => ?_) (fun hb27 => ?_)
  ·replace H:=ifT H hb27
   refine Ok.seq ?_
   refine Ok.region (σ':=⟨[(4,(.bref 4 0)),(5,(.v (.int .i64 t7.2)))],[(4,(.box .ex (c_api_Node (T_api_Node.mk 0 (T_api_Name.mk ([]:Str) ([]:Str)) ([]:List T_api_Attr) ([]:List T_api_Node) ([]:Str)))))]⟩) ?_ ?_
   ·refine .cv (VOk.to (d':=(.agg (e_api_Node (T_api_Node.mk 0 (T_api_Name.mk ([]:Str) ([]:Str)) ([]:List T_api_Attr) ([]:List T_api_Node) ([]:Str))))) (.build [none,none,none,some 3,some 6,none] [(0,1),(1,2),(3,1),(4,1),(5,1)] rfl Try.underlying27 (fa27 Try.underlying27) zo27 rfl rfl) (congrArg D.agg (e_api_Node_c (T_api_Node.mk 0 (T_api_Name.mk ([]:Str) ([]:Str)) ([]:List T_api_Attr) ([]:List T_api_Node) ([]:Str))).symm)) rfl rfl ?_
    refine .rn 1 ?_
    refine OpsOk.cut1 29 (.agg [(.v (.int .i64 ((T_api_Node.mk 0 (T_api_Name.mk ([]:Str) ([]:Str)) ([]:List T_api_Attr) ([]:List T_api_Node) ([]:Str)).Kind))),(S ((T_api_Node.mk 0 (T_api_Name.mk ([]:Str) ([]:Str)) ([]:List T_api_Attr) ([]:List T_api_Node) ([]:Str)).Name.Space)),(S ((T_api_Node.mk 0 (T_api_Name.mk ([]:Str) ([]:Str)) ([]:List T_api_Attr) ([]:List T_api_Node) ([]:Str)).Name.Local)),(L 3 e_api_Attr ((T_api_Node.mk 0 (T_api_Name.mk ([]:Str) ([]:Str)) ([]:List T_api_Attr) ([]:List T_api_Node) ([]:Str)).Attrs)),(L 6 e_api_Node ((T_api_Node.mk 0 (T_api_Name.mk ([]:Str) ([]:Str)) ([]:List T_api_Attr) ([]:List T_api_Node) ([]:Str)).Kids)),(S ((T_api_Node.mk 0 (T_api_Name.mk ([]:Str) ([]:Str)) ([]:List T_api_Attr) ([]:List T_api_Node) ([]:Str)).Text))]) (DLe.of_eq (congrArg D.agg (e_api_Node_c _).symm)) ?_
    refine .rn 2 ?_
    exact .dn
   refine Ok.ret ?_
   obtain rfl:=Option.some.inj H
   exact⟨.inl rfl,⟨_,(.cons (.cell (VOk.to (d':=(.agg (e_api_Node (T_api_Node.mk 0 (T_api_Name.mk ([]:Str) ([]:Str)) ([]:List T_api_Attr) ([]:List T_api_Node) ([]:Str))))) (.loadBAgg rfl Try.underlying27 rfl sz27 rfl rfl rfl) (congrArg D.agg (e_api_Node_c (T_api_Node.mk 0 (T_api_Name.mk ([]:Str) ([]:Str)) ([]:List T_api_Attr) ([]:List T_api_Node) ([]:Str))).symm))) (.cons (.tmp rfl) .nil)),rfl⟩,trivial⟩
  ·replace H:=ifF H hb27
   refine Ok.skip ?_
   refine Ok.seq ?_
   refine .rg [(1,(L 9 e_api_Step a1)),(2,(.bref 2 0)),(4,(.bref 4 0)),(6,(L 1 (eI .i64) t7.1)),(8,(.bref 8 0))] [(2,(bxN a0)),(4,bx0),(8,bx0)] ?_
   refine Ok.meet (fun σ => ∃ (y8_0_9:Int) (y8_1_10:Str) (y8_2_11:Str) (y8_3_12:List T_api_Attr) (y8_4_13:List T_api_Node) (y8_5_14:Str),σ=⟨[(1,(L 9 e_api_Step a1)),(4,(.bref 4 0)),(8,(.bref 8 0))],[(4,bx0),(8,(.box .ex [(.v (.int .i64 y8_0_9)),(S y8_1_10),(S y8_2_11),(L 3 e_api_Attr y8_3_12),(L 6 e_api_Node y8_4_13),(S y8_5_14)]))]⟩ ∧ change_Delete.j0 k a1 y8_0_9 y8_1_10 y8_2_11 y8_3_12 y8_4_13 y8_5_14=some r) ?_ ?_
   ·refine Ok.seq ?_
    obtain⟨t18,h19,H⟩:=bindE H
    refine Ok.region (σ':=⟨[(1,(L 9 e_api_Step a1)),(2,(.bref 2 0)),(4,(.bref 4 0)),(6,(L 1 (eI .i64) t7.1)),(8,(.bref 8 0)),(32,(.v (.bool t18)))],[(2,(bxN a0)),(4,bx0),(8,bx0)]⟩) ?_ ?_
    ·refine .rn 1 ?_
     refine .cg (GOk.call rfl rfl cl32 rfl (change_attr.ok h19) rfl) rfl rfl ?_
     exact .dn
    refine Ok.test (b:=t18) rfl (fun hb26 => ?_) (fun hb26 => ?_)
    ·replace H:=ifT H hb26
     obtain⟨c20,H⟩:=assertE H
     obtain⟨t21,h22,H⟩:=bindE H
     refine Ok.le (σ':=⟨[(1,(L 9 e_api_Step a1)),(2,(.bref 2 0)),(4,(.bref 4 0)),(6,(L 1 (eI .i64) t7.1)),(8,(.bref 8 0))],[(2,(bxN a0)),(4,bx0),(8,bx0)]⟩) (.rf rfl rfl) ?_
     refine .dU [(1,(L 9 e_api_Step a1)),(4,(.bref 4 0)),(8,(.bref 8 0))] [(4,bx0),(8,(.box .ex (c_api_Node t21.1)))] [[],[],[],[2],[3],[1,4],[5],[6],[],[0,7,8],[9],[10],[10],[11]] mixed ?_ ?_
     ·refine .uc ⟨true,[(2,(.bref 2 0))],[(2,(bxN a0))],(.agg (e_api_Node a0)),[],false,[]⟩ ⟨.same _,trivial⟩ ⟨rfl,trivial⟩ (It2.val rfl rfl (fun T hT => (VOk.g (VOk.to (d':=(.agg (e_api_Node a0))) (.loadBAgg rfl Try.underlying27 rfl sz27 rfl hT.1 rfl) (congrArg D.agg (e_api_Node_c a0).symm))))) ?_
      refine .un 2 ?_
      refine .uc ⟨true,[(36,(L 9 e_api_Step a1))],[],(.v (.int .i64 (a1.length:Int))),[],false,[]⟩ ⟨.same _,trivial⟩ trivial (It2.val rfl rfl (fun T hT => (VOk.g (VOk.lenL (e:=e_api_Step) (xs:=a1) rfl Try.underlying28 rfl)))) ?_
      refine .un 1 ?_
      refine .uc ⟨true,[(35,(L 9 e_api_Step a1)),(38,(.v (.int .i64 (IntKind.i64.wrap ((a1.length:Int) - 1)))))],[],(.fp (e_api_Step (rd a1 (IntKind.i64.wrap ((a1.length:Int) - 1)))) 0),[],false,[]⟩ ⟨.same _,.same _,trivial⟩ trivial (It2.val rfl rfl (fun T hT => (VOk.g (VOk.indexL (sz:=9) (e:=e_api_Step) (xs:=a1) (i:=(IntKind.i64.wrap ((a1.length:Int) - 1))) rfl Try.underlying28 sz45 rfl rfl c20)))) ?_
      refine .un 3 ?_
      refine .uc ⟨true,[(34,(.agg (e_api_Node a0))),(41,(.agg (e_api_Name ((rd a1 (IntKind.i64.wrap ((a1.length:Int) - 1))).Name)))),(42,(L 1 (eI .i64) t7.1))],[],(.tup [(.agg (e_api_Node t21.1)),(.v (.bool t21.2))]),[],false,[]⟩ ⟨.same _,.same _,.same _,trivial⟩ trivial (It2.val rfl rfl (fun T hT => (GOk.call rfl rfl cl34 rfl (path_DropAttr.ok h22) rfl))) ?_
      refine .un 3 ?_
      refine .uc ⟨true,[(8,(.bref 8 0)),(44,(.agg [(.v (.int .i64 t21.1.Kind)),(S t21.1.Name.Space),(S t21.1.Name.Local),(L 3 e_api_Attr t21.1.Attrs),(L 6 e_api_Node t21.1.Kids),(S t21.1.Text)]))],[(8,bx0)],.junk,[(8,(.box .ex (c_api_Node t21.1)))],false,[]⟩ ⟨.same _,DLe.of_eq (congrArg D.agg (e_api_Node_c _).symm),trivial⟩ ⟨rfl,trivial⟩ (It2.store rfl rfl sz27 rfl rfl rfl rfl rfl rfl rfl rfl) ?_
      exact .dn
     exact⟨t21.1.Kind,t21.1.Name.Space,t21.1.Name.Local,t21.1.Attrs,t21.1.Kids,t21.1.Text,rfl,H⟩
    ·replace H:=ifF H hb26
     refine Ok.seq ?_
     refine .rg [(1,(L 9 e_api_Step a1)),(2,(.bref 2 0)),(4,(.bref 4 0)),(6,(L 1 (eI .i64) t7.1)),(8,(.bref 8 0))] [(2,(bxN a0)),(4,bx0),(8,bx0)] ?_
     refine Ok.seq ?_
     obtain⟨t23,h24,H⟩:=bindE H
     refine Ok.region (σ':=⟨[(1,(L 9 e_api_Step a1)),(4,(.bref 4 0)),(8,(.bref 8 0)),(9,(.v (.bool t23.2)))],[(4,bx0),(8,(.box .ex (c_api_Node t23.1)))]⟩) ?_ ?_
     ·refine .cv (VOk.to (d':=(.agg (e_api_Node a0))) (.loadBAgg rfl Try.underlying27 rfl sz27 rfl rfl rfl) (congrArg D.agg (e_api_Node_c a0).symm)) rfl rfl ?_
      refine .rn 1 ?_
      refine .cg (GOk.call rfl rfl cl35 rfl (path_Remove.ok h24) rfl) rfl rfl ?_
      refine .rn 3 ?_
      refine OpsOk.cut1 50 (.agg [(.v (.int .i64 t23.1.Kind)),(S t23.1.Name.Space),(S t23.1.Name.Local),(L 3 e_api_Attr t23.1.Attrs),(L 6 e_api_Node t23.1.Kids),(S t23.1.Text)]) (DLe.of_eq (congrArg D.agg (e_api_Node_c _).symm)) ?_
      refine .rn 2 ?_
      exact .dn
     refine Ok.seq ?_
     refine .rg [(1,(L 9 e_api_Step a1)),(4,(.bref 4 0)),(8,(.bref 8 0)),(53,(.v (.bool (!t23.2))))] [(4,bx0),(8,(.box .ex (c_api_Node t23.1)))] ?_
     refine Ok.test (b:=(!t23.2)) rfl (fun hb25 => ?_) (fun hb25 => ?_)
     ·replace H:=ifT H hb25
      refine Ok.seq ?_
      refine Ok.region (σ':=⟨[(4,(.bref 4 0)),(5,(.v (.int .i64 50)))],[(4,(.box .ex (c_api_Node (T_api_Node.mk 0 (T_api_Name.mk ([]:Str) ([]:Str)) ([]:List T_api_Attr) ([]:List T_api_Node) ([]:Str)))))]⟩) ?_ ?_
      ·refine .cv (VOk.to (d':=(.agg (e_api_Node (T_api_Node.mk 0 (T_api_Name.mk ([]:Str) ([]:Str)) ([]:List T_api_Attr) ([]:List T_api_Node) ([]:Str))))) (.build [none,none,none,some 3,some 6,none] [(0,1),(1,2),(3,1),(4,1),(5,1)] rfl Try.underlying27 (fa27 Try.underlying27) zo27 rfl rfl) (congrArg D.agg (e_api_Node_c (T_api_Node.mk 0 (T_api_Name.mk ([]:Str) ([]:Str)) ([]:List T_api_Attr) ([]:List T_api_Node) ([]:Str))).symm)) rfl rfl ?_
       refine OpsOk.cut1 54 (.agg [(.v (.int .i64 ((T_api_Node.mk 0 (T_api_Name.mk ([]:Str) ([]:Str)) ([]:List T_api_Attr) ([]:List T_api_Node) ([]:Str)).Kind))),(S ((T_api_Node.mk 0 (T_api_Name.mk ([]:Str) ([]:Str)) ([]:List T_api_Attr) ([]:List T_api_Node) ([]:Str)).Name.Space)),(S ((T_api_Node.mk 0 (T_api_Name.mk ([]:Str) ([]:Str)) ([]:List T_api_Attr) ([]:List T_api_Node) ([]:Str)).Name.Local)),(L 3 e_api_Attr ((T_api_Node.mk 0 (T_api_Name.mk ([]:Str) ([]:Str)) ([]:List T_api_Attr) ([]:List T_api_Node) ([]:Str)).Attrs)),(L 6 e_api_Node ((T_api_Node.mk 0 (T_api_Name.mk ([]:Str) ([]:Str)) ([]:List T_api_Attr) ([]:List T_api_Node) ([]:Str)).Kids)),(S ((T_api_Node.mk 0 (T_api_Name.mk ([]:Str) ([]:Str)) ([]:List T_api_Attr) ([]:List T_api_Node) ([]:Str)).Text))]) (DLe.of_eq (congrArg D.agg (e_api_Node_c _).symm)) ?_
       refine .rn 2 ?_
       exact .dn
      refine Ok.ret ?_
      obtain rfl:=Option.some.inj H
      exact⟨.inl rfl,⟨_,(.cons (.cell (VOk.to (d':=(.agg (e_api_Node (T_api_Node.mk 0 (T_api_Name.mk ([]:Str) ([]:Str)) ([]:List T_api_Attr) ([]:List T_api_Node) ([]:Str))))) (.loadBAgg rfl Try.underlying27 rfl sz27 rfl rfl rfl) (congrArg D.agg (e_api_Node_c (T_api_Node.mk 0 (T_api_Name.mk ([]:Str) ([]:Str)) ([]:List T_api_Attr) ([]:List T_api_Node) ([]:Str))).symm))) (.cons (.tmp rfl) .nil)),rfl⟩,trivial⟩
     ·replace H:=ifF H hb25
      refine Ok.le (σ':=⟨[(1,(L 9 e_api_Step a1)),(4,(.bref 4 0)),(8,(.bref 8 0))],[(4,bx0),(8,(.box .ex (c_api_Node t23.1)))]⟩) (.rf rfl rfl) ?_
      refine Ok.skip ?_
      exact⟨t23.1.Kind,t23.1.Name.Space,t23.1.Name.Local,t23.1.Attrs,t23.1.Kids,t23.1.Text,rfl,H⟩
   ·rintro σ ⟨y8_0_9,y8_1_10,y8_2_11,y8_3_12,y8_4_13,y8_5_14,rfl,H⟩
    unfold change_Delete.j0 at H
    refine Ok.seq ?_
    refine Ok.seq ?_
    obtain⟨t15,h16,H⟩:=bindE H
    refine Ok.region (σ':=⟨[(4,(.bref 4 0)),(8,(.bref 8 0)),(11,(.v (.int .i64 t15.2)))],[(4,bx0),(8,(.box .ex [(.v (.int .i64 y8_0_9)),(S y8_1_10),(S y8_2_11),(L 3 e_api_Attr y8_3_12),(L 6 e_api_Node y8_4_13),(S y8_5_14)]))]⟩) ?_ ?_
    ·refine .cv (VOk.to (d':=(.agg (e_api_Node (T_api_Node.mk y8_0_9 (T_api_Name.mk y8_1_10 y8_2_11) y8_3_12 y8_4_13 y8_5_14)))) (.loadBAgg rfl Try.underlying27 rfl sz27 rfl rfl rfl) (congrArg D.agg (e_api_Node_c (T_api_Node.mk y8_0_9 (T_api_Name.mk y8_1_10 y8_2_11) y8_3_12 y8_4_13 y8_5_14)).symm)) rfl rfl ?_
     refine .rn 1 ?_
     refine .cg (GOk.call rfl rfl cl9 rfl (match_Select.ok h16) rfl) rfl rfl ?_
     refine .rn 5 ?_
     exact .dn
    refine Ok.seq ?_
    refine .rg [(4,(.bref 4 0)),(8,(.bref 8 0)),(62,(.v (.bool (t15.2 != 5))))] [(4,bx0),(8,(.box .ex [(.v (.int .i64 y8_0_9)),(S y8_1_10),(S y8_2_11),(L 3 e_api_Attr y8_3_12),(L 6 e_api_Node y8_4_13),(S y8_5_14)]))] ?_
    refine Ok.test (b:=(t15.2 != 5)) rfl (fun hb17 => ?_) (fun hb17 => ?_)
    ·replace H:=ifT H hb17
     refine Ok.seq ?_
     refine Ok.region (σ':=⟨[(4,(.bref 4 0)),(5,(.v (.int .i64 50)))],[(4,(.box .ex (c_api_Node (T_api_Node.mk 0 (T_api_Name.mk ([]:Str) ([]:Str)) ([]:List T_api_Attr) ([]:List T_api_Node) ([]:Str)))))]⟩) ?_ ?_
     ·refine .cv (VOk.to (d':=(.agg (e_api_Node (T_api_Node.mk 0 (T_api_Name.mk ([]:Str) ([]:Str)) ([]:List T_api_Attr) ([]:List T_api_Node) ([]:Str))))) (.build [none,none,none,some 3,some 6,none] [(0,1),(1,2),(3,1),(4,1),(5,1)] rfl Try.underlying27 (fa27 Try.underlying27) zo27 rfl rfl) (congrArg D.agg (e_api_Node_c (T_api_Node.mk 0 (T_api_Name.mk ([]:Str) ([]:Str)) ([]:List T_api_Attr) ([]:List T_api_Node) ([]:Str))).symm)) rfl rfl ?_
      refine OpsOk.cut1 63 (.agg [(.v (.int .i64 ((T_api_Node.mk 0 (T_api_Name.mk ([]:Str) ([]:Str)) ([]:List T_api_Attr) ([]:List T_api_Node) ([]:Str)).Kind))),(S ((T_api_Node.mk 0 (T_api_Name.mk ([]:Str) ([]:Str)) ([]:List T_api_Attr) ([]:List T_api_Node) ([]:Str)).Name.Space)),(S ((T_api_Node.mk 0 (T_api_Name.mk ([]:Str) ([]:Str)) ([]:List T_api_Attr) ([]:List T_api_Node) ([]:Str)).Name.Local)),(L 3 e_api_Attr ((T_api_Node.mk 0 (T_api_Name.mk ([]:Str) ([]:Str)) ([]:List T_api_Attr) ([]:List T_api_Node) ([]:Str)).Attrs)),(L 6 e_api_Node ((T_api_Node.mk 0 (T_api_Name.mk ([]:Str) ([]:Str)) ([]:List T_api_Attr) ([]:List T_api_Node) ([]:Str)).Kids)),(S ((T_api_Node.mk 0 (T_api_Name.mk ([]:Str) ([]:Str)) ([]:List T_api_Attr) ([]:List T_api_Node) ([]:Str)).Text))]) (DLe.of_eq (congrArg D.agg (e_api_Node_c _).symm)) ?_
      refine .rn 2 ?_
      exact .dn
     refine Ok.ret ?_
     obtain rfl:=Option.some.inj H
     exact⟨.inl rfl,⟨_,(.cons (.cell (VOk.to (d':=(.agg (e_api_Node (T_api_Node.mk 0 (T_api_Name.mk ([]:Str) ([]:Str)) ([]:List T_api_Attr) ([]:List T_api_Node) ([]:Str))))) (.loadBAgg rfl Try.underlying27 rfl sz27 rfl rfl rfl) (congrArg D.agg (e_api_Node_c (T_api_Node.mk 0 (T_api_Name.mk ([]:Str) ([]:Str)) ([]:List T_api_Attr) ([]:List T_api_Node) ([]:Str))).symm))) (.cons (.tmp rfl) .nil)),rfl⟩,trivial⟩
    ·replace H:=ifF H hb17
     refine Ok.skip ?_
     refine Ok.seq ?_
     refine Ok.region (σ':=⟨[(4,(.bref 4 0)),(5,(.v (.int .i64 0)))],[(4,(.box .ex (c_api_Node (T_api_Node.mk y8_0_9 (T_api_Name.mk y8_1_10 y8_2_11) y8_3_12 y8_4_13 y8_5_14))))]⟩) ?_ ?_
     ·refine .cv (VOk.to (d':=(.agg (e_api_Node (T_api_Node.mk y8_0_9 (T_api_Name.mk y8_1_10 y8_2_11) y8_3_12 y8_4_13 y8_5_14)))) (.loadBAgg rfl Try.underlying27 rfl sz27 rfl rfl rfl) (congrArg D.agg (e_api_Node_c (T_api_Node.mk y8_0_9 (T_api_Name.mk y8_1_10 y8_2_11) y8_3_12 y8_4_13 y8_5_14)).symm)) rfl rfl ?_
      refine OpsOk.cut1 64 (.agg [(.v (.int .i64 ((T_api_Node.mk y8_0_9 (T_api_Name.mk y8_1_10 y8_2_11) y8_3_12 y8_4_13 y8_5_14).Kind))),(S ((T_api_Node.mk y8_0_9 (T_api_Name.mk y8_1_10 y8_2_11) y8_3_12 y8_4_13 y8_5_14).Name.Space)),(S ((T_api_Node.mk y8_0_9 (T_api_Name.mk y8_1_10 y8_2_11) y8_3_12 y8_4_13 y8_5_14).Name.Local)),(L 3 e_api_Attr ((T_api_Node.mk y8_0_9 (T_api_Name.mk y8_1_10 y8_2_11) y8_3_12 y8_4_13 y8_5_14).Attrs)),(L 6 e_api_Node ((T_api_Node.mk y8_0_9 (T_api_Name.mk y8_1_10 y8_2_11) y8_3_12 y8_4_13 y8_5_14).Kids)),(S ((T_api_Node.mk y8_0_9 (T_api_Name.mk y8_1_10 y8_2_11) y8_3_12 y8_4_13 y8_5_14).Text))]) (DLe.of_eq (congrArg D.agg (e_api_Node_c _).symm)) ?_
      refine .rn 2 ?_
      exact .dn
     refine Ok.ret ?_
     obtain rfl:=Option.some.inj H
     exact⟨.inl rfl,⟨_,(.cons (.cell (VOk.to (d':=(.agg (e_api_Node (T_api_Node.mk y8_0_9 (T_api_Name.mk y8_1_10 y8_2_11) y8_3_12 y8_4_13 y8_5_14)))) (.loadBAgg rfl Try.underlying27 rfl sz27 rfl rfl rfl) (congrArg D.agg (e_api_Node_c (T_api_Node.mk y8_0_9 (T_api_Name.mk y8_1_10 y8_2_11) y8_3_12 y8_4_13 y8_5_14)).symm))) (.cons (.tmp rfl) .nil)),rfl⟩,trivial⟩
def change_PutAttr (k:Nat) (a0:T_api_Node) (a1:Str) (a2:List T_api_Step):Option (T_api_Node × Bool × Int):=((change_attr k a2).bind fun (t1:Bool) => (if (!t1)=true then some ((T_api_Node.mk 0 (T_api_Name.mk ([]:Str) ([]:Str)) ([]:List T_api_Attr) ([]:List T_api_Node) ([]:Str)),false,33) else ((match_Split a2).bind fun (t3:(List T_api_Step) × T_api_Step) => ((match_Select k a0 t3.1).bind fun (t5:(List Int) × Int) => (if (t5.2 != 0)=true then some ((T_api_Node.mk 0 (T_api_Name.mk ([]:Str) ([]:Str)) ([]:List T_api_Attr) ([]:List T_api_Node) ([]:Str)),false,43) else ((path_At k a0 t5.1).bind fun (t7:T_api_Node × Bool) => ((tree_Get k t7.1 t3.2.Name).bind fun (t9:Str × Bool) => ((path_SetAttr k a0 (T_api_Attr.mk (T_api_Name.mk t3.2.Name.Space t3.2.Name.Local) a1) t5.1).bind fun (t11:T_api_Node × Bool) => ((change_checked k t11.1 a2 t5.1).bind fun (t13:Int) => (if (t13 != 0)=true then some ((T_api_Node.mk 0 (T_api_Name.mk ([]:Str) ([]:Str)) ([]:List T_api_Attr) ([]:List T_api_Node) ([]:Str)),false,t13) else some (t11.1,(!t9.2),0)))))))))))
theorem change_PutAttr.ok {k:Nat} {a0:T_api_Node} {a1:Str} {a2:List T_api_Step} {r:T_api_Node × Bool × Int} (H:change_PutAttr k a0 a1 a2=some r):Vx.Fn Try.prog 13 [(.agg (e_api_Node a0)),(S a1),(L 9 e_api_Step a2)] [] (.tup [(.agg (e_api_Node r.1)),(.v (.bool r.2.1)),(.v (.int .i64 r.2.2))]) []:=by
 unfold change_PutAttr at H
 refine Vx.Fn.of_okR Try.func13 rfl (Nat.le_of_ble_eq_true rfl) ?_
 refine Ok.seq ?_
 refine Ok.region (σ':=⟨[(1,(S a1)),(2,(L 9 e_api_Step a2)),(3,(.bref 3 0)),(6,(.bref 6 0))],[(3,(bxN a0)),(6,bx0)]⟩) ?_ ?_
 ·refine OpsOk.cut1 0 (.agg (c_api_Node a0)) (DLe.of_eq (congrArg D.agg (e_api_Node_c _).symm)) ?_
  refine .rn 4 ?_
  exact .dn
 refine Ok.seq ?_
 refine Ok.seq ?_
 obtain⟨t1,h2,H⟩:=bindE H
 refine Ok.region (σ':=⟨[(1,(S a1)),(2,(L 9 e_api_Step a2)),(3,(.bref 3 0)),(6,(.bref 6 0)),(22,(.v (.bool (!t1))))],[(3,(bxN a0)),(6,bx0)]⟩) ?_ ?_
 ·refine .rn 1 ?_
  refine .cg (GOk.call rfl rfl cl32 rfl (change_attr.ok h2) rfl) rfl rfl ?_
  refine .rn 1 ?_
  exact .dn
 refine Ok.test (b:=(!t1)) rfl (fun hb17 => ?_) (fun hb17 => ?_)
 ·replace H:=ifT H hb17
  refine Ok.seq ?_
  refine Ok.region (σ':=⟨[(6,(.bref 6 0)),(7,(.v (.bool false))),(8,(.v (.int .i64 33)))],[(6,(.box .ex (c_api_Node (T_api_Node.mk 0 (T_api_Name.mk ([]:Str) ([]:Str)) ([]:List T_api_Attr) ([]:List T_api_Node) ([]:Str)))))]⟩) ?_ ?_
  ·refine .cv (VOk.to (d':=(.agg (e_api_Node (T_api_Node.mk 0 (T_api_Name.mk ([]:Str) ([]:Str)) ([]:List T_api_Attr) ([]:List T_api_Node) ([]:Str))))) (.build [none,none,none,some 3,some 6,none] [(0,1),(1,2),(3,1),(4,1),(5,1)] rfl Try.underlying27 (fa27 Try.underlying27) zo27 rfl rfl) (congrArg D.agg (e_api_Node_c (T_api_Node.mk 0 (T_api_Name.mk ([]:Str) ([]:Str)) ([]:List T_api_Attr) ([]:List T_api_Node) ([]:Str))).symm)) rfl rfl ?_
   refine OpsOk.cut1 23 (.agg [(.v (.int .i64 ((T_api_Node.mk 0 (T_api_Name.mk ([]:Str) ([]:Str)) ([]:List T_api_Attr) ([]:List T_api_Node) ([]:Str)).Kind))),(S ((T_api_Node.mk 0 (T_api_Name.mk ([]:Str) ([]:Str)) ([]:List T_api_Attr) ([]:List T_api_Node) ([]:Str)).Name.Space)),(S ((T_api_Node.mk 0 (T_api_Name.mk ([]:Str) ([]:Str)) ([]:List T_api_Attr) ([]:List T_api_Node) ([]:Str)).Name.Local)),(L 3 e_api_Attr ((T_api_Node.mk 0 (T_api_Name.mk ([]:Str) ([]:Str)) ([]:List T_api_Attr) ([]:List T_api_Node) ([]:Str)).Attrs)),(L 6 e_api_Node ((T_api_Node.mk 0 (T_api_Name.mk ([]:Str) ([]:Str)) ([]:List T_api_Attr) ([]:List T_api_Node) ([]:Str)).Kids)),(S ((T_api_Node.mk 0 (T_api_Name.mk ([]:Str) ([]:Str)) ([]:List T_api_Attr) ([]:List T_api_Node) ([]:Str)).Text))]) (DLe.of_eq (congrArg D.agg (e_api_Node_c _).symm)) ?_
   refine .rn 3 ?_
   exact .dn
  refine Ok.ret ?_
  obtain rfl:=Option.some.inj H
  exact⟨.inl rfl,⟨_,(.cons (.cell (VOk.to (d':=(.agg (e_api_Node (T_api_Node.mk 0 (T_api_Name.mk ([]:Str) ([]:Str)) ([]:List T_api_Attr) ([]:List T_api_Node) ([]:Str))))) (.loadBAgg rfl Try.underlying27 rfl sz27 rfl rfl rfl) (congrArg D.agg (e_api_Node_c (T_api_Node.mk 0 (T_api_Name.mk ([]:Str) ([]:Str)) ([]:List T_api_Attr) ([]:List T_api_Node) ([]:Str))).symm))) (.cons (.tmp rfl) (.cons (.tmp rfl) .nil))),rfl⟩,trivial⟩
 ·replace H:=ifF H hb17
  refine Ok.skip ?_
  refine Ok.seq ?_
  obtain⟨t3,h4,H⟩:=bindE H
  refine Ok.region (σ':=⟨[(1,(S a1)),(2,(L 9 e_api_Step a2)),(3,(.bref 3 0)),(6,(.bref 6 0)),(9,(L 9 e_api_Step t3.1)),(10,(.bref 10 0))],[(3,(bxN a0)),(6,bx0),(10,(.box .ex (c_api_Step t3.2)))]⟩) ?_ ?_
  ·refine .rn 1 ?_
   refine .cg (GOk.call rfl rfl cl24 rfl (match_Split.ok h4) rfl) rfl rfl ?_
   refine .rn 6 ?_
   exact .dn
  refine Ok.seq ?_
  obtain⟨t5,h6,H⟩:=bindE H
  refine Ok.region (σ':=⟨[(1,(S a1)),(2,(L 9 e_api_Step a2)),(3,(.bref 3 0)),(6,(.bref 6 0)),(10,(.bref 10 0)),(11,(L 1 (eI .i64) t5.1)),(12,(.v (.int .i64 t5.2)))],[(3,(bxN a0)),(6,bx0),(10,(.box .ex (c_api_Step t3.2)))]⟩) ?_ ?_
  ·refine .cv (VOk.to (d':=(.agg (e_api_Node a0))) (.loadBAgg rfl Try.underlying27 rfl sz27 rfl rfl rfl) (congrArg D.agg (e_api_Node_c a0).symm)) rfl rfl ?_
   refine .rn 1 ?_
   refine .cg (GOk.call rfl rfl cl9 rfl (match_Select.ok h6) rfl) rfl rfl ?_
   refine .rn 5 ?_
   exact .dn
  refine Ok.seq ?_
  refine Ok.seq ?_
  refine .rg [(1,(S a1)),(2,(L 9 e_api_Step a2)),(3,(.bref 3 0)),(6,(.bref 6 0)),(10,(.bref 10 0)),(11,(L 1 (eI .i64) t5.1)),(36,(.v (.bool (t5.2 != 0))))] [(3,(bxN a0)),(6,bx0),(10,(.box .ex (c_api_Step t3.2)))] ?_
  refine Ok.test (b:=(t5.2 != 0)) rfl (fun hb16 => ?_) (fun hb16 => ?_)
  ·replace H:=ifT H hb16
   refine Ok.seq ?_
   refine Ok.region (σ':=⟨[(6,(.bref 6 0)),(7,(.v (.bool false))),(8,(.v (.int .i64 43)))],[(6,(.box .ex (c_api_Node (T_api_Node.mk 0 (T_api_Name.mk ([]:Str) ([]:Str)) ([]:List T_api_Attr) ([]:List T_api_Node) ([]:Str)))))]⟩) ?_ ?_
   ·refine .cv (VOk.to (d':=(.agg (e_api_Node (T_api_Node.mk 0 (T_api_Name.mk ([]:Str) ([]:Str)) ([]:List T_api_Attr) ([]:List T_api_Node) ([]:Str))))) (.build [none,none,none,some 3,some 6,none] [(0,1),(1,2),(3,1),(4,1),(5,1)] rfl Try.underlying27 (fa27 Try.underlying27) zo27 rfl rfl) (congrArg D.agg (e_api_Node_c (T_api_Node.mk 0 (T_api_Name.mk ([]:Str) ([]:Str)) ([]:List T_api_Attr) ([]:List T_api_Node) ([]:Str))).symm)) rfl rfl ?_
    refine OpsOk.cut1 37 (.agg [(.v (.int .i64 ((T_api_Node.mk 0 (T_api_Name.mk ([]:Str) ([]:Str)) ([]:List T_api_Attr) ([]:List T_api_Node) ([]:Str)).Kind))),(S ((T_api_Node.mk 0 (T_api_Name.mk ([]:Str) ([]:Str)) ([]:List T_api_Attr) ([]:List T_api_Node) ([]:Str)).Name.Space)),(S ((T_api_Node.mk 0 (T_api_Name.mk ([]:Str) ([]:Str)) ([]:List T_api_Attr) ([]:List T_api_Node) ([]:Str)).Name.Local)),(L 3 e_api_Attr ((T_api_Node.mk 0 (T_api_Name.mk ([]:Str) ([]:Str)) ([]:List T_api_Attr) ([]:List T_api_Node) ([]:Str)).Attrs)),(L 6 e_api_Node ((T_api_Node.mk 0 (T_api_Name.mk ([]:Str) ([]:Str)) ([]:List T_api_Attr) ([]:List T_api_Node) ([]:Str)).Kids)),(S ((T_api_Node.mk 0 (T_api_Name.mk ([]:Str) ([]:Str)) ([]:List T_api_Attr) ([]:List T_api_Node) ([]:Str)).Text))]) (DLe.of_eq (congrArg D.agg (e_api_Node_c _).symm)) ?_
    refine .rn 3 ?_
    exact .dn
   refine Ok.ret ?_
   obtain rfl:=Option.some.inj H
   exact⟨.inl rfl,⟨_,(.cons (.cell (VOk.to (d':=(.agg (e_api_Node (T_api_Node.mk 0 (T_api_Name.mk ([]:Str) ([]:Str)) ([]:List T_api_Attr) ([]:List T_api_Node) ([]:Str))))) (.loadBAgg rfl Try.underlying27 rfl sz27 rfl rfl rfl) (congrArg D.agg (e_api_Node_c (T_api_Node.mk 0 (T_api_Name.mk ([]:Str) ([]:Str)) ([]:List T_api_Attr) ([]:List T_api_Node) ([]:Str))).symm))) (.cons (.tmp rfl) (.cons (.tmp rfl) .nil))),rfl⟩,trivial⟩
  ·replace H:=ifF H hb16
   refine Ok.skip ?_
   refine Ok.seq ?_
   obtain⟨t7,h8,H⟩:=bindE H
   refine Ok.region (σ':=⟨[(1,(S a1)),(2,(L 9 e_api_Step a2)),(3,(.bref 3 0)),(6,(.bref 6 0)),(10,(.bref 10 0)),(11,(L 1 (eI .i64) t5.1)),(13,(.bref 13 0))],[(3,(bxN a0)),(6,bx0),(10,(.box .ex (c_api_Step t3.2))),(13,(.box .ex (c_api_Node t7.1)))]⟩) ?_ ?_
   ·refine .cv (VOk.to (d':=(.agg (e_api_Node a0))) (.loadBAgg rfl Try.underlying27 rfl sz27 rfl rfl rfl) (congrArg D.agg (e_api_Node_c a0).symm)) rfl rfl ?_
    refine .rn 1 ?_
    refine .cg (GOk.call rfl rfl cl10 rfl (path_At.ok h8) rfl) rfl rfl ?_
    refine .rn 4 ?_
    refine OpsOk.cut1 42 (.agg [(.v (.int .i64 t7.1.Kind)),(S t7.1.Name.Space),(S t7.1.Name.Local),(L 3 e_api_Attr t7.1.Attrs),(L 6 e_api_Node t7.1.Kids),(S t7.1.Text)]) (DLe.of_eq (congrArg D.agg (e_api_Node_c _).symm)) ?_
    refine .rn 2 ?_
    exact .dn
   refine Ok.seq ?_
   obtain⟨t9,h10,H⟩:=bindE H
   refine Ok.region (σ':=⟨[(1,(S a1)),(2,(L 9 e_api_Step a2)),(3,(.bref 3 0)),(6,(.bref 6 0)),(10,(.bref 10 0)),(11,(L 1 (eI .i64) t5.1)),(16,(.v (.bool t9.2)))],[(3,(bxN a0)),(6,bx0),(10,(.box .ex (c_api_Step t3.2)))]⟩) ?_ ?_
   ·refine .cv (VOk.to (d':=(.agg (e_api_Node t7.1))) (.loadBAgg rfl Try.underlying27 rfl sz27 rfl rfl rfl) (congrArg D.agg (e_api_Node_c t7.1).symm)) rfl rfl ?_
    refine .rn 2 ?_
    refine .cg (GOk.call rfl rfl cl14 rfl (tree_Get.ok h10) rfl) rfl rfl ?_
    refine .rn 5 ?_
    exact .dn
   refine Ok.seq ?_
   obtain⟨t11,h12,H⟩:=bindE H
   refine Ok.region (σ':=⟨[(2,(L 9 e_api_Step a2)),(6,(.bref 6 0)),(11,(L 1 (eI .i64) t5.1)),(16,(.v (.bool t9.2))),(17,(.bref 17 0))],[(6,bx0),(17,(.box .ex (c_api_Node t11.1)))]⟩) ?_ ?_
   ·refine .cv (VOk.to (d':=(.agg (e_api_Node a0))) (.loadBAgg rfl Try.underlying27 rfl sz27 rfl rfl rfl) (congrArg D.agg (e_api_Node_c a0).symm)) rfl rfl ?_
    refine .rn 3 ?_
    refine .cv (VOk.to (d':=(.agg (e_api_Attr (T_api_Attr.mk (T_api_Name.mk t3.2.Name.Space t3.2.Name.Local) a1)))) (.build [none,none,none] [(0,2),(2,1)] rfl Try.underlying68 (fa68 Try.underlying68) zo68 rfl rfl) rfl) rfl rfl ?_
    refine .rn 1 ?_
    refine .cg (GOk.call rfl rfl cl33 rfl (path_SetAttr.ok h12) rfl) rfl rfl ?_
    refine .rn 4 ?_
    refine OpsOk.cut1 59 (.agg [(.v (.int .i64 t11.1.Kind)),(S t11.1.Name.Space),(S t11.1.Name.Local),(L 3 e_api_Attr t11.1.Attrs),(L 6 e_api_Node t11.1.Kids),(S t11.1.Text)]) (DLe.of_eq (congrArg D.agg (e_api_Node_c _).symm)) ?_
    refine .rn 2 ?_
    exact .dn
   refine Ok.seq ?_
   refine Ok.seq ?_
   obtain⟨t13,h14,H⟩:=bindE H
   refine Ok.region (σ':=⟨[(6,(.bref 6 0)),(16,(.v (.bool t9.2))),(17,(.bref 17 0)),(19,(.v (.int .i64 t13)))],[(6,bx0),(17,(.box .ex (c_api_Node t11.1)))]⟩) ?_ ?_
   ·refine .cv (VOk.to (d':=(.agg (e_api_Node t11.1))) (.loadBAgg rfl Try.underlying27 rfl sz27 rfl rfl rfl) (congrArg D.agg (e_api_Node_c t11.1).symm)) rfl rfl ?_
    refine .rn 2 ?_
    refine .cg (GOk.call rfl rfl cl23 rfl (change_checked.ok h14) rfl) rfl rfl ?_
    refine .rn 1 ?_
    exact .dn
   refine Ok.seq ?_
   refine .rg [(6,(.bref 6 0)),(16,(.v (.bool t9.2))),(17,(.bref 17 0)),(19,(.v (.int .i64 t13))),(66,(.v (.bool (t13 != 0))))] [(6,bx0),(17,(.box .ex (c_api_Node t11.1)))] ?_
   refine Ok.test (b:=(t13 != 0)) rfl (fun hb15 => ?_) (fun hb15 => ?_)
   ·replace H:=ifT H hb15
    refine Ok.seq ?_
    refine Ok.region (σ':=⟨[(6,(.bref 6 0)),(7,(.v (.bool false))),(8,(.v (.int .i64 t13)))],[(6,(.box .ex (c_api_Node (T_api_Node.mk 0 (T_api_Name.mk ([]:Str) ([]:Str)) ([]:List T_api_Attr) ([]:List T_api_Node) ([]:Str)))))]⟩) ?_ ?_
    ·refine .cv (VOk.to (d':=(.agg (e_api_Node (T_api_Node.mk 0 (T_api_Name.mk ([]:Str) ([]:Str)) ([]:List T_api_Attr) ([]:List T_api_Node) ([]:Str))))) (.build [none,none,none,some 3,some 6,none] [(0,1),(1,2),(3,1),(4,1),(5,1)] rfl Try.underlying27 (fa27 Try.underlying27) zo27 rfl rfl) (congrArg D.agg (e_api_Node_c (T_api_Node.mk 0 (T_api_Name.mk ([]:Str) ([]:Str)) ([]:List T_api_Attr) ([]:List T_api_Node) ([]:Str))).symm)) rfl rfl ?_
     refine .rn 1 ?_
     refine OpsOk.cut1 67 (.agg [(.v (.int .i64 ((T_api_Node.mk 0 (T_api_Name.mk ([]:Str) ([]:Str)) ([]:List T_api_Attr) ([]:List T_api_Node) ([]:Str)).Kind))),(S ((T_api_Node.mk 0 (T_api_Name.mk ([]:Str) ([]:Str)) ([]:List T_api_Attr) ([]:List T_api_Node) ([]:Str)).Name.Space)),(S ((T_api_Node.mk 0 (T_api_Name.mk ([]:Str) ([]:Str)) ([]:List T_api_Attr) ([]:List T_api_Node) ([]:Str)).Name.Local)),(L 3 e_api_Attr ((T_api_Node.mk 0 (T_api_Name.mk ([]:Str) ([]:Str)) ([]:List T_api_Attr) ([]:List T_api_Node) ([]:Str)).Attrs)),(L 6 e_api_Node ((T_api_Node.mk 0 (T_api_Name.mk ([]:Str) ([]:Str)) ([]:List T_api_Attr) ([]:List T_api_Node) ([]:Str)).Kids)),(S ((T_api_Node.mk 0 (T_api_Name.mk ([]:Str) ([]:Str)) ([]:List T_api_Attr) ([]:List T_api_Node) ([]:Str)).Text))]) (DLe.of_eq (congrArg D.agg (e_api_Node_c _).symm)) ?_
     refine .rn 3 ?_
     exact .dn
    refine Ok.ret ?_
    obtain rfl:=Option.some.inj H
    exact⟨.inl rfl,⟨_,(.cons (.cell (VOk.to (d':=(.agg (e_api_Node (T_api_Node.mk 0 (T_api_Name.mk ([]:Str) ([]:Str)) ([]:List T_api_Attr) ([]:List T_api_Node) ([]:Str))))) (.loadBAgg rfl Try.underlying27 rfl sz27 rfl rfl rfl) (congrArg D.agg (e_api_Node_c (T_api_Node.mk 0 (T_api_Name.mk ([]:Str) ([]:Str)) ([]:List T_api_Attr) ([]:List T_api_Node) ([]:Str))).symm))) (.cons (.tmp rfl) (.cons (.tmp rfl) .nil))),rfl⟩,trivial⟩
   ·replace H:=ifF H hb15
    refine Ok.skip ?_
    refine Ok.seq ?_
    refine Ok.region (σ':=⟨[(6,(.bref 6 0)),(7,(.v (.bool (!t9.2)))),(8,(.v (.int .i64 0)))],[(6,(.box .ex (c_api_Node t11.1)))]⟩) ?_ ?_
    ·refine .cv (VOk.to (d':=(.agg (e_api_Node t11.1))) (.loadBAgg rfl Try.underlying27 rfl sz27 rfl rfl rfl) (congrArg D.agg (e_api_Node_c t11.1).symm)) rfl rfl ?_
     refine .rn 2 ?_
     refine OpsOk.cut1 69 (.agg [(.v (.int .i64 t11.1.Kind)),(S t11.1.Name.Space),(S t11.1.Name.Local),(L 3 e_api_Attr t11.1.Attrs),(L 6 e_api_Node t11.1.Kids),(S t11.1.Text)]) (DLe.of_eq (congrArg D.agg (e_api_Node_c _).symm)) ?_
     refine .rn 3 ?_
     exact .dn
    refine Ok.ret ?_
    obtain rfl:=Option.some.inj H
    exact⟨.inl rfl,⟨_,(.cons (.cell (VOk.to (d':=(.agg (e_api_Node t11.1))) (.loadBAgg rfl Try.underlying27 rfl sz27 rfl rfl rfl) (congrArg D.agg (e_api_Node_c t11.1).symm))) (.cons (.tmp rfl) (.cons (.tmp rfl) .nil))),rfl⟩,trivial⟩
def watchbilllaw13_awake (k:Nat):Option Bool:=((watchbilllaw13_el ([98]:Str) ([]:List T_api_Node)).bind fun (t1:T_api_Node) => ((watchbilllaw13_el ([99]:Str) ([]:List T_api_Node)).bind fun (t3:T_api_Node) => ((watchbilllaw13_el ([97]:Str) ([t1,t3]:List T_api_Node)).bind fun (t5:T_api_Node) => ((watchbilllaw13_el ([98]:Str) ([]:List T_api_Node)).bind fun (t7:T_api_Node) => ((watchbilllaw13_step ([97]:Str) 0).bind fun (t9:T_api_Step) => ((watchbilllaw13_step ([98]:Str) 2).bind fun (t11:T_api_Step) => ((change_PutElement k t5 t7 ([t9,t11]:List T_api_Step)).bind fun (t13:T_api_Node × Bool × Int) => ((watchbilllaw13_el ([98]:Str) ([]:List T_api_Node)).bind fun (t15:T_api_Node) => ((watchbilllaw13_step ([97]:Str) 0).bind fun (t17:T_api_Step) => ((watchbilllaw13_step ([98]:Str) 3).bind fun (t19:T_api_Step) => ((change_PutElement k t5 t15 ([t17,t19]:List T_api_Step)).bind fun (t21:T_api_Node × Bool × Int) => ((watchbilllaw13_el ([101]:Str) ([]:List T_api_Node)).bind fun (t23:T_api_Node) => ((watchbilllaw13_step ([97]:Str) 0).bind fun (t25:T_api_Step) => ((watchbilllaw13_step ([100]:Str) 0).bind fun (t27:T_api_Step) => ((change_PutElement k t5 t23 ([t25,t27]:List T_api_Step)).bind fun (t29:T_api_Node × Bool × Int) => ((watchbilllaw13_step ([97]:Str) 0).bind fun (t31:T_api_Step) => ((change_Delete k t5 ([t31,(T_api_Step.mk 1 true (T_api_Name.mk ([]:Str) ([]:Str)) 1 false (T_api_Name.mk ([]:Str) ([]:Str)) ([]:Str))]:List T_api_Step)).bind fun (t33:T_api_Node × Int) => ((watchbilllaw13_step ([97]:Str) 0).bind fun (t35:T_api_Step) => ((watchbilllaw13_step ([98]:Str) 0).bind fun (t37:T_api_Step) => ((change_Delete k t5 ([t35,t37]:List T_api_Step)).bind fun (t39:T_api_Node × Int) => ((watchbilllaw13_step ([97]:Str) 0).bind fun (t41:T_api_Step) => ((change_PutAttr k t5 ([49]:Str) ([t41,(T_api_Step.mk 2 false (T_api_Name.mk ((T_api_Name.mk ([]:Str) ([120]:Str)).Space) ((T_api_Name.mk ([]:Str) ([120]:Str)).Local)) 0 false (T_api_Name.mk ([]:Str) ([]:Str)) ([]:Str))]:List T_api_Step)).bind fun (t43:T_api_Node × Bool × Int) => (if ((((t13.1.Kids.length:Int) == 3) == true)=true→(0:Int) ≤ 1 ∧ 1 < (t13.1.Kids.length:Int)) then some ((((((((((((t13.1.Kids.length:Int) == 3) && ((((rd t13.1.Kids 1).Name).Local) == ([98]:Str))) && t13.2.1) && (t13.2.2 == 0)) && (t21.2.2 == 42)) && (t29.2.2 == 42)) && (t33.2 == 50)) && ((t39.1.Kids.length:Int) == 1)) && (t39.2 == 0)) && t43.2.1) && (t43.2.2 == 0)) else none)))))))))))))))))))))))
theorem watchbilllaw13_awake.ok {k:Nat} {r:Bool} (H:watchbilllaw13_awake k=some r):Vx.Fn Try.prog 6 [] [] (.v (.bool r)) []:=by
 unfold watchbilllaw13_awake at H
 refine Vx.Fn.of_okR Try.func6 rfl (Nat.le_of_ble_eq_true rfl) ?_
 refine Ok.seq ?_
 refine .rg [] [] ?_
 refine Ok.seq ?_
 obtain⟨t1,h2,H⟩:=bindE H
 obtain⟨t3,h4,H⟩:=bindE H
 obtain⟨t5,h6,H⟩:=bindE H
 refine Ok.region (σ':=⟨[(1,(.bref 1 0))],[(1,(bxN t5))]⟩) ?_ ?_
 ·refine .cg (GOk.call rfl rfl cl16 rfl (Fn.weak (ds:=[(S ([98]:Str)),(L 6 e_api_Node ([]:List T_api_Node))]) (watchbilllaw13_el.ok h2) ⟨.same _,.nil _,trivial⟩) rfl) rfl rfl ?_
  refine .cg (GOk.call rfl rfl cl16 rfl (Fn.weak (ds:=[(S ([99]:Str)),(L 6 e_api_Node ([]:List T_api_Node))]) (watchbilllaw13_el.ok h4) ⟨.same _,.nil _,trivial⟩) rfl) rfl rfl ?_
  refine .cg (GOk.to (d':=(L 6 e_api_Node ([t1,t3]:List T_api_Node))) (GOk.lit rfl Try.underlying25 sz27 zs27 rfl rfl rfl rfl) rfl) rfl rfl ?_
  refine .cg (GOk.call rfl rfl cl16 rfl (watchbilllaw13_el.ok h6) rfl) rfl rfl ?_
  refine .rn 1 ?_
  refine OpsOk.cut1 21 (.agg (c_api_Node t5)) (DLe.of_eq (congrArg D.agg (e_api_Node_c _).symm)) ?_
  refine .rn 1 ?_
  exact .dn
 refine Ok.seq ?_
 obtain⟨t7,h8,H⟩:=bindE H
 obtain⟨t9,h10,H⟩:=bindE H
 obtain⟨t11,h12,H⟩:=bindE H
 obtain⟨t13,h14,H⟩:=bindE H
 refine Ok.le (σ':=⟨[(1,(.bref 1 0))],[(1,(bxN t5))]⟩) (.rf rfl rfl) ?_
 refine .dU [(1,(.bref 1 0)),(2,(.bref 2 0)),(3,(.v (.bool t13.2.1))),(4,(.v (.int .i64 t13.2.2)))] [(1,(bxN t5)),(2,(.box .ex (c_api_Node t13.1)))] [[],[],[],[],[2,3],[0,1,4],[5],[6],[6],[6],[],[7,10],[8],[9]] mixed ?_ ?_
 ·refine .uc ⟨true,[(1,(.bref 1 0))],[(1,(bxN t5))],(.agg (e_api_Node t5)),[],false,[]⟩ ⟨.same _,trivial⟩ ⟨rfl,trivial⟩ (It2.val rfl rfl (fun T hT => (VOk.g (VOk.to (d':=(.agg (e_api_Node t5))) (.loadBAgg rfl Try.underlying27 rfl sz27 rfl hT.1 rfl) (congrArg D.agg (e_api_Node_c t5).symm))))) ?_
  refine .uc ⟨true,[],[],(.agg (e_api_Node t7)),[],false,[]⟩ trivial trivial (It2.val rfl rfl (fun T hT => (GOk.call rfl rfl cl16 rfl (Fn.weak (ds:=[(S ([98]:Str)),(L 6 e_api_Node ([]:List T_api_Node))]) (watchbilllaw13_el.ok h8) ⟨.same _,.nil _,trivial⟩) rfl))) ?_
  refine .uc ⟨true,[],[],(.agg (e_api_Step t9)),[],false,[]⟩ trivial trivial (It2.val rfl rfl (fun T hT => (GOk.call rfl rfl cl17 rfl (watchbilllaw13_step.ok h10) rfl))) ?_
  refine .uc ⟨true,[],[],(.agg (e_api_Step t11)),[],false,[]⟩ trivial trivial (It2.val rfl rfl (fun T hT => (GOk.call rfl rfl cl17 rfl (watchbilllaw13_step.ok h12) rfl))) ?_
  refine .uc ⟨true,[(25,(.agg (e_api_Step t9))),(26,(.agg (e_api_Step t11)))],[],(L 9 e_api_Step ([t9,t11]:List T_api_Step)),[],false,[]⟩ ⟨.same _,.same _,trivial⟩ trivial (It2.val rfl rfl (fun T hT => (GOk.to (d':=(L 9 e_api_Step ([t9,t11]:List T_api_Step))) (GOk.lit rfl Try.underlying28 sz45 zs45 rfl rfl rfl rfl) rfl))) ?_
  refine .uc ⟨true,[(23,(.agg (e_api_Node t5))),(24,(.agg (e_api_Node t7))),(27,(L 9 e_api_Step ([t9,t11]:List T_api_Step)))],[],(.tup [(.agg (e_api_Node t13.1)),(.v (.bool t13.2.1)),(.v (.int .i64 t13.2.2))]),[],false,[]⟩ ⟨.same _,.same _,.same _,trivial⟩ trivial (It2.val rfl rfl (fun T hT => (GOk.call rfl rfl cl8 rfl (change_PutElement.ok h14) rfl))) ?_
  refine .un 5 ?_
  refine .uc ⟨true,[(2,(.bref 2 0)),(29,(.agg [(.v (.int .i64 t13.1.Kind)),(S t13.1.Name.Space),(S t13.1.Name.Local),(L 3 e_api_Attr t13.1.Attrs),(L 6 e_api_Node t13.1.Kids),(S t13.1.Text)]))],[(2,bx0)],.junk,[(2,(.box .ex (c_api_Node t13.1)))],false,[]⟩ ⟨.same _,DLe.of_eq (congrArg D.agg (e_api_Node_c _).symm),trivial⟩ ⟨rfl,trivial⟩ (It2.store rfl rfl sz27 rfl rfl rfl rfl rfl rfl rfl rfl) ?_
  refine .un 2 ?_
  exact .dn
 refine Ok.seq ?_
 obtain⟨t15,h16,H⟩:=bindE H
 obtain⟨t17,h18,H⟩:=bindE H
 obtain⟨t19,h20,H⟩:=bindE H
 obtain⟨t21,h22,H⟩:=bindE H
 refine Ok.le (σ':=⟨[(1,(.bref 1 0)),(2,(.bref 2 0)),(3,(.v (.bool t13.2.1))),(4,(.v (.int .i64 t13.2.2)))],[(1,(bxN t5)),(2,(.box .ex (c_api_Node t13.1)))]⟩) (.rf rfl rfl) ?_
 refine .dU [(1,(.bref 1 0)),(2,(.bref 2 0)),(3,(.v (.bool t13.2.1))),(4,(.v (.int .i64 t13.2.2))),(7,(.v (.int .i64 t21.2.2)))] [(1,(bxN t5)),(2,(.box .ex (c_api_Node t13.1)))] [[],[],[],[],[2,3],[0,1,4],[5],[6],[6],[6],[],[7,10],[8],[9]] mixed ?_ ?_
 ·refine .uc ⟨true,[(1,(.bref 1 0))],[(1,(bxN t5))],(.agg (e_api_Node t5)),[],false,[]⟩ ⟨.same _,trivial⟩ ⟨rfl,trivial⟩ (It2.val rfl rfl (fun T hT => (VOk.g (VOk.to (d':=(.agg (e_api_Node t5))) (.loadBAgg rfl Try.underlying27 rfl sz27 rfl hT.1 rfl) (congrArg D.agg (e_api_Node_c t5).symm))))) ?_
  refine .uc ⟨true,[],[],(.agg (e_api_Node t15)),[],false,[]⟩ trivial trivial (It2.val rfl rfl (fun T hT => (GOk.call rfl rfl cl16 rfl (Fn.weak (ds:=[(S ([98]:Str)),(L 6 e_api_Node ([]:List T_api_Node))]) (watchbilllaw13_el.ok h16) ⟨.same _,.nil _,trivial⟩) rfl))) ?_
  refine .uc ⟨true,[],[],(.agg (e_api_Step t17)),[],false,[]⟩ trivial trivial (It2.val rfl rfl (fun T hT => (GOk.call rfl rfl cl17 rfl (watchbilllaw13_step.ok h18) rfl))) ?_
  refine .uc ⟨true,[],[],(.agg (e_api_Step t19)),[],false,[]⟩ trivial trivial (It2.val rfl rfl (fun T hT => (GOk.call rfl rfl cl17 rfl (watchbilllaw13_step.ok h20) rfl))) ?_
  refine .uc ⟨true,[(35,(.agg (e_api_Step t17))),(36,(.agg (e_api_Step t19)))],[],(L 9 e_api_Step ([t17,t19]:List T_api_Step)),[],false,[]⟩ ⟨.same _,.same _,trivial⟩ trivial (It2.val rfl rfl (fun T hT => (GOk.to (d':=(L 9 e_api_Step ([t17,t19]:List T_api_Step))) (GOk.lit rfl Try.underlying28 sz45 zs45 rfl rfl rfl rfl) rfl))) ?_
  refine .uc ⟨true,[(33,(.agg (e_api_Node t5))),(34,(.agg (e_api_Node t15))),(37,(L 9 e_api_Step ([t17,t19]:List T_api_Step)))],[],(.tup [(.agg (e_api_Node t21.1)),(.v (.bool t21.2.1)),(.v (.int .i64 t21.2.2))]),[],false,[]⟩ ⟨.same _,.same _,.same _,trivial⟩ trivial (It2.val rfl rfl (fun T hT => (GOk.call rfl rfl cl8 rfl (change_PutElement.ok h22) rfl))) ?_
  refine .un 5 ?_
  refine .uc ⟨true,[(5,(.bref 5 0)),(39,(.agg [(.v (.int .i64 t21.1.Kind)),(S t21.1.Name.Space),(S t21.1.Name.Local),(L 3 e_api_Attr t21.1.Attrs),(L 6 e_api_Node t21.1.Kids),(S t21.1.Text)]))],[(5,bx0)],.junk,[(5,(.box .ex (c_api_Node t21.1)))],false,[]⟩ ⟨.same _,DLe.of_eq (congrArg D.agg (e_api_Node_c _).symm),trivial⟩ ⟨rfl,trivial⟩ (It2.store rfl rfl sz27 rfl rfl rfl rfl rfl rfl rfl rfl) ?_
  refine .un 2 ?_
  exact .dn
 refine Ok.seq ?_
 obtain⟨t23,h24,H⟩:=bindE H
 obtain⟨t25,h26,H⟩:=bindE H
 obtain⟨t27,h28,H⟩:=bindE H
 obtain⟨t29,h30,H⟩:=bindE H
 refine Ok.le (σ':=⟨[(1,(.bref 1 0)),(2,(.bref 2 0)),(3,(.v (.bool t13.2.1))),(4,(.v (.int .i64 t13.2.2))),(7,(.v (.int .i64 t21.2.2)))],[(1,(bxN t5)),(2,(.box .ex (c_api_Node t13.1)))]⟩) (.rf rfl rfl) ?_
 refine .dU [(1,(.bref 1 0)),(2,(.bref 2 0)),(3,(.v (.bool t13.2.1))),(4,(.v (.int .i64 t13.2.2))),(7,(.v (.int .i64 t21.2.2))),(10,(.v (.int .i64 t29.2.2)))] [(1,(bxN t5)),(2,(.box .ex (c_api_Node t13.1)))] [[],[],[],[],[2,3],[0,1,4],[5],[6],[6],[6],[],[7,10],[8],[9]] mixed ?_ ?_
 ·refine .uc ⟨true,[(1,(.bref 1 0))],[(1,(bxN t5))],(.agg (e_api_Node t5)),[],false,[]⟩ ⟨.same _,trivial⟩ ⟨rfl,trivial⟩ (It2.val rfl rfl (fun T hT => (VOk.g (VOk.to (d':=(.agg (e_api_Node t5))) (.loadBAgg rfl Try.underlying27 rfl sz27 rfl hT.1 rfl) (congrArg D.agg (e_api_Node_c t5).symm))))) ?_
  refine .uc ⟨true,[],[],(.agg (e_api_Node t23)),[],false,[]⟩ trivial trivial (It2.val rfl rfl (fun T hT => (GOk.call rfl rfl cl16 rfl (Fn.weak (ds:=[(S ([101]:Str)),(L 6 e_api_Node ([]:List T_api_Node))]) (watchbilllaw13_el.ok h24) ⟨.same _,.nil _,trivial⟩) rfl))) ?_
  refine .uc ⟨true,[],[],(.agg (e_api_Step t25)),[],false,[]⟩ trivial trivial (It2.val rfl rfl (fun T hT => (GOk.call rfl rfl cl17 rfl (watchbilllaw13_step.ok h26) rfl))) ?_
  refine .uc ⟨true,[],[],(.agg (e_api_Step t27)),[],false,[]⟩ trivial trivial (It2.val rfl rfl (fun T hT => (GOk.call rfl rfl cl17 rfl (watchbilllaw13_step.ok h28) rfl))) ?_
  refine .uc ⟨true,[(45,(.agg (e_api_Step t25))),(46,(.agg (e_api_Step t27)))],[],(L 9 e_api_Step ([t25,t27]:List T_api_Step)),[],false,[]⟩ ⟨.same _,.same _,trivial⟩ trivial (It2.val rfl rfl (fun T hT => (GOk.to (d':=(L 9 e_api_Step ([t25,t27]:List T_api_Step))) (GOk.lit rfl Try.underlying28 sz45 zs45 rfl rfl rfl rfl) rfl))) ?_
  refine .uc ⟨true,[(43,(.agg (e_api_Node t5))),(44,(.agg (e_api_Node t23))),(47,(L 9 e_api_Step ([t25,t27]:List T_api_Step)))],[],(.tup [(.agg (e_api_Node t29.1)),(.v (.bool t29.2.1)),(.v (.int .i64 t29.2.2))]),[],false,[]⟩ ⟨.same _,.same _,.same _,trivial⟩ trivial (It2.val rfl rfl (fun T hT => (GOk.call rfl rfl cl8 rfl (change_PutElement.ok h30) rfl))) ?_
  refine .un 5 ?_
  refine .uc ⟨true,[(8,(.bref 8 0)),(49,(.agg [(.v (.int .i64 t29.1.Kind)),(S t29.1.Name.Space),(S t29.1.Name.Local),(L 3 e_api_Attr t29.1.Attrs),(L 6 e_api_Node t29.1.Kids),(S t29.1.Text)]))],[(8,bx0)],.junk,[(8,(.box .ex (c_api_Node t29.1)))],false,[]⟩ ⟨.same _,DLe.of_eq (congrArg D.agg (e_api_Node_c _).symm),trivial⟩ ⟨rfl,trivial⟩ (It2.store rfl rfl sz27 rfl rfl rfl rfl rfl rfl rfl rfl) ?_
  refine .un 2 ?_
  exact .dn
 refine Ok.seq ?_
 obtain⟨t31,h32,H⟩:=bindE H
 obtain⟨t33,h34,H⟩:=bindE H
 refine Ok.le (σ':=⟨[(1,(.bref 1 0)),(2,(.bref 2 0)),(3,(.v (.bool t13.2.1))),(4,(.v (.int .i64 t13.2.2))),(7,(.v (.int .i64 t21.2.2))),(10,(.v (.int .i64 t29.2.2)))],[(1,(bxN t5)),(2,(.box .ex (c_api_Node t13.1)))]⟩) (.rf rfl rfl) ?_
 refine .dU [(1,(.bref 1 0)),(2,(.bref 2 0)),(3,(.v (.bool t13.2.1))),(4,(.v (.int .i64 t13.2.2))),(7,(.v (.int .i64 t21.2.2))),(10,(.v (.int .i64 t29.2.2))),(12,(.v (.int .i64 t33.2)))] [(1,(bxN t5)),(2,(.box .ex (c_api_Node t13.1)))] [[],[],[],[1,2],[0,3],[4],[5],[5],[],[6,8],[7]] mixed ?_ ?_
 ·refine .uc ⟨true,[(1,(.bref 1 0))],[(1,(bxN t5))],(.agg (e_api_Node t5)),[],false,[]⟩ ⟨.same _,trivial⟩ ⟨rfl,trivial⟩ (It2.val rfl rfl (fun T hT => (VOk.g (VOk.to (d':=(.agg (e_api_Node t5))) (.loadBAgg rfl Try.underlying27 rfl sz27 rfl hT.1 rfl) (congrArg D.agg (e_api_Node_c t5).symm))))) ?_
  refine .uc ⟨true,[],[],(.agg (e_api_Step t31)),[],false,[]⟩ trivial trivial (It2.val rfl rfl (fun T hT => (GOk.call rfl rfl cl17 rfl (watchbilllaw13_step.ok h32) rfl))) ?_
  refine .uc ⟨true,[],[],(.agg (e_api_Step (T_api_Step.mk 1 true (T_api_Name.mk ([]:Str) ([]:Str)) 1 false (T_api_Name.mk ([]:Str) ([]:Str)) ([]:Str)))),[],false,[]⟩ trivial trivial (It2.val rfl rfl (fun T hT => (VOk.g (VOk.to (d':=(.agg (e_api_Step (T_api_Step.mk 1 true (T_api_Name.mk ([]:Str) ([]:Str)) 1 false (T_api_Name.mk ([]:Str) ([]:Str)) ([]:Str))))) (.build [none,none,none,none,none,none,none,none,none] [(0,1),(1,1),(2,2),(4,1),(5,1),(6,2),(8,1)] rfl Try.underlying45 (fa45 Try.underlying45) zo45 rfl rfl) rfl)))) ?_
  refine .uc ⟨true,[(54,(.agg (e_api_Step t31))),(55,(.agg (e_api_Step (T_api_Step.mk 1 true (T_api_Name.mk ([]:Str) ([]:Str)) 1 false (T_api_Name.mk ([]:Str) ([]:Str)) ([]:Str)))))],[],(L 9 e_api_Step ([t31,(T_api_Step.mk 1 true (T_api_Name.mk ([]:Str) ([]:Str)) 1 false (T_api_Name.mk ([]:Str) ([]:Str)) ([]:Str))]:List T_api_Step)),[],false,[]⟩ ⟨.same _,.same _,trivial⟩ trivial (It2.val rfl rfl (fun T hT => (GOk.to (d':=(L 9 e_api_Step ([t31,(T_api_Step.mk 1 true (T_api_Name.mk ([]:Str) ([]:Str)) 1 false (T_api_Name.mk ([]:Str) ([]:Str)) ([]:Str))]:List T_api_Step))) (GOk.lit rfl Try.underlying28 sz45 zs45 rfl rfl rfl rfl) rfl))) ?_
  refine .uc ⟨true,[(53,(.agg (e_api_Node t5))),(56,(L 9 e_api_Step ([t31,(T_api_Step.mk 1 true (T_api_Name.mk ([]:Str) ([]:Str)) 1 false (T_api_Name.mk ([]:Str) ([]:Str)) ([]:Str))]:List T_api_Step)))],[],(.tup [(.agg (e_api_Node t33.1)),(.v (.int .i64 t33.2))]),[],false,[]⟩ ⟨.same _,.same _,trivial⟩ trivial (It2.val rfl rfl (fun T hT => (GOk.call rfl rfl cl15 rfl (change_Delete.ok h34) rfl))) ?_
  refine .un 4 ?_
  refine .uc ⟨true,[(11,(.bref 11 0)),(58,(.agg [(.v (.int .i64 t33.1.Kind)),(S t33.1.Name.Space),(S t33.1.Name.Local),(L 3 e_api_Attr t33.1.Attrs),(L 6 e_api_Node t33.1.Kids),(S t33.1.Text)]))],[(11,bx0)],.junk,[(11,(.box .ex (c_api_Node t33.1)))],false,[]⟩ ⟨.same _,DLe.of_eq (congrArg D.agg (e_api_Node_c _).symm),trivial⟩ ⟨rfl,trivial⟩ (It2.store rfl rfl sz27 rfl rfl rfl rfl rfl rfl rfl rfl) ?_
  refine .un 1 ?_
  exact .dn
 refine Ok.seq ?_
 obtain⟨t35,h36,H⟩:=bindE H
 obtain⟨t37,h38,H⟩:=bindE H
 obtain⟨t39,h40,H⟩:=bindE H
 refine Ok.le (σ':=⟨[(1,(.bref 1 0)),(2,(.bref 2 0)),(3,(.v (.bool t13.2.1))),(4,(.v (.int .i64 t13.2.2))),(7,(.v (.int .i64 t21.2.2))),(10,(.v (.int .i64 t29.2.2))),(12,(.v (.int .i64 t33.2)))],[(1,(bxN t5)),(2,(.box .ex (c_api_Node t13.1)))]⟩) (.rf rfl rfl) ?_
 refine .dU [(1,(.bref 1 0)),(2,(.bref 2 0)),(3,(.v (.bool t13.2.1))),(4,(.v (.int .i64 t13.2.2))),(7,(.v (.int .i64 t21.2.2))),(10,(.v (.int .i64 t29.2.2))),(12,(.v (.int .i64 t33.2))),(13,(.bref 13 0)),(14,(.v (.int .i64 t39.2)))] [(1,(bxN t5)),(2,(.box .ex (c_api_Node t13.1))),(13,(.box .ex (c_api_Node t39.1)))] [[],[],[],[1,2],[0,3],[4],[5],[5],[],[6,8],[7]] mixed ?_ ?_
 ·refine .uc ⟨true,[(1,(.bref 1 0))],[(1,(bxN t5))],(.agg (e_api_Node t5)),[],false,[]⟩ ⟨.same _,trivial⟩ ⟨rfl,trivial⟩ (It2.val rfl rfl (fun T hT => (VOk.g (VOk.to (d':=(.agg (e_api_Node t5))) (.loadBAgg rfl Try.underlying27 rfl sz27 rfl hT.1 rfl) (congrArg D.agg (e_api_Node_c t5).symm))))) ?_
  refine .uc ⟨true,[],[],(.agg (e_api_Step t35)),[],false,[]⟩ trivial trivial (It2.val rfl rfl (fun T hT => (GOk.call rfl rfl cl17 rfl (watchbilllaw13_step.ok h36) rfl))) ?_
  refine .uc ⟨true,[],[],(.agg (e_api_Step t37)),[],false,[]⟩ trivial trivial (It2.val rfl rfl (fun T hT => (GOk.call rfl rfl cl17 rfl (watchbilllaw13_step.ok h38) rfl))) ?_
  refine .uc ⟨true,[(62,(.agg (e_api_Step t35))),(63,(.agg (e_api_Step t37)))],[],(L 9 e_api_Step ([t35,t37]:List T_api_Step)),[],false,[]⟩ ⟨.same _,.same _,trivial⟩ trivial (It2.val rfl rfl (fun T hT => (GOk.to (d':=(L 9 e_api_Step ([t35,t37]:List T_api_Step))) (GOk.lit rfl Try.underlying28 sz45 zs45 rfl rfl rfl rfl) rfl))) ?_
  refine .uc ⟨true,[(61,(.agg (e_api_Node t5))),(64,(L 9 e_api_Step ([t35,t37]:List T_api_Step)))],[],(.tup [(.agg (e_api_Node t39.1)),(.v (.int .i64 t39.2))]),[],false,[]⟩ ⟨.same _,.same _,trivial⟩ trivial (It2.val rfl rfl (fun T hT => (GOk.call rfl rfl cl15 rfl (change_Delete.ok h40) rfl))) ?_
  refine .un 4 ?_
  refine .uc ⟨true,[(13,(.bref 13 0)),(66,(.agg [(.v (.int .i64 t39.1.Kind)),(S t39.1.Name.Space),(S t39.1.Name.Local),(L 3 e_api_Attr t39.1.Attrs),(L 6 e_api_Node t39.1.Kids),(S t39.1.Text)]))],[(13,bx0)],.junk,[(13,(.box .ex (c_api_Node t39.1)))],false,[]⟩ ⟨.same _,DLe.of_eq (congrArg D.agg (e_api_Node_c _).symm),trivial⟩ ⟨rfl,trivial⟩ (It2.store rfl rfl sz27 rfl rfl rfl rfl rfl rfl rfl rfl) ?_
  refine .un 1 ?_
  exact .dn
 refine Ok.seq ?_
 obtain⟨t41,h42,H⟩:=bindE H
 obtain⟨t43,h44,H⟩:=bindE H
 refine Ok.le (σ':=⟨[(1,(.bref 1 0)),(2,(.bref 2 0)),(3,(.v (.bool t13.2.1))),(4,(.v (.int .i64 t13.2.2))),(7,(.v (.int .i64 t21.2.2))),(10,(.v (.int .i64 t29.2.2))),(12,(.v (.int .i64 t33.2))),(13,(.bref 13 0)),(14,(.v (.int .i64 t39.2)))],[(1,(bxN t5)),(2,(.box .ex (c_api_Node t13.1))),(13,(.box .ex (c_api_Node t39.1)))]⟩) (.rf rfl rfl) ?_
 refine .dU [(2,(.bref 2 0)),(3,(.v (.bool t13.2.1))),(4,(.v (.int .i64 t13.2.2))),(7,(.v (.int .i64 t21.2.2))),(10,(.v (.int .i64 t29.2.2))),(12,(.v (.int .i64 t33.2))),(13,(.bref 13 0)),(14,(.v (.int .i64 t39.2))),(16,(.v (.bool t43.2.1))),(17,(.v (.int .i64 t43.2.2)))] [(2,(.box .ex (c_api_Node t13.1))),(13,(.box .ex (c_api_Node t39.1)))] [[],[],[],[2],[1,3],[0,4],[5],[6],[6],[6],[],[7,10],[8],[9]] mixed ?_ ?_
 ·refine .uc ⟨true,[(1,(.bref 1 0))],[(1,(bxN t5))],(.agg (e_api_Node t5)),[],false,[]⟩ ⟨.same _,trivial⟩ ⟨rfl,trivial⟩ (It2.val rfl rfl (fun T hT => (VOk.g (VOk.to (d':=(.agg (e_api_Node t5))) (.loadBAgg rfl Try.underlying27 rfl sz27 rfl hT.1 rfl) (congrArg D.agg (e_api_Node_c t5).symm))))) ?_
  refine .uc ⟨true,[],[],(.agg (e_api_Step t41)),[],false,[]⟩ trivial trivial (It2.val rfl rfl (fun T hT => (GOk.call rfl rfl cl17 rfl (watchbilllaw13_step.ok h42) rfl))) ?_
  refine .uc ⟨true,[],[],(.agg (e_api_Name (T_api_Name.mk ([]:Str) ([120]:Str)))),[],false,[]⟩ trivial trivial (It2.val rfl rfl (fun T hT => (VOk.g (VOk.to (d':=(.agg (e_api_Name (T_api_Name.mk ([]:Str) ([120]:Str))))) (.build [none,none] [(0,1),(1,1)] rfl Try.underlying23 (fa23 Try.underlying23) zo23 rfl rfl) rfl)))) ?_
  refine .uc ⟨true,[(71,(.agg (e_api_Name (T_api_Name.mk ([]:Str) ([120]:Str)))))],[],(.agg (e_api_Step (T_api_Step.mk 2 false (T_api_Name.mk ((T_api_Name.mk ([]:Str) ([120]:Str)).Space) ((T_api_Name.mk ([]:Str) ([120]:Str)).Local)) 0 false (T_api_Name.mk ([]:Str) ([]:Str)) ([]:Str)))),[],false,[]⟩ ⟨.same _,trivial⟩ trivial (It2.val rfl rfl (fun T hT => (VOk.g (VOk.to (d':=(.agg (e_api_Step (T_api_Step.mk 2 false (T_api_Name.mk ((T_api_Name.mk ([]:Str) ([120]:Str)).Space) ((T_api_Name.mk ([]:Str) ([120]:Str)).Local)) 0 false (T_api_Name.mk ([]:Str) ([]:Str)) ([]:Str))))) (.build [none,none,none,none,none,none,none,none,none] [(0,1),(1,1),(2,2),(4,1),(5,1),(6,2),(8,1)] rfl Try.underlying45 (fa45 Try.underlying45) zo45 rfl rfl) rfl)))) ?_
  refine .uc ⟨true,[(70,(.agg (e_api_Step t41))),(72,(.agg (e_api_Step (T_api_Step.mk 2 false (T_api_Name.mk ((T_api_Name.mk ([]:Str) ([120]:Str)).Space) ((T_api_Name.mk ([]:Str) ([120]:Str)).Local)) 0 false (T_api_Name.mk ([]:Str) ([]:Str)) ([]:Str)))))],[],(L 9 e_api_Step ([t41,(T_api_Step.mk 2 false (T_api_Name.mk ((T_api_Name.mk ([]:Str) ([120]:Str)).Space) ((T_api_Name.mk ([]:Str) ([120]:Str)).Local)) 0 false (T_api_Name.mk ([]:Str) ([]:Str)) ([]:Str))]:List T_api_Step)),[],false,[]⟩ ⟨.same _,.same _,trivial⟩ trivial (It2.val rfl rfl (fun T hT => (GOk.to (d':=(L 9 e_api_Step ([t41,(T_api_Step.mk 2 false (T_api_Name.mk ((T_api_Name.mk ([]:Str) ([120]:Str)).Space) ((T_api_Name.mk ([]:Str) ([120]:Str)).Local)) 0 false (T_api_Name.mk ([]:Str) ([]:Str)) ([]:Str))]:List T_api_Step))) (GOk.lit rfl Try.underlying28 sz45 zs45 rfl rfl rfl rfl) rfl))) ?_
  refine .uc ⟨true,[(69,(.agg (e_api_Node t5))),(73,(L 9 e_api_Step ([t41,(T_api_Step.mk 2 false (T_api_Name.mk ((T_api_Name.mk ([]:Str) ([120]:Str)).Space) ((T_api_Name.mk ([]:Str) ([120]:Str)).Local)) 0 false (T_api_Name.mk ([]:Str) ([]:Str)) ([]:Str))]:List T_api_Step)))],[],(.tup [(.agg (e_api_Node t43.1)),(.v (.bool t43.2.1)),(.v (.int .i64 t43.2.2))]),[],false,[]⟩ ⟨.same _,.same _,trivial⟩ trivial (It2.val rfl rfl (fun T hT => (GOk.call rfl rfl cl13 rfl (change_PutAttr.ok h44) rfl))) ?_
  refine .un 5 ?_
  refine .uc ⟨true,[(15,(.bref 15 0)),(75,(.agg [(.v (.int .i64 t43.1.Kind)),(S t43.1.Name.Space),(S t43.1.Name.Local),(L 3 e_api_Attr t43.1.Attrs),(L 6 e_api_Node t43.1.Kids),(S t43.1.Text)]))],[(15,bx0)],.junk,[(15,(.box .ex (c_api_Node t43.1)))],false,[]⟩ ⟨.same _,DLe.of_eq (congrArg D.agg (e_api_Node_c _).symm),trivial⟩ ⟨rfl,trivial⟩ (It2.store rfl rfl sz27 rfl rfl rfl rfl rfl rfl rfl rfl) ?_
  refine .un 2 ?_
  exact .dn
 refine Ok.seq ?_
 obtain⟨c46,H⟩:=assertE H
 refine Ok.region (σ':=⟨[(0,(.v (.bool ((((((((((((t13.1.Kids.length:Int) == 3) && ((((rd t13.1.Kids 1).Name).Local) == ([98]:Str))) && t13.2.1) && (t13.2.2 == 0)) && (t21.2.2 == 42)) && (t29.2.2 == 42)) && (t33.2 == 50)) && ((t39.1.Kids.length:Int) == 1)) && (t39.2 == 0)) && t43.2.1) && (t43.2.2 == 0)))))],[]⟩) ?_ ?_
 ·refine .rn 2 ?_
  refine .cv (VOk.lenL (e:=e_api_Node) (xs:=t13.1.Kids) rfl Try.underlying25 rfl) rfl rfl ?_
  refine .rn 2 ?_
  refine OpsOk.consI rfl rfl rfl (.one rfl) rfl (fun hw45 => (VOk.g (VOk.to (VOk.fieldB rfl Try.underlying27 rfl sz25 rfl rfl) rfl))) ?_
  refine OpsOk.consI rfl rfl rfl (.one rfl) rfl (fun hw45 => (GOk.fr (fr':=[(83,(.bref 2 4))]) ⟨DLe.of_eq (cT hw45).symm,trivial⟩ (VOk.g (VOk.loadB (d:=(L 6 e_api_Node t13.1.Kids)) rfl Try.underlying25 rfl rfl rfl rfl)))) ?_
  refine OpsOk.consI rfl rfl rfl (.one rfl) rfl (fun hw45 => (GOk.fr (fr':=[(84,(L 6 e_api_Node t13.1.Kids))]) ⟨DLe.of_eq (cT hw45).symm,trivial⟩ (VOk.g (VOk.indexL (sz:=6) (e:=e_api_Node) (xs:=t13.1.Kids) (i:=1) rfl Try.underlying25 sz27 rfl rfl (c46 hw45))))) ?_
  refine OpsOk.consI rfl rfl rfl (.one rfl) rfl (fun hw45 => (GOk.fr (fr':=[(85,(.fp (e_api_Node (rd t13.1.Kids 1)) 0))]) ⟨DLe.of_eq (cT hw45).symm,trivial⟩ (VOk.g (VOk.to (VOk.fieldFp rfl Try.underlying27 rfl sz23 rfl) rfl)))) ?_
  refine OpsOk.consI rfl rfl rfl (.one rfl) rfl (fun hw45 => (GOk.fr (fr':=[(86,(.fp (e_api_Node (rd t13.1.Kids 1)) 1))]) ⟨DLe.of_eq (cT hw45).symm,trivial⟩ (VOk.g (VOk.to (VOk.fieldFp rfl Try.underlying23 rfl sz9 rfl) rfl)))) ?_
  refine OpsOk.consI rfl rfl rfl (.one rfl) rfl (fun hw45 => (GOk.fr (fr':=[(87,(.fp (e_api_Node (rd t13.1.Kids 1)) 2))]) ⟨DLe.of_eq (cT hw45).symm,trivial⟩ (VOk.g (VOk.loadFp (d:=(S (((rd t13.1.Kids 1).Name).Local))) rfl Try.underlying9 rfl rfl rfl)))) ?_
  refine OpsOk.consI rfl rfl rfl (.one rfl) rfl (fun hw45 => (GOk.fr (fr':=[(88,(S (((rd t13.1.Kids 1).Name).Local)))]) ⟨DLe.of_eq (cT hw45).symm,trivial⟩ (VOk.g (VOk.strOp (op:=.eql) (a:=((rd t13.1.Kids 1).Name).Local) (b:=([98]:Str)) rfl rfl rfl rfl)))) ?_
  refine .cv (VOk.to (VOk.pickI (b:=((t13.1.Kids.length:Int) == 3)) (p:=((((rd t13.1.Kids 1).Name).Local) == ([98]:Str))) (q:=false) rfl rfl (fun hp47 => (cT (t_beq hp47))) (fun hp47 => rfl)) (pickAnd ((t13.1.Kids.length:Int) == 3) ((((rd t13.1.Kids 1).Name).Local) == ([98]:Str)))) rfl rfl ?_
  refine .rn 1 ?_
  refine OpsOk.consI rfl rfl rfl (.one rfl) rfl (fun hw48 => (VOk.g (VOk.mv (d:=(.v (.bool t13.2.1))) rfl rfl))) ?_
  refine .cv (VOk.to (VOk.pickI (b:=(((t13.1.Kids.length:Int) == 3) && ((((rd t13.1.Kids 1).Name).Local) == ([98]:Str)))) (p:=t13.2.1) (q:=false) rfl rfl (fun hp49 => (cT (t_beq hp49))) (fun hp49 => rfl)) (pickAnd (((t13.1.Kids.length:Int) == 3) && ((((rd t13.1.Kids 1).Name).Local) == ([98]:Str))) t13.2.1)) rfl rfl ?_
  refine .rn 1 ?_
  refine OpsOk.consI rfl rfl rfl (.one rfl) rfl (fun hw50 => (VOk.g (VOk.mv (d:=(.v (.int .i64 t13.2.2))) rfl rfl))) ?_
  refine OpsOk.consI rfl rfl rfl (.one rfl) rfl (fun hw50 => (GOk.fr (fr':=[(95,(.v (.int .i64 t13.2.2)))]) ⟨DLe.of_eq (cT hw50).symm,trivial⟩ (VOk.g (VOk.arith (op:=.eql) (k:=.i64) (a:=t13.2.2) (b:=0) rfl rfl rfl rfl)))) ?_
  refine .cv (VOk.to (VOk.pickI (b:=((((t13.1.Kids.length:Int) == 3) && ((((rd t13.1.Kids 1).Name).Local) == ([98]:Str))) && t13.2.1)) (p:=(t13.2.2 == 0)) (q:=false) rfl rfl (fun hp51 => (cT (t_beq hp51))) (fun hp51 => rfl)) (pickAnd ((((t13.1.Kids.length:Int) == 3) && ((((rd t13.1.Kids 1).Name).Local) == ([98]:Str))) && t13.2.1) (t13.2.2 == 0))) rfl rfl ?_
  refine .rn 1 ?_
  refine OpsOk.consI rfl rfl rfl (.one rfl) rfl (fun hw52 => (VOk.g (VOk.mv (d:=(.v (.int .i64 t21.2.2))) rfl rfl))) ?_
  refine OpsOk.consI rfl rfl rfl (.one rfl) rfl (fun hw52 => (GOk.fr (fr':=[(99,(.v (.int .i64 t21.2.2)))]) ⟨DLe.of_eq (cT hw52).symm,trivial⟩ (VOk.g (VOk.arith (op:=.eql) (k:=.i64) (a:=t21.2.2) (b:=42) rfl rfl rfl rfl)))) ?_
  refine .cv (VOk.to (VOk.pickI (b:=(((((t13.1.Kids.length:Int) == 3) && ((((rd t13.1.Kids 1).Name).Local) == ([98]:Str))) && t13.2.1) && (t13.2.2 == 0))) (p:=(t21.2.2 == 42)) (q:=false) rfl rfl (fun hp53 => (cT (t_beq hp53))) (fun hp53 => rfl)) (pickAnd (((((t13.1.Kids.length:Int) == 3) && ((((rd t13.1.Kids 1).Name).Local) == ([98]:Str))) && t13.2.1) && (t13.2.2 == 0)) (t21.2.2 == 42))) rfl rfl ?_
  refine .rn 1 ?_
  refine OpsOk.consI rfl rfl rfl (.one rfl) rfl (fun hw54 => (VOk.g (VOk.mv (d:=(.v (.int .i64 t29.2.2))) rfl rfl))) ?_
  refine OpsOk.consI rfl rfl rfl (.one rfl) rfl (fun hw54 => (GOk.fr (fr':=[(103,(.v (.int .i64 t29.2.2)))]) ⟨DLe.of_eq (cT hw54).symm,trivial⟩ (VOk.g (VOk.arith (op:=.eql) (k:=.i64) (a:=t29.2.2) (b:=42) rfl rfl rfl rfl)))) ?_
  refine .cv (VOk.to (VOk.pickI (b:=((((((t13.1.Kids.length:Int) == 3) && ((((rd t13.1.Kids 1).Name).Local) == ([98]:Str))) && t13.2.1) && (t13.2.2 == 0)) && (t21.2.2 == 42))) (p:=(t29.2.2 == 42)) (q:=false) rfl rfl (fun hp55 => (cT (t_beq hp55))) (fun hp55 => rfl)) (pickAnd ((((((t13.1.Kids.length:Int) == 3) && ((((rd t13.1.Kids 1).Name).Local) == ([98]:Str))) && t13.2.1) && (t13.2.2 == 0)) && (t21.2.2 == 42)) (t29.2.2 == 42))) rfl rfl ?_
  refine .rn 1 ?_
  refine OpsOk.consI rfl rfl rfl (.one rfl) rfl (fun hw56 => (VOk.g (VOk.mv (d:=(.v (.int .i64 t33.2))) rfl rfl))) ?_
  refine OpsOk.consI rfl rfl rfl (.one rfl) rfl (fun hw56 => (GOk.fr (fr':=[(107,(.v (.int .i64 t33.2)))]) ⟨DLe.of_eq (cT hw56).symm,trivial⟩ (VOk.g (VOk.arith (op:=.eql) (k:=.i64) (a:=t33.2) (b:=50) rfl rfl rfl rfl)))) ?_
  refine .cv (VOk.to (VOk.pickI (b:=(((((((t13.1.Kids.length:Int) == 3) && ((((rd t13.1.Kids 1).Name).Local) == ([98]:Str))) && t13.2.1) && (t13.2.2 == 0)) && (t21.2.2 == 42)) && (t29.2.2 == 42))) (p:=(t33.2 == 50)) (q:=false) rfl rfl (fun hp57 => (cT (t_beq hp57))) (fun hp57 => rfl)) (pickAnd (((((((t13.1.Kids.length:Int) == 3) && ((((rd t13.1.Kids 1).Name).Local) == ([98]:Str))) && t13.2.1) && (t13.2.2 == 0)) && (t21.2.2 == 42)) && (t29.2.2 == 42)) (t33.2 == 50))) rfl rfl ?_
  refine .rn 1 ?_
  refine OpsOk.consI rfl rfl rfl (.one rfl) rfl (fun hw58 => (VOk.g (VOk.to (VOk.fieldB rfl Try.underlying27 rfl sz25 rfl rfl) rfl))) ?_
  refine OpsOk.consI rfl rfl rfl (.one rfl) rfl (fun hw58 => (GOk.fr (fr':=[(111,(.bref 13 4))]) ⟨DLe.of_eq (cT hw58).symm,trivial⟩ (VOk.g (VOk.loadB (d:=(L 6 e_api_Node t39.1.Kids)) rfl Try.underlying25 rfl rfl rfl rfl)))) ?_
  refine OpsOk.consI rfl rfl rfl (.one rfl) rfl (fun hw58 => (GOk.fr (fr':=[(112,(L 6 e_api_Node t39.1.Kids))]) ⟨DLe.of_eq (cT hw58).symm,trivial⟩ (VOk.g (VOk.lenL (e:=e_api_Node) (xs:=t39.1.Kids) rfl Try.underlying25 rfl)))) ?_
  refine OpsOk.consI rfl rfl rfl (.one rfl) rfl (fun hw58 => (GOk.fr (fr':=[(113,(.v (.int .i64 (t39.1.Kids.length:Int))))]) ⟨DLe.of_eq (cT hw58).symm,trivial⟩ (VOk.g (VOk.arith (op:=.eql) (k:=.i64) (a:=(t39.1.Kids.length:Int)) (b:=1) rfl rfl rfl rfl)))) ?_
  refine .cv (VOk.to (VOk.pickI (b:=((((((((t13.1.Kids.length:Int) == 3) && ((((rd t13.1.Kids 1).Name).Local) == ([98]:Str))) && t13.2.1) && (t13.2.2 == 0)) && (t21.2.2 == 42)) && (t29.2.2 == 42)) && (t33.2 == 50))) (p:=((t39.1.Kids.length:Int) == 1)) (q:=false) rfl rfl (fun hp59 => (cT (t_beq hp59))) (fun hp59 => rfl)) (pickAnd ((((((((t13.1.Kids.length:Int) == 3) && ((((rd t13.1.Kids 1).Name).Local) == ([98]:Str))) && t13.2.1) && (t13.2.2 == 0)) && (t21.2.2 == 42)) && (t29.2.2 == 42)) && (t33.2 == 50)) ((t39.1.Kids.length:Int) == 1))) rfl rfl ?_
  refine .rn 1 ?_
  refine OpsOk.consI rfl rfl rfl (.one rfl) rfl (fun hw60 => (VOk.g (VOk.mv (d:=(.v (.int .i64 t39.2))) rfl rfl))) ?_
  refine OpsOk.consI rfl rfl rfl (.one rfl) rfl (fun hw60 => (GOk.fr (fr':=[(117,(.v (.int .i64 t39.2)))]) ⟨DLe.of_eq (cT hw60).symm,trivial⟩ (VOk.g (VOk.arith (op:=.eql) (k:=.i64) (a:=t39.2) (b:=0) rfl rfl rfl rfl)))) ?_
  refine .cv (VOk.to (VOk.pickI (b:=(((((((((t13.1.Kids.length:Int) == 3) && ((((rd t13.1.Kids 1).Name).Local) == ([98]:Str))) && t13.2.1) && (t13.2.2 == 0)) && (t21.2.2 == 42)) && (t29.2.2 == 42)) && (t33.2 == 50)) && ((t39.1.Kids.length:Int) == 1))) (p:=(t39.2 == 0)) (q:=false) rfl rfl (fun hp61 => (cT (t_beq hp61))) (fun hp61 => rfl)) (pickAnd (((((((((t13.1.Kids.length:Int) == 3) && ((((rd t13.1.Kids 1).Name).Local) == ([98]:Str))) && t13.2.1) && (t13.2.2 == 0)) && (t21.2.2 == 42)) && (t29.2.2 == 42)) && (t33.2 == 50)) && ((t39.1.Kids.length:Int) == 1)) (t39.2 == 0))) rfl rfl ?_
  refine .rn 1 ?_
  refine OpsOk.consI rfl rfl rfl (.one rfl) rfl (fun hw62 => (VOk.g (VOk.mv (d:=(.v (.bool t43.2.1))) rfl rfl))) ?_
  refine .cv (VOk.to (VOk.pickI (b:=((((((((((t13.1.Kids.length:Int) == 3) && ((((rd t13.1.Kids 1).Name).Local) == ([98]:Str))) && t13.2.1) && (t13.2.2 == 0)) && (t21.2.2 == 42)) && (t29.2.2 == 42)) && (t33.2 == 50)) && ((t39.1.Kids.length:Int) == 1)) && (t39.2 == 0))) (p:=t43.2.1) (q:=false) rfl rfl (fun hp63 => (cT (t_beq hp63))) (fun hp63 => rfl)) (pickAnd ((((((((((t13.1.Kids.length:Int) == 3) && ((((rd t13.1.Kids 1).Name).Local) == ([98]:Str))) && t13.2.1) && (t13.2.2 == 0)) && (t21.2.2 == 42)) && (t29.2.2 == 42)) && (t33.2 == 50)) && ((t39.1.Kids.length:Int) == 1)) && (t39.2 == 0)) t43.2.1)) rfl rfl ?_
  refine .rn 1 ?_
  refine OpsOk.consI rfl rfl rfl (.one rfl) rfl (fun hw64 => (VOk.g (VOk.mv (d:=(.v (.int .i64 t43.2.2))) rfl rfl))) ?_
  refine OpsOk.consI rfl rfl rfl (.one rfl) rfl (fun hw64 => (GOk.fr (fr':=[(124,(.v (.int .i64 t43.2.2)))]) ⟨DLe.of_eq (cT hw64).symm,trivial⟩ (VOk.g (VOk.arith (op:=.eql) (k:=.i64) (a:=t43.2.2) (b:=0) rfl rfl rfl rfl)))) ?_
  refine .cv (VOk.to (VOk.pickI (b:=(((((((((((t13.1.Kids.length:Int) == 3) && ((((rd t13.1.Kids 1).Name).Local) == ([98]:Str))) && t13.2.1) && (t13.2.2 == 0)) && (t21.2.2 == 42)) && (t29.2.2 == 42)) && (t33.2 == 50)) && ((t39.1.Kids.length:Int) == 1)) && (t39.2 == 0)) && t43.2.1)) (p:=(t43.2.2 == 0)) (q:=false) rfl rfl (fun hp65 => (cT (t_beq hp65))) (fun hp65 => rfl)) (pickAnd (((((((((((t13.1.Kids.length:Int) == 3) && ((((rd t13.1.Kids 1).Name).Local) == ([98]:Str))) && t13.2.1) && (t13.2.2 == 0)) && (t21.2.2 == 42)) && (t29.2.2 == 42)) && (t33.2 == 50)) && ((t39.1.Kids.length:Int) == 1)) && (t39.2 == 0)) && t43.2.1) (t43.2.2 == 0))) rfl rfl ?_
  refine .rn 1 ?_
  exact .dn
 refine Ok.ret ?_
 obtain rfl:=Option.some.inj H
 exact⟨.inl rfl,⟨_,(.cons (.tmp rfl) .nil),rfl⟩,trivial⟩
def watchbilllaw13_ChangeDelete.j0 (k:Nat) (a0:T_api_Node) (a1:T_api_Node) (a2:List T_api_Step):Option Bool:=((change_PutElement k a0 a1 a2).bind fun (t5:T_api_Node × Bool × Int) => (((if (((t5.2.2 != 0) || (!t5.2.1)) == false)=true then tree_Right k a0 else some default)).bind fun (t10:Bool) => (if (((t5.2.2 != 0) || (!t5.2.1)) || (!t10))=true then some true else ((change_Delete k t5.1 a2).bind fun (t13:T_api_Node × Int) => (((if (((t13.2 == 50) == false) && ((t13.2 == 0) == true))=true then watchbillref04_Equal k t13.1 a0 else some default)).bind fun (t17:Bool) => some ((t13.2 == 50) || ((t13.2 == 0) && t17)))))))
def watchbilllaw13_ChangeDelete (k:Nat) (a0:T_api_Node) (a1:T_api_Node) (a2:List T_api_Step):Option Bool:=((watchbilllaw13_awake k).bind fun (t1:Bool) => (if (!t1)=true then some false else ((watchbilllaw13_few k a0 a1 a2).bind fun (t3:Bool) => (if (!t3)=true then some true else ((change_Delete k a0 a2).bind fun (t22:T_api_Node × Int) => (if (t22.2 == 0)=true then ((match_Select k t22.1 a2).bind fun (t24:(List Int) × Int) => ((change_Delete k t22.1 a2).bind fun (t26:T_api_Node × Int) => (if (((t24.2 != 5) || (t26.2 != 5)) || (t26.1.Kind != 0))=true then some false else watchbilllaw13_ChangeDelete.j0 k a0 a1 a2))) else watchbilllaw13_ChangeDelete.j0 k a0 a1 a2))))))
theorem watchbilllaw13_ChangeDelete.ok {k:Nat} {a0:T_api_Node} {a1:T_api_Node} {a2:List T_api_Step} {r:Bool} (H:watchbilllaw13_ChangeDelete k a0 a1 a2=some r):Vx.Fn Try.prog 5 [(.agg (e_api_Node a0)),(.agg (e_api_Node a1)),(L 9 e_api_Step a2)] [] (.v (.bool r)) []:=by
 unfold watchbilllaw13_ChangeDelete at H
 refine Vx.Fn.of_okR Try.func5 rfl (Nat.le_of_ble_eq_true rfl) ?_
 refine Ok.seq ?_
 refine Ok.region (σ':=⟨[(2,(L 9 e_api_Step a2)),(3,(.bref 3 0)),(4,(.bref 4 0))],[(3,(bxN a0)),(4,(bxN a1))]⟩) ?_ ?_
 ·refine OpsOk.cut1 0 (.agg (c_api_Node a0)) (DLe.of_eq (congrArg D.agg (e_api_Node_c _).symm)) ?_
  refine .rn 1 ?_
  refine OpsOk.cut1 1 (.agg (c_api_Node a1)) (DLe.of_eq (congrArg D.agg (e_api_Node_c _).symm)) ?_
  refine .rn 2 ?_
  exact .dn
 refine Ok.seq ?_
 refine Ok.seq ?_
 obtain⟨t1,h2,H⟩:=bindE H
 refine Ok.region (σ':=⟨[(2,(L 9 e_api_Step a2)),(3,(.bref 3 0)),(4,(.bref 4 0)),(19,(.v (.bool (!t1))))],[(3,(bxN a0)),(4,(bxN a1))]⟩) ?_ ?_
 ·refine .cg (GOk.call rfl rfl cl6 rfl (watchbilllaw13_awake.ok h2) rfl) rfl rfl ?_
  refine .rn 1 ?_
  exact .dn
 refine Ok.test (b:=(!t1)) rfl (fun hb35 => ?_) (fun hb35 => ?_)
 ·replace H:=ifT H hb35
  refine Ok.seq ?_
  refine .rg [(6,(.v (.bool false)))] [] ?_
  refine Ok.ret ?_
  obtain rfl:=Option.some.inj H
  exact⟨.inl rfl,⟨_,(.cons (.tmp rfl) .nil),rfl⟩,trivial⟩
 ·replace H:=ifF H hb35
  refine Ok.skip ?_
  refine Ok.seq ?_
  refine Ok.seq ?_
  obtain⟨t3,h4,H⟩:=bindE H
  refine Ok.region (σ':=⟨[(2,(L 9 e_api_Step a2)),(3,(.bref 3 0)),(4,(.bref 4 0)),(24,(.v (.bool (!t3))))],[(3,(bxN a0)),(4,(bxN a1))]⟩) ?_ ?_
  ·refine .cv (VOk.to (d':=(.agg (e_api_Node a0))) (.loadBAgg rfl Try.underlying27 rfl sz27 rfl rfl rfl) (congrArg D.agg (e_api_Node_c a0).symm)) rfl rfl ?_
   refine .cv (VOk.to (d':=(.agg (e_api_Node a1))) (.loadBAgg rfl Try.underlying27 rfl sz27 rfl rfl rfl) (congrArg D.agg (e_api_Node_c a1).symm)) rfl rfl ?_
   refine .rn 1 ?_
   refine .cg (GOk.call rfl rfl cl7 rfl (watchbilllaw13_few.ok h4) rfl) rfl rfl ?_
   refine .rn 1 ?_
   exact .dn
  refine Ok.test (b:=(!t3)) rfl (fun hb34 => ?_) (fun hb34 => ?_)
  ·replace H:=ifT H hb34
   refine Ok.seq ?_
   refine .rg [(6,(.v (.bool true)))] [] ?_
   refine Ok.ret ?_
   obtain rfl:=Option.some.inj H
   exact⟨.inl rfl,⟨_,(.cons (.tmp rfl) .nil),rfl⟩,trivial⟩
  ·replace H:=ifF H hb34
   refine Ok.skip ?_
   refine Ok.meet (fun σ => σ=⟨[(2,(L 9 e_api_Step a2)),(3,(.bref 3 0)),(4,(.bref 4 0))],[(3,(bxN a0)),(4,(bxN a1))]⟩ ∧ watchbilllaw13_ChangeDelete.j0 k a0 a1 a2=some r) ?_ ?_
   ·refine Ok.seq ?_
    obtain⟨t22,h23,H⟩:=bindE H
    refine Ok.region (σ':=⟨[(2,(L 9 e_api_Step a2)),(3,(.bref 3 0)),(4,(.bref 4 0)),(7,(.bref 7 0)),(8,(.v (.int .i64 t22.2)))],[(3,(bxN a0)),(4,(bxN a1)),(7,(.box .ex (c_api_Node t22.1)))]⟩) ?_ ?_
    ·refine .cv (VOk.to (d':=(.agg (e_api_Node a0))) (.loadBAgg rfl Try.underlying27 rfl sz27 rfl rfl rfl) (congrArg D.agg (e_api_Node_c a0).symm)) rfl rfl ?_
     refine .rn 1 ?_
     refine .cg (GOk.call rfl rfl cl15 rfl (change_Delete.ok h23) rfl) rfl rfl ?_
     refine .rn 4 ?_
     refine OpsOk.cut1 29 (.agg [(.v (.int .i64 t22.1.Kind)),(S t22.1.Name.Space),(S t22.1.Name.Local),(L 3 e_api_Attr t22.1.Attrs),(L 6 e_api_Node t22.1.Kids),(S t22.1.Text)]) (DLe.of_eq (congrArg D.agg (e_api_Node_c _).symm)) ?_
     refine .rn 2 ?_
     exact .dn
    refine Ok.seq ?_
    refine .rg [(2,(L 9 e_api_Step a2)),(3,(.bref 3 0)),(4,(.bref 4 0)),(7,(.bref 7 0)),(32,(.v (.bool (t22.2 == 0))))] [(3,(bxN a0)),(4,(bxN a1)),(7,(.box .ex (c_api_Node t22.1)))] ?_
    refine Ok.test (b:=(t22.2 == 0)) rfl (fun hb33 => ?_) (fun hb33 => ?_)
    ·replace H:=ifT H hb33
     refine Ok.seq ?_
     obtain⟨t24,h25,H⟩:=bindE H
     refine Ok.region (σ':=⟨[(2,(L 9 e_api_Step a2)),(3,(.bref 3 0)),(4,(.bref 4 0)),(7,(.bref 7 0)),(10,(.v (.int .i64 t24.2)))],[(3,(bxN a0)),(4,(bxN a1)),(7,(.box .ex (c_api_Node t22.1)))]⟩) ?_ ?_
     ·refine .cv (VOk.to (d':=(.agg (e_api_Node t22.1))) (.loadBAgg rfl Try.underlying27 rfl sz27 rfl rfl rfl) (congrArg D.agg (e_api_Node_c t22.1).symm)) rfl rfl ?_
      refine .rn 1 ?_
      refine .cg (GOk.call rfl rfl cl9 rfl (match_Select.ok h25) rfl) rfl rfl ?_
      refine .rn 5 ?_
      exact .dn
     refine Ok.seq ?_
     obtain⟨t26,h27,H⟩:=bindE H
     refine Ok.region (σ':=⟨[(2,(L 9 e_api_Step a2)),(3,(.bref 3 0)),(4,(.bref 4 0)),(10,(.v (.int .i64 t24.2))),(11,(.bref 11 0)),(12,(.v (.int .i64 t26.2)))],[(3,(bxN a0)),(4,(bxN a1)),(11,(.box .ex (c_api_Node t26.1)))]⟩) ?_ ?_
     ·refine .cv (VOk.to (d':=(.agg (e_api_Node t22.1))) (.loadBAgg rfl Try.underlying27 rfl sz27 rfl rfl rfl) (congrArg D.agg (e_api_Node_c t22.1).symm)) rfl rfl ?_
      refine .rn 1 ?_
      refine .cg (GOk.call rfl rfl cl15 rfl (change_Delete.ok h27) rfl) rfl rfl ?_
      refine .rn 4 ?_
      refine OpsOk.cut1 43 (.agg [(.v (.int .i64 t26.1.Kind)),(S t26.1.Name.Space),(S t26.1.Name.Local),(L 3 e_api_Attr t26.1.Attrs),(L 6 e_api_Node t26.1.Kids),(S t26.1.Text)]) (DLe.of_eq (congrArg D.agg (e_api_Node_c _).symm)) ?_
      refine .rn 2 ?_
      exact .dn
     refine Ok.seq ?_
     refine Ok.region (σ':=⟨[(2,(L 9 e_api_Step a2)),(3,(.bref 3 0)),(4,(.bref 4 0)),(55,(.v (.bool (((t24.2 != 5) || (t26.2 != 5)) || (t26.1.Kind != 0)))))],[(3,(bxN a0)),(4,(bxN a1))]⟩) ?_ ?_
     ·refine .rn 3 ?_
      refine OpsOk.consI rfl rfl rfl (.one rfl) rfl (fun hw28 => (VOk.g (VOk.mv (d:=(.v (.int .i64 t26.2))) rfl rfl))) ?_
      refine OpsOk.consI rfl rfl rfl (.one rfl) rfl (fun hw28 => (GOk.fr (fr':=[(48,(.v (.int .i64 t26.2)))]) ⟨DLe.of_eq (cT hw28).symm,trivial⟩ (VOk.g (VOk.arith (op:=.neq) (k:=.i64) (a:=t26.2) (b:=5) rfl rfl rfl rfl)))) ?_
      refine .cv (VOk.to (VOk.pickI (b:=(t24.2 != 5)) (p:=true) (q:=(t26.2 != 5)) rfl rfl (fun hp29 => rfl) (fun hp29 => (cT (f_beq hp29)))) (pickOr (t24.2 != 5) (t26.2 != 5))) rfl rfl ?_
      refine .rn 1 ?_
      refine OpsOk.consI rfl rfl rfl (.one rfl) rfl (fun hw30 => (VOk.g (VOk.to (VOk.fieldB rfl Try.underlying27 rfl sz3 rfl rfl) rfl))) ?_
      refine OpsOk.consI rfl rfl rfl (.one rfl) rfl (fun hw30 => (GOk.fr (fr':=[(52,(.bref 11 0))]) ⟨DLe.of_eq (cT hw30).symm,trivial⟩ (VOk.g (VOk.loadB (d:=(.v (.int .i64 t26.1.Kind))) rfl Try.underlying3 rfl rfl rfl rfl)))) ?_
      refine OpsOk.consI rfl rfl rfl (.one rfl) rfl (fun hw30 => (GOk.fr (fr':=[(53,(.v (.int .i64 t26.1.Kind)))]) ⟨DLe.of_eq (cT hw30).symm,trivial⟩ (VOk.g (VOk.arith (op:=.neq) (k:=.i64) (a:=t26.1.Kind) (b:=0) rfl rfl rfl rfl)))) ?_
      refine .cv (VOk.to (VOk.pickI (b:=((t24.2 != 5) || (t26.2 != 5))) (p:=true) (q:=(t26.1.Kind != 0)) rfl rfl (fun hp31 => rfl) (fun hp31 => (cT (f_beq hp31)))) (pickOr ((t24.2 != 5) || (t26.2 != 5)) (t26.1.Kind != 0))) rfl rfl ?_
      exact .dn
     refine Ok.test (b:=(((t24.2 != 5) || (t26.2 != 5)) || (t26.1.Kind != 0))) rfl (fun hb32 => ?_) (fun hb32 => ?_)
     ·replace H:=ifT H hb32
      refine Ok.seq ?_
      refine .rg [(6,(.v (.bool false)))] [] ?_
      refine Ok.ret ?_
      obtain rfl:=Option.some.inj H
      exact⟨.inl rfl,⟨_,(.cons (.tmp rfl) .nil),rfl⟩,trivial⟩
     ·replace H:=ifF H hb32
      refine Ok.le (σ':=⟨[(2,(L 9 e_api_Step a2)),(3,(.bref 3 0)),(4,(.bref 4 0))],[(3,(bxN a0)),(4,(bxN a1))]⟩) (.rf rfl rfl) ?_
      refine Ok.skip ?_
      exact⟨rfl,H⟩
    ·replace H:=ifF H hb33
     refine Ok.le (σ':=⟨[(2,(L 9 e_api_Step a2)),(3,(.bref 3 0)),(4,(.bref 4 0))],[(3,(bxN a0)),(4,(bxN a1))]⟩) (.rf rfl rfl) ?_
     refine Ok.skip ?_
     exact⟨rfl,H⟩
   ·rintro σ ⟨rfl,H⟩
    unfold watchbilllaw13_ChangeDelete.j0 at H
    refine Ok.seq ?_
    obtain⟨t5,h6,H⟩:=bindE H
    refine Ok.region (σ':=⟨[(2,(L 9 e_api_Step a2)),(3,(.bref 3 0)),(13,(.bref 13 0)),(14,(.v (.bool t5.2.1))),(15,(.v (.int .i64 t5.2.2)))],[(3,(bxN a0)),(13,(.box .ex (c_api_Node t5.1)))]⟩) ?_ ?_
    ·refine .cv (VOk.to (d':=(.agg (e_api_Node a0))) (.loadBAgg rfl Try.underlying27 rfl sz27 rfl rfl rfl) (congrArg D.agg (e_api_Node_c a0).symm)) rfl rfl ?_
     refine .cv (VOk.to (d':=(.agg (e_api_Node a1))) (.loadBAgg rfl Try.underlying27 rfl sz27 rfl rfl rfl) (congrArg D.agg (e_api_Node_c a1).symm)) rfl rfl ?_
     refine .rn 1 ?_
     refine .cg (GOk.call rfl rfl cl8 rfl (change_PutElement.ok h6) rfl) rfl rfl ?_
     refine .rn 5 ?_
     refine OpsOk.cut1 61 (.agg [(.v (.int .i64 t5.1.Kind)),(S t5.1.Name.Space),(S t5.1.Name.Local),(L 3 e_api_Attr t5.1.Attrs),(L 6 e_api_Node t5.1.Kids),(S t5.1.Text)]) (DLe.of_eq (congrArg D.agg (e_api_Node_c _).symm)) ?_
     refine .rn 3 ?_
     exact .dn
    refine Ok.seq ?_
    refine Ok.seq ?_
    obtain⟨t10,h11,H⟩:=bindE H
    refine Ok.region (σ':=⟨[(2,(L 9 e_api_Step a2)),(3,(.bref 3 0)),(13,(.bref 13 0)),(74,(.v (.bool (((t5.2.2 != 0) || (!t5.2.1)) || (!t10)))))],[(3,(bxN a0)),(13,(.box .ex (c_api_Node t5.1)))]⟩) ?_ ?_
    ·refine .rn 3 ?_
     refine OpsOk.consI rfl rfl rfl (.one rfl) rfl (fun hw7 => (VOk.g (VOk.mv (d:=(.v (.bool t5.2.1))) rfl rfl))) ?_
     refine OpsOk.consI rfl rfl rfl (.one rfl) rfl (fun hw7 => (GOk.fr (fr':=[(67,(.v (.bool t5.2.1)))]) ⟨DLe.of_eq (cT hw7).symm,trivial⟩ (VOk.g (VOk.not (b:=t5.2.1) rfl rfl)))) ?_
     refine .cv (VOk.to (VOk.pickI (b:=(t5.2.2 != 0)) (p:=true) (q:=(!t5.2.1)) rfl rfl (fun hp8 => rfl) (fun hp8 => (cT (f_beq hp8)))) (pickOr (t5.2.2 != 0) (!t5.2.1))) rfl rfl ?_
     refine .rn 1 ?_
     refine OpsOk.consI rfl rfl rfl (.one rfl) rfl (fun hw9 => (VOk.g (VOk.to (d':=(.agg (e_api_Node a0))) (.loadBAgg rfl Try.underlying27 rfl sz27 rfl rfl rfl) (congrArg D.agg (e_api_Node_c a0).symm)))) ?_
     refine OpsOk.consI rfl rfl rfl (.one rfl) rfl (fun hw9 => (GOk.fr (fr':=[(71,(.agg (e_api_Node a0)))]) ⟨DLe.of_eq (cT hw9).symm,trivial⟩ (GOk.call rfl rfl cl12 rfl (tree_Right.ok (ifT h11 hw9)) rfl))) ?_
     refine OpsOk.consI rfl rfl rfl (.one rfl) rfl (fun hw9 => (GOk.fr (fr':=[(72,(.v (.bool t10)))]) ⟨DLe.of_eq (cT hw9).symm,trivial⟩ (VOk.g (VOk.not (b:=t10) rfl rfl)))) ?_
     refine .cv (VOk.to (VOk.pickI (b:=((t5.2.2 != 0) || (!t5.2.1))) (p:=true) (q:=(!t10)) rfl rfl (fun hp12 => rfl) (fun hp12 => (cT (f_beq hp12)))) (pickOr ((t5.2.2 != 0) || (!t5.2.1)) (!t10))) rfl rfl ?_
     exact .dn
    refine Ok.test (b:=(((t5.2.2 != 0) || (!t5.2.1)) || (!t10))) rfl (fun hb21 => ?_) (fun hb21 => ?_)
    ·replace H:=ifT H hb21
     refine Ok.seq ?_
     refine .rg [(6,(.v (.bool true)))] [] ?_
     refine Ok.ret ?_
     obtain rfl:=Option.some.inj H
     exact⟨.inl rfl,⟨_,(.cons (.tmp rfl) .nil),rfl⟩,trivial⟩
    ·replace H:=ifF H hb21
     refine Ok.skip ?_
     refine Ok.seq ?_
     obtain⟨t13,h14,H⟩:=bindE H
     refine Ok.region (σ':=⟨[(3,(.bref 3 0)),(16,(.bref 16 0)),(17,(.v (.int .i64 t13.2)))],[(3,(bxN a0)),(16,(.box .ex (c_api_Node t13.1)))]⟩) ?_ ?_
     ·refine .cv (VOk.to (d':=(.agg (e_api_Node t5.1))) (.loadBAgg rfl Try.underlying27 rfl sz27 rfl rfl rfl) (congrArg D.agg (e_api_Node_c t5.1).symm)) rfl rfl ?_
      refine .rn 1 ?_
      refine .cg (GOk.call rfl rfl cl15 rfl (change_Delete.ok h14) rfl) rfl rfl ?_
      refine .rn 4 ?_
      refine OpsOk.cut1 79 (.agg [(.v (.int .i64 t13.1.Kind)),(S t13.1.Name.Space),(S t13.1.Name.Local),(L 3 e_api_Attr t13.1.Attrs),(L 6 e_api_Node t13.1.Kids),(S t13.1.Text)]) (DLe.of_eq (congrArg D.agg (e_api_Node_c _).symm)) ?_
      refine .rn 2 ?_
      exact .dn
     refine Ok.seq ?_
     obtain⟨t17,h18,H⟩:=bindE H
     refine Ok.region (σ':=⟨[(6,(.v (.bool ((t13.2 == 50) || ((t13.2 == 0) && t17)))))],[]⟩) ?_ ?_
     ·refine .rn 3 ?_
      refine OpsOk.consI rfl rfl rfl (.one rfl) rfl (fun hw15 => (VOk.g (VOk.mv (d:=(.v (.int .i64 t13.2))) rfl rfl))) ?_
      refine OpsOk.consI rfl rfl rfl (.one rfl) rfl (fun hw15 => (GOk.fr (fr':=[(84,(.v (.int .i64 t13.2)))]) ⟨DLe.of_eq (cT hw15).symm,trivial⟩ (VOk.g (VOk.arith (op:=.eql) (k:=.i64) (a:=t13.2) (b:=0) rfl rfl rfl rfl)))) ?_
      refine OpsOk.consI rfl rfl rfl (.one rfl) rfl (fun hw15 => (GOk.fr (fr':=[(85,(.v (.bool (t13.2 == 0))))]) ⟨DLe.of_eq (cT hw15).symm,trivial⟩ (VOk.g (VOk.mv (d:=(.v (.bool (t13.2 == 0)))) rfl rfl)))) ?_
      refine OpsOk.consI rfl rfl rfl (.two rfl) rfl (fun hw16 => (VOk.g (VOk.to (d':=(.agg (e_api_Node t13.1))) (.loadBAgg rfl Try.underlying27 rfl sz27 rfl rfl rfl) (congrArg D.agg (e_api_Node_c t13.1).symm)))) ?_
      refine OpsOk.consI rfl rfl rfl (.two rfl) rfl (fun hw16 => (VOk.g (VOk.to (d':=(.agg (e_api_Node a0))) (.loadBAgg rfl Try.underlying27 rfl sz27 rfl rfl rfl) (congrArg D.agg (e_api_Node_c a0).symm)))) ?_
      refine OpsOk.consI rfl rfl rfl (.two rfl) rfl (fun hw16 => (GOk.fr (fr':=[(87,(.agg (e_api_Node t13.1))),(88,(.agg (e_api_Node a0)))]) ⟨DLe.of_eq (cT hw16).symm,DLe.of_eq (cT hw16).symm,trivial⟩ (GOk.call rfl rfl cl11 rfl (watchbillref04_Equal.ok (ifT h18 hw16)) rfl))) ?_
      refine OpsOk.consI rfl rfl rfl (.one rfl) rfl (fun hw15 => (VOk.g (VOk.to (VOk.pickI (b:=(t13.2 == 0)) (p:=t17) (q:=false) rfl (cT hw15) (fun hp19 => (cT (and_i hw15 (t_beq hp19)))) (fun hp19 => rfl)) (pickAnd (t13.2 == 0) t17)))) ?_
      refine .cv (VOk.to (VOk.pickI (b:=(t13.2 == 50)) (p:=true) (q:=((t13.2 == 0) && t17)) rfl rfl (fun hp20 => rfl) (fun hp20 => (cT (f_beq hp20)))) (pickOr (t13.2 == 50) ((t13.2 == 0) && t17))) rfl rfl ?_
      refine .rn 1 ?_
      exact .dn
     refine Ok.ret ?_
     obtain rfl:=Option.some.inj H
     exact⟨.inl rfl,⟨_,(.cons (.tmp rfl) .nil),rfl⟩,trivial⟩
end Go.Proofs.Ytafoiodfflcpeaa.Sh
