import Derived.Test.YtapbckofgcmgmaaGreatDoorProg
import Derived.Test.YtapbckofgcmgmaaGreatDoorShc
namespace Go.Proofs.YtapbckofgcmgmaaGreatDoor.Sh
open Go Go.RowKit Go.Proofs.Vx
set_option linter.unusedVariables false
set_option maxRecDepth 100000
set_option maxHeartbeats 1000000
def lists_encode.l0 (k:Nat) (self:T_api_Entry→Option T_api_Node) (a0:T_api_Entry):Nat→Int→Str→Str→List T_api_Attr→List T_api_Node→Str→Int→Str→Str→List T_api_Attr→Str→List T_api_Node→Int→Option T_api_Node
 | 0,_,_,_,_,_,_,_,_,_,_,_,_,_ => none
 | m38 + 1,y2_0_13,y2_1_14,y2_2_15,y2_3_16,y2_4_17,y2_5_18,y5_0_19,y5_1_20,y5_2_21,y5_3_22,y5_5_23,y1104_24,x44_12 => (if (decide (x44_12 < (a0.List_.length:Int)))=true then (if (0:Int) ≤ x44_12 ∧ x44_12 < (a0.List_.length:Int) then ((self (rd a0.List_ x44_12)).bind fun (t40:T_api_Node) => (if (y1104_24.length + ([t40]:List T_api_Node).length) * 104 ≤ 140737488355328 then lists_encode.l0 k self a0 m38 y2_0_13 y2_1_14 y2_2_15 y2_3_16 y2_4_17 y2_5_18 y5_0_19 y5_1_20 y5_2_21 y5_3_22 y5_5_23 (y1104_24 ++ ([t40]:List T_api_Node)) (IntKind.i64.wrap (x44_12 + 1)) else none)) else none) else some (T_api_Node.mk y5_0_19 (T_api_Name.mk y5_1_20 y5_2_21) y5_3_22 y1104_24 y5_5_23))
def lists_encode:Nat→T_api_Entry→Option T_api_Node
 | 0,_ => none
 | k + 1,a0 => (if (a0.Kind == 3)=true then ((lists_element ([101,120,116,101,114,110,97,108]:Str) ([97,110,99,104,111,114]:Str) a0.URI).bind fun (t1:T_api_Node) => some (T_api_Node.mk t1.Kind (T_api_Name.mk t1.Name.Space t1.Name.Local) t1.Attrs ([]:List T_api_Node) t1.Text)) else (if (a0.Kind == 4)=true then ((lists_element ([101,110,116,114,121,45,114,101,102]:Str) ([114,101,102]:Str) a0.URI).bind fun (t3:T_api_Node) => some (T_api_Node.mk t3.Kind (T_api_Name.mk t3.Name.Space t3.Name.Local) t3.Attrs ([]:List T_api_Node) t3.Text)) else (if (a0.Kind == 1)=true then ((lists_element ([101,110,116,114,121]:Str) ([117,114,105]:Str) a0.URI).bind fun (t5:T_api_Node) => (if (!(a0.Name == ([]:Str)))=true then ((lists_element ([100,105,115,112,108,97,121,45,110,97,109,101]:Str) ([]:Str) ([]:Str)).bind fun (t7:T_api_Node) => some (T_api_Node.mk t5.Kind (T_api_Name.mk t5.Name.Space t5.Name.Local) t5.Attrs ([(T_api_Node.mk t7.Kind (T_api_Name.mk t7.Name.Space t7.Name.Local) t7.Attrs ([(T_api_Node.mk 2 (T_api_Name.mk ([]:Str) ([]:Str)) ([]:List T_api_Attr) ([]:List T_api_Node) a0.Name)]:List T_api_Node) t7.Text)]:List T_api_Node) t5.Text)) else some (T_api_Node.mk t5.Kind (T_api_Name.mk t5.Name.Space t5.Name.Local) t5.Attrs ([]:List T_api_Node) t5.Text))) else ((lists_element ([108,105,115,116]:Str) ([110,97,109,101]:Str) a0.Name).bind fun (t10:T_api_Node) => lists_encode.l0 k (lists_encode k) a0 k 0 ([]:Str) ([]:Str) ([]:List T_api_Attr) ([]:List T_api_Node) ([]:Str) t10.Kind t10.Name.Space t10.Name.Local t10.Attrs t10.Text ([]:List T_api_Node) 0))))
theorem lists_encode.ok {k:Nat} {a0:T_api_Entry} {r:T_api_Node} (H:lists_encode k a0=some r):Vx.Fn Tryz.prog 30 [(.agg (e_api_Entry a0))] [] (.agg (e_api_Node r)) []:=by
 induction k generalizing a0 r with
 | zero => exact absurd H (by simp [lists_encode])
 | succ k ih =>
  unfold lists_encode at H
  refine Vx.Fn.of_okR Tryz.func30 rfl (Nat.le_of_ble_eq_true rfl) ?_
  refine Ok.seq ?_
  refine Ok.region (σ':=⟨[(1,(.bref 1 0)),(2,(.bref 2 0))],[(1,(.box .ex (c_api_Entry a0))),(2,bx0)]⟩) ?_ ?_
  ·refine OpsOk.cut1 0 (.agg [(.v (.int .i64 a0.Kind)),(S a0.URI),(S a0.Name),(L 4 e_api_Entry a0.List_)]) (DLe.of_eq (congrArg D.agg (e_api_Entry_c _).symm)) ?_
   refine .rn 2 ?_
   exact .dn
  refine Ok.seq ?_
  refine Ok.seq ?_
  refine .rg [(1,(.bref 1 0)),(2,(.bref 2 0)),(9,(.v (.int .i64 a0.Kind)))] [(1,(.box .ex (c_api_Entry a0))),(2,bx0)] ?_
  refine Ok.block ?_
  refine Ok.seq ?_
  refine .rg [(1,(.bref 1 0)),(2,(.bref 2 0)),(9,(.v (.int .i64 a0.Kind))),(10,(.v (.bool (a0.Kind == 3))))] [(1,(.box .ex (c_api_Entry a0))),(2,bx0)] ?_
  refine Ok.test (b:=(a0.Kind == 3)) rfl (fun hb46 => ?_) (fun hb46 => ?_)
  ·replace H:=ifT H hb46
   refine Ok.seq ?_
   obtain⟨t1,h2,H⟩:=bindE H
   refine Ok.region (σ':=⟨[(2,(.bref 2 0))],[(2,(.box .ex [(.v (.int .i64 t1.Kind)),(S t1.Name.Space),(S t1.Name.Local),(L 3 e_api_Attr t1.Attrs),(L 6 e_api_Node ([]:List T_api_Node)),(S t1.Text)]))]⟩) ?_ ?_
   ·refine .rn 2 ?_
    refine .cg (GOk.call rfl rfl cl28 rfl (lists_element.ok h2) rfl) rfl rfl ?_
    refine .rn 1 ?_
    exact .done (.mk ⟨.same _,trivial⟩ ⟨(.cells ⟨.same _,.same _,.same _,.same _,.nil _,.same _,trivial⟩),trivial⟩)
   refine Ok.ret ?_
   obtain rfl:=Option.some.inj H
   exact⟨.inl rfl,⟨_,(.cons (.cell (VOk.to (d':=(.agg (e_api_Node (T_api_Node.mk t1.Kind (T_api_Name.mk t1.Name.Space t1.Name.Local) t1.Attrs ([]:List T_api_Node) t1.Text)))) (.loadBAgg rfl Tryz.underlying28 rfl sz28 rfl rfl rfl) (congrArg D.agg (e_api_Node_c (T_api_Node.mk t1.Kind (T_api_Name.mk t1.Name.Space t1.Name.Local) t1.Attrs ([]:List T_api_Node) t1.Text)).symm))) .nil),rfl⟩,trivial⟩
  ·replace H:=ifF H hb46
   refine Ok.seq ?_
   refine .rg [(1,(.bref 1 0)),(2,(.bref 2 0)),(9,(.v (.int .i64 a0.Kind))),(15,(.v (.bool (a0.Kind == 4))))] [(1,(.box .ex (c_api_Entry a0))),(2,bx0)] ?_
   refine Ok.test (b:=(a0.Kind == 4)) rfl (fun hb45 => ?_) (fun hb45 => ?_)
   ·replace H:=ifT H hb45
    refine Ok.seq ?_
    obtain⟨t3,h4,H⟩:=bindE H
    refine Ok.region (σ':=⟨[(2,(.bref 2 0))],[(2,(.box .ex [(.v (.int .i64 t3.Kind)),(S t3.Name.Space),(S t3.Name.Local),(L 3 e_api_Attr t3.Attrs),(L 6 e_api_Node ([]:List T_api_Node)),(S t3.Text)]))]⟩) ?_ ?_
    ·refine .rn 2 ?_
     refine .cg (GOk.call rfl rfl cl28 rfl (lists_element.ok h4) rfl) rfl rfl ?_
     refine .rn 1 ?_
     exact .done (.mk ⟨.same _,trivial⟩ ⟨(.cells ⟨.same _,.same _,.same _,.same _,.nil _,.same _,trivial⟩),trivial⟩)
    refine Ok.ret ?_
    obtain rfl:=Option.some.inj H
    exact⟨.inl rfl,⟨_,(.cons (.cell (VOk.to (d':=(.agg (e_api_Node (T_api_Node.mk t3.Kind (T_api_Name.mk t3.Name.Space t3.Name.Local) t3.Attrs ([]:List T_api_Node) t3.Text)))) (.loadBAgg rfl Tryz.underlying28 rfl sz28 rfl rfl rfl) (congrArg D.agg (e_api_Node_c (T_api_Node.mk t3.Kind (T_api_Name.mk t3.Name.Space t3.Name.Local) t3.Attrs ([]:List T_api_Node) t3.Text)).symm))) .nil),rfl⟩,trivial⟩
   ·replace H:=ifF H hb45
    refine Ok.seq ?_
    refine .rg [(1,(.bref 1 0)),(2,(.bref 2 0)),(20,(.v (.bool (a0.Kind == 1))))] [(1,(.box .ex (c_api_Entry a0))),(2,bx0)] ?_
    refine Ok.test (b:=(a0.Kind == 1)) rfl (fun hb44 => ?_) (fun hb44 => ?_)
    ·replace H:=ifT H hb44
     refine Ok.seq ?_
     obtain⟨t5,h6,H⟩:=bindE H
     refine Ok.region (σ':=⟨[(1,(.bref 1 0)),(2,(.bref 2 0)),(3,(.bref 3 0))],[(1,(.box .ex (c_api_Entry a0))),(2,bx0),(3,(.box .ex [(.v (.int .i64 t5.Kind)),(S t5.Name.Space),(S t5.Name.Local),(L 3 e_api_Attr t5.Attrs),(L 6 e_api_Node ([]:List T_api_Node)),(S t5.Text)]))]⟩) ?_ ?_
     ·refine .rn 2 ?_
      refine .cg (GOk.call rfl rfl cl28 rfl (lists_element.ok h6) rfl) rfl rfl ?_
      refine .rn 2 ?_
      exact .done (.mk ⟨.same _,.same _,.same _,trivial⟩ ⟨.same _,.same _,(.cells ⟨.same _,.same _,.same _,.same _,.nil _,.same _,trivial⟩),trivial⟩)
     refine Ok.seq ?_
     refine Ok.seq ?_
     refine .rg [(1,(.bref 1 0)),(2,(.bref 2 0)),(3,(.bref 3 0)),(27,(.v (.bool (!(a0.Name == ([]:Str))))))] [(1,(.box .ex (c_api_Entry a0))),(2,bx0),(3,(.box .ex [(.v (.int .i64 t5.Kind)),(S t5.Name.Space),(S t5.Name.Local),(L 3 e_api_Attr t5.Attrs),(L 6 e_api_Node ([]:List T_api_Node)),(S t5.Text)]))] ?_
     refine Ok.test (b:=(!(a0.Name == ([]:Str)))) rfl (fun hb9 => ?_) (fun hb9 => ?_)
     ·replace H:=ifT H hb9
      refine Ok.seq ?_
      obtain⟨t7,h8,H⟩:=bindE H
      refine Ok.region (σ':=⟨[(1,(.bref 1 0)),(2,(.bref 2 0)),(3,(.bref 3 0)),(4,(.bref 4 0))],[(1,(.box .ex (c_api_Entry a0))),(2,bx0),(3,(.box .ex [(.v (.int .i64 t5.Kind)),(S t5.Name.Space),(S t5.Name.Local),(L 3 e_api_Attr t5.Attrs),(L 6 e_api_Node ([]:List T_api_Node)),(S t5.Text)])),(4,(.box .ex [(.v (.int .i64 t7.Kind)),(S t7.Name.Space),(S t7.Name.Local),(L 3 e_api_Attr t7.Attrs),(L 6 e_api_Node ([]:List T_api_Node)),(S t7.Text)]))]⟩) ?_ ?_
      ·refine .cg (GOk.call rfl rfl cl28 rfl (lists_element.ok h8) rfl) rfl rfl ?_
       refine .rn 2 ?_
       exact .done (.mk ⟨.same _,.same _,.same _,.same _,trivial⟩ ⟨.same _,.same _,.same _,(.cells ⟨.same _,.same _,.same _,.same _,.nil _,.same _,trivial⟩),trivial⟩)
      refine Ok.seq ?_
      refine Ok.region (σ':=⟨[(2,(.bref 2 0)),(3,(.bref 3 0)),(4,(.bref 4 0))],[(2,bx0),(3,(.box .ex [(.v (.int .i64 t5.Kind)),(S t5.Name.Space),(S t5.Name.Local),(L 3 e_api_Attr t5.Attrs),(L 6 e_api_Node ([]:List T_api_Node)),(S t5.Text)])),(4,(.box .ex [(.v (.int .i64 t7.Kind)),(S t7.Name.Space),(S t7.Name.Local),(L 3 e_api_Attr t7.Attrs),(.sref 32),(S t7.Text)])),(32,(.rows true 28 6 ((nT0 a0.Name).map e_api_Node)))]⟩) ?_ ?_
      ·refine .rn 2 ?_
       refine .cv (VOk.to (d':=(.agg (e_api_Node (T_api_Node.mk 2 (T_api_Name.mk ([]:Str) ([]:Str)) ([]:List T_api_Attr) ([]:List T_api_Node) a0.Name)))) (.build [none,none,none,some 3,some 6,none] [(0,1),(1,2),(3,1),(4,1),(5,1)] rfl Tryz.underlying28 (fa28 Tryz.underlying28) zo28 rfl rfl) (congrArg D.agg (e_api_Node_c (T_api_Node.mk 2 (T_api_Name.mk ([]:Str) ([]:Str)) ([]:List T_api_Attr) ([]:List T_api_Node) a0.Name)).symm)) rfl rfl ?_
       refine OpsOk.cons rfl (OpOk.litT 32 rfl rfl Tryz.underlying26 sz28 zs28 rfl (rows:=(nT0 a0.Name).map e_api_Node) rfl rfl rfl rfl) ?_
       refine .rn 2 ?_
       exact .dn
      refine Ok.region (σ':=⟨[(2,(.bref 2 0)),(3,(.bref 3 0))],[(2,bx0),(3,(.box .ex [(.v (.int .i64 t5.Kind)),(S t5.Name.Space),(S t5.Name.Local),(L 3 e_api_Attr t5.Attrs),(.sref 35),(S t5.Text)])),(35,(.rows true 28 6 (([(T_api_Node.mk t7.Kind (T_api_Name.mk t7.Name.Space t7.Name.Local) t7.Attrs (nT0 a0.Name) t7.Text)]:List T_api_Node).map e_api_Node)))]⟩) ?_ ?_
      ·refine OpsOk.frzL 32 (e:=e_api_Node) (xs:=(nT0 a0.Name)) rfl ?_
       refine .cv (VOk.to (d':=(.agg (e_api_Node (T_api_Node.mk t7.Kind (T_api_Name.mk t7.Name.Space t7.Name.Local) t7.Attrs (nT0 a0.Name) t7.Text)))) (.loadBAgg rfl Tryz.underlying28 rfl sz28 rfl rfl rfl) (congrArg D.agg (e_api_Node_c (T_api_Node.mk t7.Kind (T_api_Name.mk t7.Name.Space t7.Name.Local) t7.Attrs (nT0 a0.Name) t7.Text)).symm)) rfl rfl ?_
       refine OpsOk.cons rfl (OpOk.litT 35 rfl rfl Tryz.underlying26 sz28 zs28 rfl (rows:=([(T_api_Node.mk t7.Kind (T_api_Name.mk t7.Name.Space t7.Name.Local) t7.Attrs (nT0 a0.Name) t7.Text)]:List T_api_Node).map e_api_Node) rfl rfl rfl rfl) ?_
       refine .rn 2 ?_
       exact .dn
      refine Ok.seq ?_
      refine Ok.region (σ':=⟨[(2,(.bref 2 0))],[(2,(.box .ex (c_api_Node (T_api_Node.mk t5.Kind (T_api_Name.mk t5.Name.Space t5.Name.Local) t5.Attrs ([(T_api_Node.mk t7.Kind (T_api_Name.mk t7.Name.Space t7.Name.Local) t7.Attrs (nT0 a0.Name) t7.Text)]:List T_api_Node) t5.Text))))]⟩) ?_ ?_
      ·refine OpsOk.frzL 35 (e:=e_api_Node) (xs:=([(T_api_Node.mk t7.Kind (T_api_Name.mk t7.Name.Space t7.Name.Local) t7.Attrs (nT0 a0.Name) t7.Text)]:List T_api_Node)) rfl ?_
       refine .cv (VOk.to (d':=(.agg (e_api_Node (T_api_Node.mk t5.Kind (T_api_Name.mk t5.Name.Space t5.Name.Local) t5.Attrs ([(T_api_Node.mk t7.Kind (T_api_Name.mk t7.Name.Space t7.Name.Local) t7.Attrs (nT0 a0.Name) t7.Text)]:List T_api_Node) t5.Text)))) (.loadBAgg rfl Tryz.underlying28 rfl sz28 rfl rfl rfl) (congrArg D.agg (e_api_Node_c (T_api_Node.mk t5.Kind (T_api_Name.mk t5.Name.Space t5.Name.Local) t5.Attrs ([(T_api_Node.mk t7.Kind (T_api_Name.mk t7.Name.Space t7.Name.Local) t7.Attrs (nT0 a0.Name) t7.Text)]:List T_api_Node) t5.Text)).symm)) rfl rfl ?_
       refine OpsOk.cut1 37 (.agg [(.v (.int .i64 ((T_api_Node.mk t5.Kind (T_api_Name.mk t5.Name.Space t5.Name.Local) t5.Attrs ([(T_api_Node.mk t7.Kind (T_api_Name.mk t7.Name.Space t7.Name.Local) t7.Attrs (nT0 a0.Name) t7.Text)]:List T_api_Node) t5.Text).Kind))),(S ((T_api_Node.mk t5.Kind (T_api_Name.mk t5.Name.Space t5.Name.Local) t5.Attrs ([(T_api_Node.mk t7.Kind (T_api_Name.mk t7.Name.Space t7.Name.Local) t7.Attrs (nT0 a0.Name) t7.Text)]:List T_api_Node) t5.Text).Name.Space)),(S ((T_api_Node.mk t5.Kind (T_api_Name.mk t5.Name.Space t5.Name.Local) t5.Attrs ([(T_api_Node.mk t7.Kind (T_api_Name.mk t7.Name.Space t7.Name.Local) t7.Attrs (nT0 a0.Name) t7.Text)]:List T_api_Node) t5.Text).Name.Local)),(L 3 e_api_Attr ((T_api_Node.mk t5.Kind (T_api_Name.mk t5.Name.Space t5.Name.Local) t5.Attrs ([(T_api_Node.mk t7.Kind (T_api_Name.mk t7.Name.Space t7.Name.Local) t7.Attrs (nT0 a0.Name) t7.Text)]:List T_api_Node) t5.Text).Attrs)),(L 6 e_api_Node ((T_api_Node.mk t5.Kind (T_api_Name.mk t5.Name.Space t5.Name.Local) t5.Attrs ([(T_api_Node.mk t7.Kind (T_api_Name.mk t7.Name.Space t7.Name.Local) t7.Attrs (nT0 a0.Name) t7.Text)]:List T_api_Node) t5.Text).Kids)),(S ((T_api_Node.mk t5.Kind (T_api_Name.mk t5.Name.Space t5.Name.Local) t5.Attrs ([(T_api_Node.mk t7.Kind (T_api_Name.mk t7.Name.Space t7.Name.Local) t7.Attrs (nT0 a0.Name) t7.Text)]:List T_api_Node) t5.Text).Text))]) (DLe.of_eq (congrArg D.agg (e_api_Node_c _).symm)) ?_
       refine .rn 1 ?_
       exact .dn
      refine Ok.ret ?_
      obtain rfl:=Option.some.inj H
      exact⟨.inl rfl,⟨_,(.cons (.cell (VOk.to (d':=(.agg (e_api_Node (T_api_Node.mk t5.Kind (T_api_Name.mk t5.Name.Space t5.Name.Local) t5.Attrs ([(T_api_Node.mk t7.Kind (T_api_Name.mk t7.Name.Space t7.Name.Local) t7.Attrs (nT0 a0.Name) t7.Text)]:List T_api_Node) t5.Text)))) (.loadBAgg rfl Tryz.underlying28 rfl sz28 rfl rfl rfl) (congrArg D.agg (e_api_Node_c (T_api_Node.mk t5.Kind (T_api_Name.mk t5.Name.Space t5.Name.Local) t5.Attrs ([(T_api_Node.mk t7.Kind (T_api_Name.mk t7.Name.Space t7.Name.Local) t7.Attrs (nT0 a0.Name) t7.Text)]:List T_api_Node) t5.Text)).symm))) .nil),rfl⟩,trivial⟩
     ·replace H:=ifF H hb9
      refine Ok.skip ?_
      refine Ok.seq ?_
      refine Ok.region (σ':=⟨[(2,(.bref 2 0))],[(2,(.box .ex (c_api_Node (T_api_Node.mk t5.Kind (T_api_Name.mk t5.Name.Space t5.Name.Local) t5.Attrs ([]:List T_api_Node) t5.Text))))]⟩) ?_ ?_
      ·refine .cv (VOk.to (d':=(.agg (e_api_Node (T_api_Node.mk t5.Kind (T_api_Name.mk t5.Name.Space t5.Name.Local) t5.Attrs ([]:List T_api_Node) t5.Text)))) (.loadBAgg rfl Tryz.underlying28 rfl sz28 rfl rfl rfl) (congrArg D.agg (e_api_Node_c (T_api_Node.mk t5.Kind (T_api_Name.mk t5.Name.Space t5.Name.Local) t5.Attrs ([]:List T_api_Node) t5.Text)).symm)) rfl rfl ?_
       refine OpsOk.cut1 37 (.agg [(.v (.int .i64 ((T_api_Node.mk t5.Kind (T_api_Name.mk t5.Name.Space t5.Name.Local) t5.Attrs ([]:List T_api_Node) t5.Text).Kind))),(S ((T_api_Node.mk t5.Kind (T_api_Name.mk t5.Name.Space t5.Name.Local) t5.Attrs ([]:List T_api_Node) t5.Text).Name.Space)),(S ((T_api_Node.mk t5.Kind (T_api_Name.mk t5.Name.Space t5.Name.Local) t5.Attrs ([]:List T_api_Node) t5.Text).Name.Local)),(L 3 e_api_Attr ((T_api_Node.mk t5.Kind (T_api_Name.mk t5.Name.Space t5.Name.Local) t5.Attrs ([]:List T_api_Node) t5.Text).Attrs)),(L 6 e_api_Node ((T_api_Node.mk t5.Kind (T_api_Name.mk t5.Name.Space t5.Name.Local) t5.Attrs ([]:List T_api_Node) t5.Text).Kids)),(S ((T_api_Node.mk t5.Kind (T_api_Name.mk t5.Name.Space t5.Name.Local) t5.Attrs ([]:List T_api_Node) t5.Text).Text))]) (DLe.of_eq (congrArg D.agg (e_api_Node_c _).symm)) ?_
       refine .rn 1 ?_
       exact .dn
      refine Ok.ret ?_
      obtain rfl:=Option.some.inj H
      exact⟨.inl rfl,⟨_,(.cons (.cell (VOk.to (d':=(.agg (e_api_Node (T_api_Node.mk t5.Kind (T_api_Name.mk t5.Name.Space t5.Name.Local) t5.Attrs ([]:List T_api_Node) t5.Text)))) (.loadBAgg rfl Tryz.underlying28 rfl sz28 rfl rfl rfl) (congrArg D.agg (e_api_Node_c (T_api_Node.mk t5.Kind (T_api_Name.mk t5.Name.Space t5.Name.Local) t5.Attrs ([]:List T_api_Node) t5.Text)).symm))) .nil),rfl⟩,trivial⟩
    ·replace H:=ifF H hb44
     refine Ok.skip ?_
     refine Ok.seq ?_
     obtain⟨t10,h11,H⟩:=bindE H
     refine Ok.region (σ':=⟨[(1,(.bref 1 0)),(2,(.bref 2 0)),(5,(.bref 5 0))],[(1,(.box .ex (c_api_Entry a0))),(2,bx0),(5,(.box .ex [(.v (.int .i64 t10.Kind)),(S t10.Name.Space),(S t10.Name.Local),(L 3 e_api_Attr t10.Attrs),(.sref 1104),(S t10.Text)])),(1104,(.rows true 28 6 (([]:List T_api_Node).map e_api_Node)))]⟩) ?_ ?_
     ·refine .rn 2 ?_
      refine .cg (GOk.call rfl rfl cl28 rfl (lists_element.ok h11) rfl) rfl rfl ?_
      refine OpsOk.cons rfl (OpOk.alloc 5 [none,none,none,some 3,none,none] rfl zo28 rfl rfl) ?_
      refine OpsOk.sle (SLe.adopt 5 1104 4 28 6 rfl rfl rfl rfl rfl) ?_
      refine .rn 1 ?_
      refine OpsOk.sle (SLe.adopt 5 1104 4 28 6 rfl rfl rfl rfl rfl) ?_
      exact .dn
     refine Ok.seq ?_
     refine Ok.seq ?_
     refine Ok.region (σ':=⟨[(2,(.bref 2 0)),(5,(.bref 5 0)),(42,(L 4 e_api_Entry a0.List_)),(43,(.v (.int .i64 (a0.List_.length:Int)))),(44,(.v (.int .i64 0)))],[(2,bx0),(5,(.box .ex [(.v (.int .i64 t10.Kind)),(S t10.Name.Space),(S t10.Name.Local),(L 3 e_api_Attr t10.Attrs),(.sref 1104),(S t10.Text)])),(1104,(.rows true 28 6 (([]:List T_api_Node).map e_api_Node)))]⟩) ?_ ?_
     ·refine .rn 2 ?_
      refine .cv (VOk.lenL (e:=e_api_Entry) (xs:=a0.List_) rfl Tryz.underlying22 rfl) rfl rfl ?_
      refine .rn 1 ?_
      exact .dn
     refine Ok.block ?_
     refine Ok.loop (fun m38 σ => ∃ (y2_0_13:Int) (y2_1_14:Str) (y2_2_15:Str) (y2_3_16:List T_api_Attr) (y2_4_17:List T_api_Node) (y2_5_18:Str) (y5_0_19:Int) (y5_1_20:Str) (y5_2_21:Str) (y5_3_22:List T_api_Attr) (y5_5_23:Str) (y1104_24:List T_api_Node) (x44_12:Int),σ=⟨[(2,(.bref 2 0)),(5,(.bref 5 0)),(42,(L 4 e_api_Entry a0.List_)),(43,(.v (.int .i64 (a0.List_.length:Int)))),(44,(.v (.int .i64 x44_12)))],[(2,(.box .ex [(.v (.int .i64 y2_0_13)),(S y2_1_14),(S y2_2_15),(L 3 e_api_Attr y2_3_16),(L 6 e_api_Node y2_4_17),(S y2_5_18)])),(5,(.box .ex [(.v (.int .i64 y5_0_19)),(S y5_1_20),(S y5_2_21),(L 3 e_api_Attr y5_3_22),(.sref 1104),(S y5_5_23)])),(1104,(.rows true 28 6 (y1104_24.map e_api_Node)))]⟩ ∧ lists_encode.l0 k (lists_encode k) a0 m38 y2_0_13 y2_1_14 y2_2_15 y2_3_16 y2_4_17 y2_5_18 y5_0_19 y5_1_20 y5_2_21 y5_3_22 y5_5_23 y1104_24 x44_12=some r) k ⟨0,([]:Str),([]:Str),([]:List T_api_Attr),([]:List T_api_Node),([]:Str),t10.Kind,t10.Name.Space,t10.Name.Local,t10.Attrs,t10.Text,([]:List T_api_Node),0,rfl,H⟩ ?_
     rintro m38 σ ⟨y2_0_13,y2_1_14,y2_2_15,y2_3_16,y2_4_17,y2_5_18,y5_0_19,y5_1_20,y5_2_21,y5_3_22,y5_5_23,y1104_24,x44_12,rfl,H⟩
     cases m38 with
     | zero => exact absurd H (by simp [lists_encode.l0])
     | succ m38 =>
      unfold lists_encode.l0 at H
      refine Ok.seq ?_
      refine .rg [(2,(.bref 2 0)),(5,(.bref 5 0)),(42,(L 4 e_api_Entry a0.List_)),(43,(.v (.int .i64 (a0.List_.length:Int)))),(44,(.v (.int .i64 x44_12))),(45,(.v (.bool (decide (x44_12 < (a0.List_.length:Int))))))] [(2,(.box .ex [(.v (.int .i64 y2_0_13)),(S y2_1_14),(S y2_2_15),(L 3 e_api_Attr y2_3_16),(L 6 e_api_Node y2_4_17),(S y2_5_18)])),(5,(.box .ex [(.v (.int .i64 y5_0_19)),(S y5_1_20),(S y5_2_21),(L 3 e_api_Attr y5_3_22),(.sref 1104),(S y5_5_23)])),(1104,(.rows true 28 6 (y1104_24.map e_api_Node)))] ?_
      refine Ok.seq ?_
      refine Ok.test (b:=(decide (x44_12 < (a0.List_.length:Int)))) rfl (fun hb43 => ?_) (fun hb43 => ?_)
      ·replace H:=ifT H hb43
       refine Ok.skip ?_
       refine Ok.seq ?_
       refine Ok.block ?_
       refine Ok.seq ?_
       obtain⟨c39,H⟩:=assertE H
       refine Ok.region (σ':=⟨[(2,(.bref 2 0)),(5,(.bref 5 0)),(7,(.bref 7 0)),(42,(L 4 e_api_Entry a0.List_)),(43,(.v (.int .i64 (a0.List_.length:Int)))),(44,(.v (.int .i64 x44_12)))],[(2,(.box .ex [(.v (.int .i64 y2_0_13)),(S y2_1_14),(S y2_2_15),(L 3 e_api_Attr y2_3_16),(L 6 e_api_Node y2_4_17),(S y2_5_18)])),(5,(.box .ex [(.v (.int .i64 y5_0_19)),(S y5_1_20),(S y5_2_21),(L 3 e_api_Attr y5_3_22),(.sref 1104),(S y5_5_23)])),(7,(.box .ex (c_api_Entry (rd a0.List_ x44_12)))),(1104,(.rows true 28 6 (y1104_24.map e_api_Node)))]⟩) ?_ ?_
       ·refine .cv (VOk.indexL (sz:=4) (e:=e_api_Entry) (xs:=a0.List_) (i:=x44_12) rfl Tryz.underlying22 sz45 rfl rfl c39) rfl rfl ?_
        refine .rn 2 ?_
        refine OpsOk.cut1 47 (.agg [(.v (.int .i64 ((rd a0.List_ x44_12).Kind))),(S ((rd a0.List_ x44_12).URI)),(S ((rd a0.List_ x44_12).Name)),(L 4 e_api_Entry ((rd a0.List_ x44_12).List_))]) (DLe.of_eq (congrArg D.agg (e_api_Entry_c _).symm)) ?_
        refine .rn 1 ?_
        exact .dn
       obtain⟨t40,h41,H⟩:=bindE H
       obtain⟨c42,H⟩:=assertE H
       refine Ok.le (σ':=⟨[(2,(.bref 2 0)),(5,(.bref 5 0)),(7,(.bref 7 0)),(42,(L 4 e_api_Entry a0.List_)),(43,(.v (.int .i64 (a0.List_.length:Int)))),(44,(.v (.int .i64 x44_12)))],[(2,(.box .ex [(.v (.int .i64 y2_0_13)),(S y2_1_14),(S y2_2_15),(L 3 e_api_Attr y2_3_16),(L 6 e_api_Node y2_4_17),(S y2_5_18)])),(5,(.box .ex [(.v (.int .i64 y5_0_19)),(S y5_1_20),(S y5_2_21),(L 3 e_api_Attr y5_3_22),(.sref 1104),(S y5_5_23)])),(7,(.box .ex (c_api_Entry (rd a0.List_ x44_12)))),(1104,(.rows true 28 6 (y1104_24.map e_api_Node)))]⟩) (.rf rfl rfl) ?_
       refine Ok.drawE2 (σ':=⟨[(2,(.bref 2 0)),(5,(.bref 5 0)),(42,(L 4 e_api_Entry a0.List_)),(43,(.v (.int .i64 (a0.List_.length:Int)))),(44,(.v (.int .i64 x44_12)))],[(2,(.box .ex [(.v (.int .i64 y2_0_13)),(S y2_1_14),(S y2_2_15),(L 3 e_api_Attr y2_3_16),(L 6 e_api_Node y2_4_17),(S y2_5_18)])),(5,(.box .ex [(.v (.int .i64 y5_0_19)),(S y5_1_20),(S y5_2_21),(L 3 e_api_Attr y5_3_22),(.sref 1104),(S y5_5_23)])),(1104,(.rows true 28 6 ((y1104_24 ++ ([t40]:List T_api_Node)).map e_api_Node)))]⟩) [⟨true,[(5,(.bref 5 0))],[(5,(.box .ex [(.v (.int .i64 y5_0_19)),(S y5_1_20),(S y5_2_21),(L 3 e_api_Attr y5_3_22),(.sref 1104),(S y5_5_23)]))],(.bref 5 4),[],false,[]⟩,⟨true,[(48,(.bref 5 4))],[(5,(.box .ex [(.v (.int .i64 y5_0_19)),(S y5_1_20),(S y5_2_21),(L 3 e_api_Attr y5_3_22),(.sref 1104),(S y5_5_23)]))],(.sref 1104),[],false,[]⟩,⟨true,[(7,(.bref 7 0))],[(7,(.box .ex (c_api_Entry (rd a0.List_ x44_12))))],(.agg (e_api_Entry (rd a0.List_ x44_12))),[],false,[]⟩,⟨true,[(50,(.agg (e_api_Entry (rd a0.List_ x44_12))))],[],(.agg (e_api_Node t40)),[],false,[]⟩,⟨true,[(51,(.agg (e_api_Node t40)))],[],(L 6 e_api_Node ([t40]:List T_api_Node)),[],false,[]⟩,⟨true,[(49,(.sref 1104)),(52,(L 6 e_api_Node ([t40]:List T_api_Node)))],[(1104,(.rows true 28 6 (y1104_24.map e_api_Node)))],(.sref 53),[(53,(.rows true 28 6 ((y1104_24 ++ ([t40]:List T_api_Node)).map e_api_Node))),(1104,.none)],true,[]⟩,⟨true,[(5,(.bref 5 0))],[(5,(.box .ex [(.v (.int .i64 y5_0_19)),(S y5_1_20),(S y5_2_21),(L 3 e_api_Attr y5_3_22),(.sref 1104),(S y5_5_23)]))],(.bref 5 4),[],false,[]⟩,⟨true,[(54,(.bref 5 4)),(53,(.sref 53))],[(5,(.box .ex [(.v (.int .i64 y5_0_19)),(S y5_1_20),(S y5_2_21),(L 3 e_api_Attr y5_3_22),(.sref 1104),(S y5_5_23)])),(53,(.rows true 28 6 ((y1104_24 ++ ([t40]:List T_api_Node)).map e_api_Node)))],.junk,[(5,(.box .ex [(.v (.int .i64 y5_0_19)),(S y5_1_20),(S y5_2_21),(L 3 e_api_Attr y5_3_22),(.sref 53),(S y5_5_23)]))],false,[]⟩] [[],[0],[],[2],[3],[1,4],[],[0,1,5,6]] mixed (by kernel_rfl) ?_ ?_
       ·refine TxtE2.cons ⟨.same _,trivial⟩ ⟨rfl,trivial⟩ (It2.val rfl rfl (fun T hT => (VOk.g (VOk.to (VOk.fieldB rfl Tryz.underlying28 rfl sz26 rfl hT.1) rfl)))) ?_
        refine TxtE2.cons ⟨.same _,trivial⟩ ⟨rfl,trivial⟩ (It2.val rfl rfl (fun T hT => (VOk.g (VOk.loadB (d:=(.sref 1104)) rfl Tryz.underlying26 rfl rfl hT.1 rfl)))) ?_
        refine TxtE2.cons ⟨.same _,trivial⟩ ⟨rfl,trivial⟩ (It2.val rfl rfl (fun T hT => (VOk.g (VOk.to (d':=(.agg (e_api_Entry (rd a0.List_ x44_12)))) (.loadBAgg rfl Tryz.underlying45 rfl sz45 rfl hT.1 rfl) (congrArg D.agg (e_api_Entry_c (rd a0.List_ x44_12)).symm))))) ?_
        refine TxtE2.cons ⟨.same _,trivial⟩ trivial (It2.val rfl rfl (fun T hT => (GOk.call rfl rfl cl30 rfl (@ih _ _ h41) rfl))) ?_
        refine TxtE2.cons ⟨.same _,trivial⟩ trivial (It2.val rfl rfl (fun T hT => (GOk.to (d':=(L 6 e_api_Node ([t40]:List T_api_Node))) (GOk.lit rfl Tryz.underlying26 sz28 zs28 rfl rfl rfl rfl) rfl))) ?_
        refine TxtE2.cons ⟨.same _,.same _,trivial⟩ ⟨rfl,trivial⟩ (It2.appendL 53 (e:=e_api_Node) (xs:=y1104_24) (ys:=([t40]:List T_api_Node)) rfl rfl Tryz.underlying26 elt28 rfl rfl rfl rfl c42 rfl rfl) ?_
        refine TxtE2.cons ⟨.same _,trivial⟩ ⟨rfl,trivial⟩ (It2.val rfl rfl (fun T hT => (VOk.g (VOk.to (VOk.fieldB rfl Tryz.underlying28 rfl sz26 rfl hT.1) rfl)))) ?_
        refine TxtE2.cons ⟨.same _,.same _,trivial⟩ ⟨rfl,rfl,trivial⟩ (It2.store rfl rfl sz26 rfl rfl rfl rfl rfl rfl rfl rfl) ?_
        exact .doneS (SLe.trans (Le.s (.rf rfl rfl)) (SLe.ren 53 1104 rfl rfl))
       refine .rg [(2,(.bref 2 0)),(5,(.bref 5 0)),(42,(L 4 e_api_Entry a0.List_)),(43,(.v (.int .i64 (a0.List_.length:Int)))),(44,(.v (.int .i64 (IntKind.i64.wrap (x44_12 + 1)))))] [(2,(.box .ex [(.v (.int .i64 y2_0_13)),(S y2_1_14),(S y2_2_15),(L 3 e_api_Attr y2_3_16),(L 6 e_api_Node y2_4_17),(S y2_5_18)])),(5,(.box .ex [(.v (.int .i64 y5_0_19)),(S y5_1_20),(S y5_2_21),(L 3 e_api_Attr y5_3_22),(.sref 1104),(S y5_5_23)])),(1104,(.rows true 28 6 ((y1104_24 ++ ([t40]:List T_api_Node)).map e_api_Node)))] ?_
       exact⟨m38,Nat.lt_succ_self m38,y2_0_13,y2_1_14,y2_2_15,y2_3_16,y2_4_17,y2_5_18,y5_0_19,y5_1_20,y5_2_21,y5_3_22,y5_5_23,(y1104_24 ++ ([t40]:List T_api_Node)),(IntKind.i64.wrap (x44_12 + 1)),rfl,H⟩
      ·replace H:=ifF H hb43
       refine Ok.exit ?_
       refine Ok.seq ?_
       refine Ok.region (σ':=⟨[(2,(.bref 2 0))],[(2,(.box .ex (c_api_Node (T_api_Node.mk y5_0_19 (T_api_Name.mk y5_1_20 y5_2_21) y5_3_22 y1104_24 y5_5_23))))]⟩) ?_ ?_
       ·refine OpsOk.frzL 1104 (e:=e_api_Node) (xs:=y1104_24) rfl ?_
        refine .cv (VOk.to (d':=(.agg (e_api_Node (T_api_Node.mk y5_0_19 (T_api_Name.mk y5_1_20 y5_2_21) y5_3_22 y1104_24 y5_5_23)))) (.loadBAgg rfl Tryz.underlying28 rfl sz28 rfl rfl rfl) (congrArg D.agg (e_api_Node_c (T_api_Node.mk y5_0_19 (T_api_Name.mk y5_1_20 y5_2_21) y5_3_22 y1104_24 y5_5_23)).symm)) rfl rfl ?_
        refine OpsOk.cut1 56 (.agg [(.v (.int .i64 ((T_api_Node.mk y5_0_19 (T_api_Name.mk y5_1_20 y5_2_21) y5_3_22 y1104_24 y5_5_23).Kind))),(S ((T_api_Node.mk y5_0_19 (T_api_Name.mk y5_1_20 y5_2_21) y5_3_22 y1104_24 y5_5_23).Name.Space)),(S ((T_api_Node.mk y5_0_19 (T_api_Name.mk y5_1_20 y5_2_21) y5_3_22 y1104_24 y5_5_23).Name.Local)),(L 3 e_api_Attr ((T_api_Node.mk y5_0_19 (T_api_Name.mk y5_1_20 y5_2_21) y5_3_22 y1104_24 y5_5_23).Attrs)),(L 6 e_api_Node ((T_api_Node.mk y5_0_19 (T_api_Name.mk y5_1_20 y5_2_21) y5_3_22 y1104_24 y5_5_23).Kids)),(S ((T_api_Node.mk y5_0_19 (T_api_Name.mk y5_1_20 y5_2_21) y5_3_22 y1104_24 y5_5_23).Text))]) (DLe.of_eq (congrArg D.agg (e_api_Node_c _).symm)) ?_
        refine .rn 1 ?_
        exact .dn
       refine Ok.ret ?_
       obtain rfl:=Option.some.inj H
       exact⟨.inl rfl,⟨_,(.cons (.cell (VOk.to (d':=(.agg (e_api_Node (T_api_Node.mk y5_0_19 (T_api_Name.mk y5_1_20 y5_2_21) y5_3_22 y1104_24 y5_5_23)))) (.loadBAgg rfl Tryz.underlying28 rfl sz28 rfl rfl rfl) (congrArg D.agg (e_api_Node_c (T_api_Node.mk y5_0_19 (T_api_Name.mk y5_1_20 y5_2_21) y5_3_22 y1104_24 y5_5_23)).symm))) .nil),rfl⟩,trivial⟩
def lists_Encode.l0 (k:Nat) (a0:List T_api_Entry):Nat→Int→Str→Str→List T_api_Attr→List T_api_Node→Str→Int→Str→Str→List T_api_Attr→Str→List T_api_Node→Int→Option (T_api_Node × Int)
 | 0,_,_,_,_,_,_,_,_,_,_,_,_,_ => none
 | m29 + 1,y2_0_4,y2_1_5,y2_2_6,y2_3_7,y2_4_8,y2_5_9,y4_0_10,y4_1_11,y4_2_12,y4_3_13,y4_5_14,y1084_15,x10_3 => (if (decide (x10_3 < (a0.length:Int)))=true then (if (0:Int) ≤ x10_3 ∧ x10_3 < (a0.length:Int) then (((if ((((rd a0 x10_3).Kind) != 2) == false)=true then lists_may k (rd a0 x10_3) else some default)).bind fun (t32:Bool) => (if ((((rd a0 x10_3).Kind) != 2) || (!t32))=true then some ((T_api_Node.mk 0 (T_api_Name.mk ([]:Str) ([]:Str)) ([]:List T_api_Attr) ([]:List T_api_Node) ([]:Str)),4) else ((lists_encode k (rd a0 x10_3)).bind fun (t35:T_api_Node) => (if (y1084_15.length + ([t35]:List T_api_Node).length) * 104 ≤ 140737488355328 then lists_Encode.l0 k a0 m29 y2_0_4 y2_1_5 y2_2_6 y2_3_7 y2_4_8 y2_5_9 y4_0_10 y4_1_11 y4_2_12 y4_3_13 y4_5_14 (y1084_15 ++ ([t35]:List T_api_Node)) (IntKind.i64.wrap (x10_3 + 1)) else none)))) else none) else ((lists_unique k a0).bind fun (t39:Bool) => (if (!t39)=true then some ((T_api_Node.mk 0 (T_api_Name.mk ([]:Str) ([]:Str)) ([]:List T_api_Attr) ([]:List T_api_Node) ([]:Str)),41) else some ((T_api_Node.mk y4_0_10 (T_api_Name.mk y4_1_11 y4_2_12) y4_3_13 y1084_15 y4_5_14),0))))
def lists_Encode (k:Nat) (a0:List T_api_Entry):Option (T_api_Node × Int):=((lists_element ([114,101,115,111,117,114,99,101,45,108,105,115,116,115]:Str) ([]:Str) ([]:Str)).bind fun (t1:T_api_Node) => lists_Encode.l0 k a0 k 0 ([]:Str) ([]:Str) ([]:List T_api_Attr) ([]:List T_api_Node) ([]:Str) t1.Kind t1.Name.Space t1.Name.Local t1.Attrs t1.Text ([]:List T_api_Node) 0)
theorem lists_Encode.ok {k:Nat} {a0:List T_api_Entry} {r:T_api_Node × Int} (H:lists_Encode k a0=some r):Vx.Fn Tryz.prog 11 [(L 4 e_api_Entry a0)] [] (.tup [(.agg (e_api_Node r.1)),(.v (.int .i64 r.2))]) []:=by
 unfold lists_Encode at H
 refine Vx.Fn.of_okR Tryz.func11 rfl (Nat.le_of_ble_eq_true rfl) ?_
 refine Ok.seq ?_
 refine .rg [(0,(L 4 e_api_Entry a0)),(2,(.bref 2 0))] [(2,bx0)] ?_
 refine Ok.seq ?_
 obtain⟨t1,h2,H⟩:=bindE H
 refine Ok.region (σ':=⟨[(0,(L 4 e_api_Entry a0)),(2,(.bref 2 0)),(4,(.bref 4 0))],[(2,bx0),(4,(.box .ex [(.v (.int .i64 t1.Kind)),(S t1.Name.Space),(S t1.Name.Local),(L 3 e_api_Attr t1.Attrs),(.sref 1084),(S t1.Text)])),(1084,(.rows true 28 6 (([]:List T_api_Node).map e_api_Node)))]⟩) ?_ ?_
 ·refine .cg (GOk.call rfl rfl cl28 rfl (lists_element.ok h2) rfl) rfl rfl ?_
  refine OpsOk.cons rfl (OpOk.alloc 4 [none,none,none,some 3,none,none] rfl zo28 rfl rfl) ?_
  refine OpsOk.sle (SLe.adopt 4 1084 4 28 6 rfl rfl rfl rfl rfl) ?_
  refine .rn 1 ?_
  refine OpsOk.sle (SLe.adopt 4 1084 4 28 6 rfl rfl rfl rfl rfl) ?_
  exact .dn
 refine Ok.seq ?_
 refine Ok.seq ?_
 refine Ok.region (σ':=⟨[(0,(L 4 e_api_Entry a0)),(2,(.bref 2 0)),(4,(.bref 4 0)),(8,(L 4 e_api_Entry a0)),(9,(.v (.int .i64 (a0.length:Int)))),(10,(.v (.int .i64 0)))],[(2,bx0),(4,(.box .ex [(.v (.int .i64 t1.Kind)),(S t1.Name.Space),(S t1.Name.Local),(L 3 e_api_Attr t1.Attrs),(.sref 1084),(S t1.Text)])),(1084,(.rows true 28 6 (([]:List T_api_Node).map e_api_Node)))]⟩) ?_ ?_
 ·refine .rn 1 ?_
  refine .cv (VOk.lenL (e:=e_api_Entry) (xs:=a0) rfl Tryz.underlying22 rfl) rfl rfl ?_
  refine .rn 1 ?_
  exact .dn
 refine Ok.block ?_
 refine Ok.loop (fun m29 σ => ∃ (y2_0_4:Int) (y2_1_5:Str) (y2_2_6:Str) (y2_3_7:List T_api_Attr) (y2_4_8:List T_api_Node) (y2_5_9:Str) (y4_0_10:Int) (y4_1_11:Str) (y4_2_12:Str) (y4_3_13:List T_api_Attr) (y4_5_14:Str) (y1084_15:List T_api_Node) (x10_3:Int),σ=⟨[(0,(L 4 e_api_Entry a0)),(2,(.bref 2 0)),(4,(.bref 4 0)),(8,(L 4 e_api_Entry a0)),(9,(.v (.int .i64 (a0.length:Int)))),(10,(.v (.int .i64 x10_3)))],[(2,(.box .ex [(.v (.int .i64 y2_0_4)),(S y2_1_5),(S y2_2_6),(L 3 e_api_Attr y2_3_7),(L 6 e_api_Node y2_4_8),(S y2_5_9)])),(4,(.box .ex [(.v (.int .i64 y4_0_10)),(S y4_1_11),(S y4_2_12),(L 3 e_api_Attr y4_3_13),(.sref 1084),(S y4_5_14)])),(1084,(.rows true 28 6 (y1084_15.map e_api_Node)))]⟩ ∧ lists_Encode.l0 k a0 m29 y2_0_4 y2_1_5 y2_2_6 y2_3_7 y2_4_8 y2_5_9 y4_0_10 y4_1_11 y4_2_12 y4_3_13 y4_5_14 y1084_15 x10_3=some r) k ⟨0,([]:Str),([]:Str),([]:List T_api_Attr),([]:List T_api_Node),([]:Str),t1.Kind,t1.Name.Space,t1.Name.Local,t1.Attrs,t1.Text,([]:List T_api_Node),0,rfl,H⟩ ?_
 rintro m29 σ ⟨y2_0_4,y2_1_5,y2_2_6,y2_3_7,y2_4_8,y2_5_9,y4_0_10,y4_1_11,y4_2_12,y4_3_13,y4_5_14,y1084_15,x10_3,rfl,H⟩
 cases m29 with
 | zero => exact absurd H (by simp [lists_Encode.l0])
 | succ m29 =>
  unfold lists_Encode.l0 at H
  refine Ok.seq ?_
  refine .rg [(0,(L 4 e_api_Entry a0)),(2,(.bref 2 0)),(4,(.bref 4 0)),(8,(L 4 e_api_Entry a0)),(9,(.v (.int .i64 (a0.length:Int)))),(10,(.v (.int .i64 x10_3))),(11,(.v (.bool (decide (x10_3 < (a0.length:Int))))))] [(2,(.box .ex [(.v (.int .i64 y2_0_4)),(S y2_1_5),(S y2_2_6),(L 3 e_api_Attr y2_3_7),(L 6 e_api_Node y2_4_8),(S y2_5_9)])),(4,(.box .ex [(.v (.int .i64 y4_0_10)),(S y4_1_11),(S y4_2_12),(L 3 e_api_Attr y4_3_13),(.sref 1084),(S y4_5_14)])),(1084,(.rows true 28 6 (y1084_15.map e_api_Node)))] ?_
  refine Ok.seq ?_
  refine Ok.test (b:=(decide (x10_3 < (a0.length:Int)))) rfl (fun hb42 => ?_) (fun hb42 => ?_)
  ·replace H:=ifT H hb42
   refine Ok.skip ?_
   refine Ok.seq ?_
   refine Ok.block ?_
   refine Ok.seq ?_
   obtain⟨c30,H⟩:=assertE H
   refine Ok.region (σ':=⟨[(0,(L 4 e_api_Entry a0)),(2,(.bref 2 0)),(4,(.bref 4 0)),(6,(.bref 6 0)),(8,(L 4 e_api_Entry a0)),(9,(.v (.int .i64 (a0.length:Int)))),(10,(.v (.int .i64 x10_3)))],[(2,(.box .ex [(.v (.int .i64 y2_0_4)),(S y2_1_5),(S y2_2_6),(L 3 e_api_Attr y2_3_7),(L 6 e_api_Node y2_4_8),(S y2_5_9)])),(4,(.box .ex [(.v (.int .i64 y4_0_10)),(S y4_1_11),(S y4_2_12),(L 3 e_api_Attr y4_3_13),(.sref 1084),(S y4_5_14)])),(6,(.box .ex (c_api_Entry (rd a0 x10_3)))),(1084,(.rows true 28 6 (y1084_15.map e_api_Node)))]⟩) ?_ ?_
   ·refine .cv (VOk.indexL (sz:=4) (e:=e_api_Entry) (xs:=a0) (i:=x10_3) rfl Tryz.underlying22 sz45 rfl rfl c30) rfl rfl ?_
    refine .rn 2 ?_
    refine OpsOk.cut1 13 (.agg [(.v (.int .i64 ((rd a0 x10_3).Kind))),(S ((rd a0 x10_3).URI)),(S ((rd a0 x10_3).Name)),(L 4 e_api_Entry ((rd a0 x10_3).List_))]) (DLe.of_eq (congrArg D.agg (e_api_Entry_c _).symm)) ?_
    refine .rn 1 ?_
    exact .dn
   refine Ok.seq ?_
   refine Ok.seq ?_
   obtain⟨t32,h33,H⟩:=bindE H
   refine Ok.region (σ':=⟨[(0,(L 4 e_api_Entry a0)),(2,(.bref 2 0)),(4,(.bref 4 0)),(6,(.bref 6 0)),(8,(L 4 e_api_Entry a0)),(9,(.v (.int .i64 (a0.length:Int)))),(10,(.v (.int .i64 x10_3))),(21,(.v (.bool ((((rd a0 x10_3).Kind) != 2) || (!t32)))))],[(2,(.box .ex [(.v (.int .i64 y2_0_4)),(S y2_1_5),(S y2_2_6),(L 3 e_api_Attr y2_3_7),(L 6 e_api_Node y2_4_8),(S y2_5_9)])),(4,(.box .ex [(.v (.int .i64 y4_0_10)),(S y4_1_11),(S y4_2_12),(L 3 e_api_Attr y4_3_13),(.sref 1084),(S y4_5_14)])),(6,(.box .ex (c_api_Entry (rd a0 x10_3)))),(1084,(.rows true 28 6 (y1084_15.map e_api_Node)))]⟩) ?_ ?_
   ·refine .rn 4 ?_
    refine OpsOk.consI rfl rfl rfl (.one rfl) rfl (fun hw31 => (VOk.g (VOk.to (d':=(.agg (e_api_Entry (rd a0 x10_3)))) (.loadBAgg rfl Tryz.underlying45 rfl sz45 rfl rfl rfl) (congrArg D.agg (e_api_Entry_c (rd a0 x10_3)).symm)))) ?_
    refine OpsOk.consI rfl rfl rfl (.one rfl) rfl (fun hw31 => (GOk.fr (fr':=[(18,(.agg (e_api_Entry (rd a0 x10_3))))]) ⟨DLe.of_eq (cT hw31).symm,trivial⟩ (GOk.call rfl rfl cl29 rfl (lists_may.ok (ifT h33 hw31)) rfl))) ?_
    refine OpsOk.consI rfl rfl rfl (.one rfl) rfl (fun hw31 => (GOk.fr (fr':=[(19,(.v (.bool t32)))]) ⟨DLe.of_eq (cT hw31).symm,trivial⟩ (VOk.g (VOk.not (b:=t32) rfl rfl)))) ?_
    refine .cv (VOk.to (VOk.pickI (b:=(((rd a0 x10_3).Kind) != 2)) (p:=true) (q:=(!t32)) rfl rfl (fun hp34 => rfl) (fun hp34 => (cT (f_beq hp34)))) (pickOr (((rd a0 x10_3).Kind) != 2) (!t32))) rfl rfl ?_
    exact .dn
   refine Ok.test (b:=((((rd a0 x10_3).Kind) != 2) || (!t32))) rfl (fun hb38 => ?_) (fun hb38 => ?_)
   ·replace H:=ifT H hb38
    refine Ok.seq ?_
    refine Ok.region (σ':=⟨[(2,(.bref 2 0)),(3,(.v (.int .i64 4)))],[(2,(bxN nN0))]⟩) ?_ ?_
    ·refine .cv (VOk.to (d':=(.agg (e_api_Node nN0))) (.build [none,none,none,some 3,some 6,none] [(0,1),(1,2),(3,1),(4,1),(5,1)] rfl Tryz.underlying28 (fa28 Tryz.underlying28) zo28 rfl rfl) (congrArg D.agg (e_api_Node_c nN0).symm)) rfl rfl ?_
     refine OpsOk.cut1 22 (.agg [(.v (.int .i64 (nN0.Kind))),(S (nN0.Name.Space)),(S (nN0.Name.Local)),(L 3 e_api_Attr (nN0.Attrs)),(L 6 e_api_Node (nN0.Kids)),(S (nN0.Text))]) (DLe.of_eq (congrArg D.agg (e_api_Node_c _).symm)) ?_
     refine .rn 2 ?_
     exact .dn
    refine Ok.ret ?_
    obtain rfl:=Option.some.inj H
    exact⟨.inl rfl,⟨_,(.cons (.cell (VOk.to (d':=(.agg (e_api_Node nN0))) (.loadBAgg rfl Tryz.underlying28 rfl sz28 rfl rfl rfl) (congrArg D.agg (e_api_Node_c nN0).symm))) (.cons (.tmp rfl) .nil)),rfl⟩,trivial⟩
   ·replace H:=ifF H hb38
    refine Ok.skip ?_
    obtain⟨t35,h36,H⟩:=bindE H
    obtain⟨c37,H⟩:=assertE H
    refine Ok.le (σ':=⟨[(0,(L 4 e_api_Entry a0)),(2,(.bref 2 0)),(4,(.bref 4 0)),(6,(.bref 6 0)),(8,(L 4 e_api_Entry a0)),(9,(.v (.int .i64 (a0.length:Int)))),(10,(.v (.int .i64 x10_3)))],[(2,(.box .ex [(.v (.int .i64 y2_0_4)),(S y2_1_5),(S y2_2_6),(L 3 e_api_Attr y2_3_7),(L 6 e_api_Node y2_4_8),(S y2_5_9)])),(4,(.box .ex [(.v (.int .i64 y4_0_10)),(S y4_1_11),(S y4_2_12),(L 3 e_api_Attr y4_3_13),(.sref 1084),(S y4_5_14)])),(6,(.box .ex (c_api_Entry (rd a0 x10_3)))),(1084,(.rows true 28 6 (y1084_15.map e_api_Node)))]⟩) (.rf rfl rfl) ?_
    refine Ok.drawE2 (σ':=⟨[(0,(L 4 e_api_Entry a0)),(2,(.bref 2 0)),(4,(.bref 4 0)),(8,(L 4 e_api_Entry a0)),(9,(.v (.int .i64 (a0.length:Int)))),(10,(.v (.int .i64 x10_3)))],[(2,(.box .ex [(.v (.int .i64 y2_0_4)),(S y2_1_5),(S y2_2_6),(L 3 e_api_Attr y2_3_7),(L 6 e_api_Node y2_4_8),(S y2_5_9)])),(4,(.box .ex [(.v (.int .i64 y4_0_10)),(S y4_1_11),(S y4_2_12),(L 3 e_api_Attr y4_3_13),(.sref 1084),(S y4_5_14)])),(1084,(.rows true 28 6 ((y1084_15 ++ ([t35]:List T_api_Node)).map e_api_Node)))]⟩) [⟨true,[(4,(.bref 4 0))],[(4,(.box .ex [(.v (.int .i64 y4_0_10)),(S y4_1_11),(S y4_2_12),(L 3 e_api_Attr y4_3_13),(.sref 1084),(S y4_5_14)]))],(.bref 4 4),[],false,[]⟩,⟨true,[(23,(.bref 4 4))],[(4,(.box .ex [(.v (.int .i64 y4_0_10)),(S y4_1_11),(S y4_2_12),(L 3 e_api_Attr y4_3_13),(.sref 1084),(S y4_5_14)]))],(.sref 1084),[],false,[]⟩,⟨true,[(6,(.bref 6 0))],[(6,(.box .ex (c_api_Entry (rd a0 x10_3))))],(.agg (e_api_Entry (rd a0 x10_3))),[],false,[]⟩,⟨true,[(25,(.agg (e_api_Entry (rd a0 x10_3))))],[],(.agg (e_api_Node t35)),[],false,[]⟩,⟨true,[(26,(.agg (e_api_Node t35)))],[],(L 6 e_api_Node ([t35]:List T_api_Node)),[],false,[]⟩,⟨true,[(24,(.sref 1084)),(27,(L 6 e_api_Node ([t35]:List T_api_Node)))],[(1084,(.rows true 28 6 (y1084_15.map e_api_Node)))],(.sref 28),[(28,(.rows true 28 6 ((y1084_15 ++ ([t35]:List T_api_Node)).map e_api_Node))),(1084,.none)],true,[]⟩,⟨true,[(4,(.bref 4 0))],[(4,(.box .ex [(.v (.int .i64 y4_0_10)),(S y4_1_11),(S y4_2_12),(L 3 e_api_Attr y4_3_13),(.sref 1084),(S y4_5_14)]))],(.bref 4 4),[],false,[]⟩,⟨true,[(29,(.bref 4 4)),(28,(.sref 28))],[(4,(.box .ex [(.v (.int .i64 y4_0_10)),(S y4_1_11),(S y4_2_12),(L 3 e_api_Attr y4_3_13),(.sref 1084),(S y4_5_14)])),(28,(.rows true 28 6 ((y1084_15 ++ ([t35]:List T_api_Node)).map e_api_Node)))],.junk,[(4,(.box .ex [(.v (.int .i64 y4_0_10)),(S y4_1_11),(S y4_2_12),(L 3 e_api_Attr y4_3_13),(.sref 28),(S y4_5_14)]))],false,[]⟩] [[],[0],[],[2],[3],[1,4],[],[0,1,5,6]] mixed (by kernel_rfl) ?_ ?_
    ·refine TxtE2.cons ⟨.same _,trivial⟩ ⟨rfl,trivial⟩ (It2.val rfl rfl (fun T hT => (VOk.g (VOk.to (VOk.fieldB rfl Tryz.underlying28 rfl sz26 rfl hT.1) rfl)))) ?_
     refine TxtE2.cons ⟨.same _,trivial⟩ ⟨rfl,trivial⟩ (It2.val rfl rfl (fun T hT => (VOk.g (VOk.loadB (d:=(.sref 1084)) rfl Tryz.underlying26 rfl rfl hT.1 rfl)))) ?_
     refine TxtE2.cons ⟨.same _,trivial⟩ ⟨rfl,trivial⟩ (It2.val rfl rfl (fun T hT => (VOk.g (VOk.to (d':=(.agg (e_api_Entry (rd a0 x10_3)))) (.loadBAgg rfl Tryz.underlying45 rfl sz45 rfl hT.1 rfl) (congrArg D.agg (e_api_Entry_c (rd a0 x10_3)).symm))))) ?_
     refine TxtE2.cons ⟨.same _,trivial⟩ trivial (It2.val rfl rfl (fun T hT => (GOk.call rfl rfl cl30 rfl (lists_encode.ok h36) rfl))) ?_
     refine TxtE2.cons ⟨.same _,trivial⟩ trivial (It2.val rfl rfl (fun T hT => (GOk.to (d':=(L 6 e_api_Node ([t35]:List T_api_Node))) (GOk.lit rfl Tryz.underlying26 sz28 zs28 rfl rfl rfl rfl) rfl))) ?_
     refine TxtE2.cons ⟨.same _,.same _,trivial⟩ ⟨rfl,trivial⟩ (It2.appendL 28 (e:=e_api_Node) (xs:=y1084_15) (ys:=([t35]:List T_api_Node)) rfl rfl Tryz.underlying26 elt28 rfl rfl rfl rfl c37 rfl rfl) ?_
     refine TxtE2.cons ⟨.same _,trivial⟩ ⟨rfl,trivial⟩ (It2.val rfl rfl (fun T hT => (VOk.g (VOk.to (VOk.fieldB rfl Tryz.underlying28 rfl sz26 rfl hT.1) rfl)))) ?_
     refine TxtE2.cons ⟨.same _,.same _,trivial⟩ ⟨rfl,rfl,trivial⟩ (It2.store rfl rfl sz26 rfl rfl rfl rfl rfl rfl rfl rfl) ?_
     exact .doneS (SLe.trans (Le.s (.rf rfl rfl)) (SLe.ren 28 1084 rfl rfl))
    refine .rg [(0,(L 4 e_api_Entry a0)),(2,(.bref 2 0)),(4,(.bref 4 0)),(8,(L 4 e_api_Entry a0)),(9,(.v (.int .i64 (a0.length:Int)))),(10,(.v (.int .i64 (IntKind.i64.wrap (x10_3 + 1)))))] [(2,(.box .ex [(.v (.int .i64 y2_0_4)),(S y2_1_5),(S y2_2_6),(L 3 e_api_Attr y2_3_7),(L 6 e_api_Node y2_4_8),(S y2_5_9)])),(4,(.box .ex [(.v (.int .i64 y4_0_10)),(S y4_1_11),(S y4_2_12),(L 3 e_api_Attr y4_3_13),(.sref 1084),(S y4_5_14)])),(1084,(.rows true 28 6 ((y1084_15 ++ ([t35]:List T_api_Node)).map e_api_Node)))] ?_
    exact⟨m29,Nat.lt_succ_self m29,y2_0_4,y2_1_5,y2_2_6,y2_3_7,y2_4_8,y2_5_9,y4_0_10,y4_1_11,y4_2_12,y4_3_13,y4_5_14,(y1084_15 ++ ([t35]:List T_api_Node)),(IntKind.i64.wrap (x10_3 + 1)),rfl,H⟩
  ·replace H:=ifF H hb42
   refine Ok.exit ?_
   refine Ok.seq ?_
   refine Ok.seq ?_
   obtain⟨t39,h40,H⟩:=bindE H
   refine Ok.region (σ':=⟨[(2,(.bref 2 0)),(4,(.bref 4 0)),(33,(.v (.bool (!t39))))],[(2,(.box .ex [(.v (.int .i64 y2_0_4)),(S y2_1_5),(S y2_2_6),(L 3 e_api_Attr y2_3_7),(L 6 e_api_Node y2_4_8),(S y2_5_9)])),(4,(.box .ex [(.v (.int .i64 y4_0_10)),(S y4_1_11),(S y4_2_12),(L 3 e_api_Attr y4_3_13),(.sref 1084),(S y4_5_14)])),(1084,(.rows true 28 6 (y1084_15.map e_api_Node)))]⟩) ?_ ?_
   ·refine .rn 1 ?_
    refine .cg (GOk.call rfl rfl cl27 rfl (lists_unique.ok h40) rfl) rfl rfl ?_
    refine .rn 1 ?_
    exact .dn
   refine Ok.test (b:=(!t39)) rfl (fun hb41 => ?_) (fun hb41 => ?_)
   ·replace H:=ifT H hb41
    refine Ok.seq ?_
    refine Ok.region (σ':=⟨[(2,(.bref 2 0)),(3,(.v (.int .i64 41)))],[(2,(bxN nN0))]⟩) ?_ ?_
    ·refine .cv (VOk.to (d':=(.agg (e_api_Node nN0))) (.build [none,none,none,some 3,some 6,none] [(0,1),(1,2),(3,1),(4,1),(5,1)] rfl Tryz.underlying28 (fa28 Tryz.underlying28) zo28 rfl rfl) (congrArg D.agg (e_api_Node_c nN0).symm)) rfl rfl ?_
     refine OpsOk.cut1 34 (.agg [(.v (.int .i64 (nN0.Kind))),(S (nN0.Name.Space)),(S (nN0.Name.Local)),(L 3 e_api_Attr (nN0.Attrs)),(L 6 e_api_Node (nN0.Kids)),(S (nN0.Text))]) (DLe.of_eq (congrArg D.agg (e_api_Node_c _).symm)) ?_
     refine .rn 2 ?_
     exact .dn
    refine Ok.ret ?_
    obtain rfl:=Option.some.inj H
    exact⟨.inl rfl,⟨_,(.cons (.cell (VOk.to (d':=(.agg (e_api_Node nN0))) (.loadBAgg rfl Tryz.underlying28 rfl sz28 rfl rfl rfl) (congrArg D.agg (e_api_Node_c nN0).symm))) (.cons (.tmp rfl) .nil)),rfl⟩,trivial⟩
   ·replace H:=ifF H hb41
    refine Ok.skip ?_
    refine Ok.seq ?_
    refine Ok.region (σ':=⟨[(2,(.bref 2 0)),(3,(.v (.int .i64 0)))],[(2,(.box .ex (c_api_Node (T_api_Node.mk y4_0_10 (T_api_Name.mk y4_1_11 y4_2_12) y4_3_13 y1084_15 y4_5_14))))]⟩) ?_ ?_
    ·refine OpsOk.frzL 1084 (e:=e_api_Node) (xs:=y1084_15) rfl ?_
     refine .cv (VOk.to (d':=(.agg (e_api_Node (T_api_Node.mk y4_0_10 (T_api_Name.mk y4_1_11 y4_2_12) y4_3_13 y1084_15 y4_5_14)))) (.loadBAgg rfl Tryz.underlying28 rfl sz28 rfl rfl rfl) (congrArg D.agg (e_api_Node_c (T_api_Node.mk y4_0_10 (T_api_Name.mk y4_1_11 y4_2_12) y4_3_13 y1084_15 y4_5_14)).symm)) rfl rfl ?_
     refine OpsOk.cut1 35 (.agg [(.v (.int .i64 ((T_api_Node.mk y4_0_10 (T_api_Name.mk y4_1_11 y4_2_12) y4_3_13 y1084_15 y4_5_14).Kind))),(S ((T_api_Node.mk y4_0_10 (T_api_Name.mk y4_1_11 y4_2_12) y4_3_13 y1084_15 y4_5_14).Name.Space)),(S ((T_api_Node.mk y4_0_10 (T_api_Name.mk y4_1_11 y4_2_12) y4_3_13 y1084_15 y4_5_14).Name.Local)),(L 3 e_api_Attr ((T_api_Node.mk y4_0_10 (T_api_Name.mk y4_1_11 y4_2_12) y4_3_13 y1084_15 y4_5_14).Attrs)),(L 6 e_api_Node ((T_api_Node.mk y4_0_10 (T_api_Name.mk y4_1_11 y4_2_12) y4_3_13 y1084_15 y4_5_14).Kids)),(S ((T_api_Node.mk y4_0_10 (T_api_Name.mk y4_1_11 y4_2_12) y4_3_13 y1084_15 y4_5_14).Text))]) (DLe.of_eq (congrArg D.agg (e_api_Node_c _).symm)) ?_
     refine .rn 2 ?_
     exact .dn
    refine Ok.ret ?_
    obtain rfl:=Option.some.inj H
    exact⟨.inl rfl,⟨_,(.cons (.cell (VOk.to (d':=(.agg (e_api_Node (T_api_Node.mk y4_0_10 (T_api_Name.mk y4_1_11 y4_2_12) y4_3_13 y1084_15 y4_5_14)))) (.loadBAgg rfl Tryz.underlying28 rfl sz28 rfl rfl rfl) (congrArg D.agg (e_api_Node_c (T_api_Node.mk y4_0_10 (T_api_Name.mk y4_1_11 y4_2_12) y4_3_13 y1084_15 y4_5_14)).symm))) (.cons (.tmp rfl) .nil)),rfl⟩,trivial⟩
def lists_Check (k:Nat) (a0:T_api_Node):Option Int:=((lists_Decode k a0).bind fun (t1:(List T_api_Entry) × Int) => some t1.2)
theorem lists_Check.ok {k:Nat} {a0:T_api_Node} {r:Int} (H:lists_Check k a0=some r):Vx.Fn Tryz.prog 13 [(.agg (e_api_Node a0))] [] (.v (.int .i64 r)) []:=by
 unfold lists_Check at H
 refine Vx.Fn.of_okR Tryz.func13 rfl (Nat.le_of_ble_eq_true rfl) ?_
 refine Ok.seq ?_
 refine Ok.region (σ':=⟨[(1,(.bref 1 0))],[(1,(bxN a0))]⟩) ?_ ?_
 ·refine OpsOk.cut1 0 (.agg (c_api_Node a0)) (DLe.of_eq (congrArg D.agg (e_api_Node_c _).symm)) ?_
  refine .rn 2 ?_
  exact .dn
 refine Ok.seq ?_
 obtain⟨t1,h2,H⟩:=bindE H
 refine Ok.region (σ':=⟨[(4,(.v (.int .i64 t1.2)))],[]⟩) ?_ ?_
 ·refine .cv (VOk.to (d':=(.agg (e_api_Node a0))) (.loadBAgg rfl Tryz.underlying28 rfl sz28 rfl rfl rfl) (congrArg D.agg (e_api_Node_c a0).symm)) rfl rfl ?_
  refine .cg (GOk.call rfl rfl cl10 rfl (lists_Decode.ok h2) rfl) rfl rfl ?_
  refine .rn 5 ?_
  exact .dn
 refine Ok.seq ?_
 refine .rg [(2,(.v (.int .i64 t1.2)))] [] ?_
 refine Ok.ret ?_
 obtain rfl:=Option.some.inj H
 exact⟨.inl rfl,⟨_,(.cons (.tmp rfl) .nil),rfl⟩,trivial⟩
def watchbilllaw16_weigh.l0 (k:Nat) (self:List T_api_Entry→Int→Option Int) (a0:List T_api_Entry) (a1:Int):Nat→Int→Int→Option Int
 | 0,_,_ => none
 | m5 + 1,x5_1,x6_2 => (if ((decide (x6_2 < (a0.length:Int))) && (decide (x5_1 ≤ a1)))=true then (if (0:Int) ≤ x6_2 ∧ x6_2 < (a0.length:Int) then (if (0:Int) ≤ x6_2 ∧ x6_2 < (a0.length:Int) then (if (decide ((IntKind.i64.wrap ((IntKind.i64.wrap ((IntKind.i64.wrap (x5_1 + 1)) + (if a1 < (((rd a0 x6_2).URI).length:Int) then a1 else (((rd a0 x6_2).URI).length:Int)))) + (if a1 < (((rd a0 x6_2).Name).length:Int) then a1 else (((rd a0 x6_2).Name).length:Int)))) ≤ a1))=true then (if (0:Int) ≤ x6_2 ∧ x6_2 < (a0.length:Int) then ((self ((rd a0 x6_2).List_) (IntKind.i64.wrap (a1 - (IntKind.i64.wrap ((IntKind.i64.wrap ((IntKind.i64.wrap (x5_1 + 1)) + (if a1 < (((rd a0 x6_2).URI).length:Int) then a1 else (((rd a0 x6_2).URI).length:Int)))) + (if a1 < (((rd a0 x6_2).Name).length:Int) then a1 else (((rd a0 x6_2).Name).length:Int))))))).bind fun (t11:Int) => watchbilllaw16_weigh.l0 k self a0 a1 m5 (IntKind.i64.wrap ((IntKind.i64.wrap ((IntKind.i64.wrap ((IntKind.i64.wrap (x5_1 + 1)) + (if a1 < (((rd a0 x6_2).URI).length:Int) then a1 else (((rd a0 x6_2).URI).length:Int)))) + (if a1 < (((rd a0 x6_2).Name).length:Int) then a1 else (((rd a0 x6_2).Name).length:Int)))) + t11)) (IntKind.i64.wrap (x6_2 + 1))) else none) else watchbilllaw16_weigh.l0 k self a0 a1 m5 (IntKind.i64.wrap ((IntKind.i64.wrap ((IntKind.i64.wrap (x5_1 + 1)) + (if a1 < (((rd a0 x6_2).URI).length:Int) then a1 else (((rd a0 x6_2).URI).length:Int)))) + (if a1 < (((rd a0 x6_2).Name).length:Int) then a1 else (((rd a0 x6_2).Name).length:Int)))) (IntKind.i64.wrap (x6_2 + 1))) else none) else none) else some x5_1)
def watchbilllaw16_weigh:Nat→List T_api_Entry→Int→Option Int
 | 0,_,_ => none
 | k + 1,a0,a1 => watchbilllaw16_weigh.l0 k (watchbilllaw16_weigh k) a0 a1 k 0 0
theorem watchbilllaw16_weigh.ok {k:Nat} {a0:List T_api_Entry} {a1:Int} {r:Int} (H:watchbilllaw16_weigh k a0 a1=some r):Vx.Fn Tryz.prog 22 [(L 4 e_api_Entry a0),(.v (.int .i64 a1))] [] (.v (.int .i64 r)) []:=by
 induction k generalizing a0 a1 r with
 | zero => exact absurd H (by simp [watchbilllaw16_weigh])
 | succ k ih =>
  unfold watchbilllaw16_weigh at H
  refine Vx.Fn.of_okR Tryz.func22 rfl (Nat.le_of_ble_eq_true rfl) ?_
  refine Ok.seq ?_
  refine .rg [(0,(L 4 e_api_Entry a0)),(1,(.v (.int .i64 a1)))] [] ?_
  refine Ok.seq ?_
  refine .rg [(0,(L 4 e_api_Entry a0)),(1,(.v (.int .i64 a1))),(5,(.v (.int .i64 0)))] [] ?_
  refine Ok.seq ?_
  refine Ok.seq ?_
  refine .rg [(0,(L 4 e_api_Entry a0)),(1,(.v (.int .i64 a1))),(5,(.v (.int .i64 0))),(6,(.v (.int .i64 0)))] [] ?_
  refine Ok.block ?_
  refine Ok.loop (fun m5 σ => ∃ (x5_1:Int) (x6_2:Int),σ=⟨[(0,(L 4 e_api_Entry a0)),(1,(.v (.int .i64 a1))),(5,(.v (.int .i64 x5_1))),(6,(.v (.int .i64 x6_2)))],[]⟩ ∧ watchbilllaw16_weigh.l0 k (watchbilllaw16_weigh k) a0 a1 m5 x5_1 x6_2=some r) k ⟨0,0,rfl,H⟩ ?_
  rintro m5 σ ⟨x5_1,x6_2,rfl,H⟩
  cases m5 with
  | zero => exact absurd H (by simp [watchbilllaw16_weigh.l0])
  | succ m5 =>
   unfold watchbilllaw16_weigh.l0 at H
   refine Ok.seq ?_
   refine Ok.seq ?_
   refine Ok.region (σ':=⟨[(0,(L 4 e_api_Entry a0)),(1,(.v (.int .i64 a1))),(5,(.v (.int .i64 x5_1))),(6,(.v (.int .i64 x6_2))),(15,(.v (.bool ((decide (x6_2 < (a0.length:Int))) && (decide (x5_1 ≤ a1))))))],[]⟩) ?_ ?_
   ·refine .rn 2 ?_
    refine .cv (VOk.lenL (e:=e_api_Entry) (xs:=a0) rfl Tryz.underlying22 rfl) rfl rfl ?_
    refine .rn 2 ?_
    refine OpsOk.consI rfl rfl rfl (.one rfl) rfl (fun hw6 => (VOk.g (VOk.mv (d:=(.v (.int .i64 x5_1))) rfl rfl))) ?_
    refine OpsOk.consI rfl rfl rfl (.one rfl) rfl (fun hw6 => (VOk.g (VOk.mv (d:=(.v (.int .i64 a1))) rfl rfl))) ?_
    refine OpsOk.consI rfl rfl rfl (.one rfl) rfl (fun hw6 => (GOk.fr (fr':=[(12,(.v (.int .i64 x5_1))),(13,(.v (.int .i64 a1)))]) ⟨DLe.of_eq (cT hw6).symm,DLe.of_eq (cT hw6).symm,trivial⟩ (VOk.g (VOk.arith (op:=.leq) (k:=.i64) (a:=x5_1) (b:=a1) rfl rfl rfl rfl)))) ?_
    refine .cv (VOk.to (VOk.pickI (b:=(decide (x6_2 < (a0.length:Int)))) (p:=(decide (x5_1 ≤ a1))) (q:=false) rfl rfl (fun hp7 => (cT (t_beq hp7))) (fun hp7 => rfl)) (pickAnd (decide (x6_2 < (a0.length:Int))) (decide (x5_1 ≤ a1)))) rfl rfl ?_
    exact .dn
   refine Ok.test (b:=((decide (x6_2 < (a0.length:Int))) && (decide (x5_1 ≤ a1)))) rfl (fun hb14 => ?_) (fun hb14 => ?_)
   ·replace H:=ifT H hb14
    refine Ok.skip ?_
    refine Ok.seq ?_
    refine Ok.block ?_
    refine Ok.seq ?_
    obtain⟨c8,H⟩:=assertE H
    obtain⟨c9,H⟩:=assertE H
    refine .dA [(0,(L 4 e_api_Entry a0)),(1,(.v (.int .i64 a1))),(5,(.v (.int .i64 (IntKind.i64.wrap ((IntKind.i64.wrap ((IntKind.i64.wrap (x5_1 + 1)) + (if a1 < (((rd a0 x6_2).URI).length:Int) then a1 else (((rd a0 x6_2).URI).length:Int)))) + (if a1 < (((rd a0 x6_2).Name).length:Int) then a1 else (((rd a0 x6_2).Name).length:Int))))))),(6,(.v (.int .i64 x6_2)))] [] [[],[0],[],[],[2,3],[4],[5],[6],[],[7,8],[1,9],[],[],[11,12],[13],[14],[15],[],[16,17],[10,18],[0,19]] mixed ?_ ?_
    ·refine .tn 4 ?_
     refine .tc (VOk.g (VOk.indexL (sz:=4) (e:=e_api_Entry) (xs:=a0) (i:=x6_2) rfl Tryz.underlying22 sz45 rfl rfl c8)) ?_
     refine .tn 2 ?_
     refine .tc (VOk.g (VOk.lenStr (s:=(rd a0 x6_2).URI) rfl Tryz.underlying9 rfl)) ?_
     refine .tn 1 ?_
     refine .tc (VOk.g (VOk.min2 (a:=(((rd a0 x6_2).URI).length:Int)) (b:=a1) rfl rfl rfl)) ?_
     refine .tn 3 ?_
     refine .tc (VOk.g (VOk.indexL (sz:=4) (e:=e_api_Entry) (xs:=a0) (i:=x6_2) rfl Tryz.underlying22 sz45 rfl rfl c9)) ?_
     refine .tn 2 ?_
     refine .tc (VOk.g (VOk.lenStr (s:=(rd a0 x6_2).Name) rfl Tryz.underlying9 rfl)) ?_
     refine .tn 1 ?_
     refine .tc (VOk.g (VOk.min2 (a:=(((rd a0 x6_2).Name).length:Int)) (b:=a1) rfl rfl rfl)) ?_
     refine .tn 2 ?_
     exact .dn
    refine Ok.seq ?_
    refine .rg [(0,(L 4 e_api_Entry a0)),(1,(.v (.int .i64 a1))),(5,(.v (.int .i64 (IntKind.i64.wrap ((IntKind.i64.wrap ((IntKind.i64.wrap (x5_1 + 1)) + (if a1 < (((rd a0 x6_2).URI).length:Int) then a1 else (((rd a0 x6_2).URI).length:Int)))) + (if a1 < (((rd a0 x6_2).Name).length:Int) then a1 else (((rd a0 x6_2).Name).length:Int))))))),(6,(.v (.int .i64 x6_2))),(40,(.v (.bool (decide ((IntKind.i64.wrap ((IntKind.i64.wrap ((IntKind.i64.wrap (x5_1 + 1)) + (if a1 < (((rd a0 x6_2).URI).length:Int) then a1 else (((rd a0 x6_2).URI).length:Int)))) + (if a1 < (((rd a0 x6_2).Name).length:Int) then a1 else (((rd a0 x6_2).Name).length:Int)))) ≤ a1)))))] [] ?_
    refine Ok.test (b:=(decide ((IntKind.i64.wrap ((IntKind.i64.wrap ((IntKind.i64.wrap (x5_1 + 1)) + (if a1 < (((rd a0 x6_2).URI).length:Int) then a1 else (((rd a0 x6_2).URI).length:Int)))) + (if a1 < (((rd a0 x6_2).Name).length:Int) then a1 else (((rd a0 x6_2).Name).length:Int)))) ≤ a1))) rfl (fun hb13 => ?_) (fun hb13 => ?_)
    ·replace H:=ifT H hb13
     obtain⟨c10,H⟩:=assertE H
     obtain⟨t11,h12,H⟩:=bindE H
     refine Ok.region (σ':=⟨[(0,(L 4 e_api_Entry a0)),(1,(.v (.int .i64 a1))),(5,(.v (.int .i64 (IntKind.i64.wrap ((IntKind.i64.wrap ((IntKind.i64.wrap ((IntKind.i64.wrap (x5_1 + 1)) + (if a1 < (((rd a0 x6_2).URI).length:Int) then a1 else (((rd a0 x6_2).URI).length:Int)))) + (if a1 < (((rd a0 x6_2).Name).length:Int) then a1 else (((rd a0 x6_2).Name).length:Int)))) + t11))))),(6,(.v (.int .i64 x6_2)))],[]⟩) ?_ ?_
     ·refine .rn 3 ?_
      refine .cv (VOk.indexL (sz:=4) (e:=e_api_Entry) (xs:=a0) (i:=x6_2) rfl Tryz.underlying22 sz45 rfl rfl c10) rfl rfl ?_
      refine .rn 1 ?_
      refine .cv (VOk.to (d':=(L 4 e_api_Entry ((rd a0 x6_2).List_))) (VOk.loadFp (d:=(L 4 r_api_Entry ((rd a0 x6_2).List_))) rfl Tryz.underlying22 rfl rfl rfl) (by rw [r_api_Entry_eq])) rfl rfl ?_
      refine .rn 3 ?_
      refine .cg (GOk.call rfl rfl cl22 rfl (@ih _ _ _ h12) rfl) rfl rfl ?_
      refine .rn 2 ?_
      exact .dn
     refine .rg [(0,(L 4 e_api_Entry a0)),(1,(.v (.int .i64 a1))),(5,(.v (.int .i64 (IntKind.i64.wrap ((IntKind.i64.wrap ((IntKind.i64.wrap ((IntKind.i64.wrap (x5_1 + 1)) + (if a1 < (((rd a0 x6_2).URI).length:Int) then a1 else (((rd a0 x6_2).URI).length:Int)))) + (if a1 < (((rd a0 x6_2).Name).length:Int) then a1 else (((rd a0 x6_2).Name).length:Int)))) + t11))))),(6,(.v (.int .i64 (IntKind.i64.wrap (x6_2 + 1)))))] [] ?_
     exact⟨m5,Nat.lt_succ_self m5,(IntKind.i64.wrap ((IntKind.i64.wrap ((IntKind.i64.wrap ((IntKind.i64.wrap (x5_1 + 1)) + (if a1 < (((rd a0 x6_2).URI).length:Int) then a1 else (((rd a0 x6_2).URI).length:Int)))) + (if a1 < (((rd a0 x6_2).Name).length:Int) then a1 else (((rd a0 x6_2).Name).length:Int)))) + t11)),(IntKind.i64.wrap (x6_2 + 1)),rfl,H⟩
    ·replace H:=ifF H hb13
     refine Ok.skip ?_
     refine .rg [(0,(L 4 e_api_Entry a0)),(1,(.v (.int .i64 a1))),(5,(.v (.int .i64 (IntKind.i64.wrap ((IntKind.i64.wrap ((IntKind.i64.wrap (x5_1 + 1)) + (if a1 < (((rd a0 x6_2).URI).length:Int) then a1 else (((rd a0 x6_2).URI).length:Int)))) + (if a1 < (((rd a0 x6_2).Name).length:Int) then a1 else (((rd a0 x6_2).Name).length:Int))))))),(6,(.v (.int .i64 (IntKind.i64.wrap (x6_2 + 1)))))] [] ?_
     exact⟨m5,Nat.lt_succ_self m5,(IntKind.i64.wrap ((IntKind.i64.wrap ((IntKind.i64.wrap (x5_1 + 1)) + (if a1 < (((rd a0 x6_2).URI).length:Int) then a1 else (((rd a0 x6_2).URI).length:Int)))) + (if a1 < (((rd a0 x6_2).Name).length:Int) then a1 else (((rd a0 x6_2).Name).length:Int)))),(IntKind.i64.wrap (x6_2 + 1)),rfl,H⟩
   ·replace H:=ifF H hb14
    refine Ok.exit ?_
    refine Ok.seq ?_
    refine .rg [(4,(.v (.int .i64 x5_1)))] [] ?_
    refine Ok.ret ?_
    obtain rfl:=Option.some.inj H
    exact⟨.inl rfl,⟨_,(.cons (.tmp rfl) .nil),rfl⟩,trivial⟩
def watchbilllaw16_Few (k:Nat) (a0:List T_api_Entry):Option Bool:=((watchbilllaw16_weigh k a0 5000).bind fun (t1:Int) => some (decide (t1 ≤ 5000)))
theorem watchbilllaw16_Few.ok {k:Nat} {a0:List T_api_Entry} {r:Bool} (H:watchbilllaw16_Few k a0=some r):Vx.Fn Tryz.prog 8 [(L 4 e_api_Entry a0)] [] (.v (.bool r)) []:=by
 unfold watchbilllaw16_Few at H
 refine Vx.Fn.of_okR Tryz.func8 rfl (Nat.le_of_ble_eq_true rfl) ?_
 refine Ok.seq ?_
 refine .rg [(0,(L 4 e_api_Entry a0))] [] ?_
 refine Ok.seq ?_
 obtain⟨t1,h2,H⟩:=bindE H
 refine Ok.region (σ':=⟨[(2,(.v (.bool (decide (t1 ≤ 5000)))))],[]⟩) ?_ ?_
 ·refine .rn 1 ?_
  refine .cg (GOk.call rfl rfl cl22 rfl (watchbilllaw16_weigh.ok h2) rfl) rfl rfl ?_
  refine .rn 2 ?_
  exact .dn
 refine Ok.ret ?_
 obtain rfl:=Option.some.inj H
 exact⟨.inl rfl,⟨_,(.cons (.tmp rfl) .nil),rfl⟩,trivial⟩
def watchbillref01_Blank (a0:Int):Option Bool:=some ((((a0 == 9) || (a0 == 10)) || (a0 == 13)) || (a0 == 32))
theorem watchbillref01_Blank.ok {a0:Int} {r:Bool} (H:watchbillref01_Blank a0=some r):Vx.Fn Tryz.prog 58 [(.v (.int .u8 a0))] [] (.v (.bool r)) []:=by
 unfold watchbillref01_Blank at H
 refine Vx.Fn.of_okR Tryz.func58 rfl (Nat.le_of_ble_eq_true rfl) ?_
 refine Ok.seq ?_
 refine .rg [(0,(.v (.int .u8 a0)))] [] ?_
 refine Ok.seq ?_
 refine Ok.region (σ':=⟨[(2,(.v (.bool ((((a0 == 9) || (a0 == 10)) || (a0 == 13)) || (a0 == 32)))))],[]⟩) ?_ ?_
 ·refine .rn 3 ?_
  refine OpsOk.consI rfl rfl rfl (.one rfl) rfl (fun hw1 => (VOk.g (VOk.mv (d:=(.v (.int .u8 a0))) rfl rfl))) ?_
  refine OpsOk.consI rfl rfl rfl (.one rfl) rfl (fun hw1 => (GOk.fr (fr':=[(6,(.v (.int .u8 a0)))]) ⟨DLe.of_eq (cT hw1).symm,trivial⟩ (VOk.g (VOk.arith (op:=.eql) (k:=.u8) (a:=a0) (b:=10) rfl rfl rfl rfl)))) ?_
  refine .cv (VOk.to (VOk.pickI (b:=(a0 == 9)) (p:=true) (q:=(a0 == 10)) rfl rfl (fun hp2 => rfl) (fun hp2 => (cT (f_beq hp2)))) (pickOr (a0 == 9) (a0 == 10))) rfl rfl ?_
  refine .rn 1 ?_
  refine OpsOk.consI rfl rfl rfl (.one rfl) rfl (fun hw3 => (VOk.g (VOk.mv (d:=(.v (.int .u8 a0))) rfl rfl))) ?_
  refine OpsOk.consI rfl rfl rfl (.one rfl) rfl (fun hw3 => (GOk.fr (fr':=[(10,(.v (.int .u8 a0)))]) ⟨DLe.of_eq (cT hw3).symm,trivial⟩ (VOk.g (VOk.arith (op:=.eql) (k:=.u8) (a:=a0) (b:=13) rfl rfl rfl rfl)))) ?_
  refine .cv (VOk.to (VOk.pickI (b:=((a0 == 9) || (a0 == 10))) (p:=true) (q:=(a0 == 13)) rfl rfl (fun hp4 => rfl) (fun hp4 => (cT (f_beq hp4)))) (pickOr ((a0 == 9) || (a0 == 10)) (a0 == 13))) rfl rfl ?_
  refine .rn 1 ?_
  refine OpsOk.consI rfl rfl rfl (.one rfl) rfl (fun hw5 => (VOk.g (VOk.mv (d:=(.v (.int .u8 a0))) rfl rfl))) ?_
  refine OpsOk.consI rfl rfl rfl (.one rfl) rfl (fun hw5 => (GOk.fr (fr':=[(14,(.v (.int .u8 a0)))]) ⟨DLe.of_eq (cT hw5).symm,trivial⟩ (VOk.g (VOk.arith (op:=.eql) (k:=.u8) (a:=a0) (b:=32) rfl rfl rfl rfl)))) ?_
  refine .cv (VOk.to (VOk.pickI (b:=(((a0 == 9) || (a0 == 10)) || (a0 == 13))) (p:=true) (q:=(a0 == 32)) rfl rfl (fun hp6 => rfl) (fun hp6 => (cT (f_beq hp6)))) (pickOr (((a0 == 9) || (a0 == 10)) || (a0 == 13)) (a0 == 32))) rfl rfl ?_
  refine .rn 1 ?_
  exact .dn
 refine Ok.ret ?_
 obtain rfl:=Option.some.inj H
 exact⟨.inl rfl,⟨_,(.cons (.tmp rfl) .nil),rfl⟩,trivial⟩
def watchbillref01_Trim.l1 (k:Nat) (a0:Str) (x3_1:Int):Nat→Int→Option Str
 | 0,_ => none
 | m11 + 1,x4_9 => (if (((decide (x4_9 > x3_1)) == true)=true→(0:Int) ≤ (IntKind.i64.wrap (x4_9 - 1)) ∧ (IntKind.i64.wrap (x4_9 - 1)) < (a0.length:Int)) then (((if ((decide (x4_9 > x3_1)) == true)=true then watchbillref01_Blank (bt a0 (IntKind.i64.wrap (x4_9 - 1))) else some default)).bind fun (t14:Bool) => (if ((decide (x4_9 > x3_1)) && t14)=true then watchbillref01_Trim.l1 k a0 x3_1 m11 (IntKind.i64.wrap (x4_9 - 1)) else (if (0:Int) ≤ x3_1 ∧ x3_1 ≤ x4_9 ∧ x4_9 ≤ (a0.length:Int) then some (sl a0 x3_1 x4_9) else none))) else none)
def watchbillref01_Trim.l0 (k:Nat) (a0:Str):Nat→Int→Option Str
 | 0,_ => none
 | m3 + 1,x3_1 => (if (((decide (x3_1 < (a0.length:Int))) == true)=true→(0:Int) ≤ x3_1 ∧ x3_1 < (a0.length:Int)) then (((if ((decide (x3_1 < (a0.length:Int))) == true)=true then watchbillref01_Blank (bt a0 x3_1) else some default)).bind fun (t6:Bool) => (if ((decide (x3_1 < (a0.length:Int))) && t6)=true then watchbillref01_Trim.l0 k a0 m3 (IntKind.i64.wrap (x3_1 + 1)) else watchbillref01_Trim.l1 k a0 x3_1 k (a0.length:Int))) else none)
def watchbillref01_Trim (k:Nat) (a0:Str):Option Str:=watchbillref01_Trim.l0 k a0 k 0
theorem watchbillref01_Trim.ok {k:Nat} {a0:Str} {r:Str} (H:watchbillref01_Trim k a0=some r):Vx.Fn Tryz.prog 44 [(S a0)] [] (S r) []:=by
 unfold watchbillref01_Trim at H
 refine Vx.Fn.of_okR Tryz.func44 rfl (Nat.le_of_ble_eq_true rfl) ?_
 refine Ok.seq ?_
 refine .rg [(0,(S a0))] [] ?_
 refine Ok.seq ?_
 refine .rg [(0,(S a0)),(3,(.v (.int .i64 0)))] [] ?_
 refine Ok.seq ?_
 refine .rg [(0,(S a0)),(3,(.v (.int .i64 0))),(4,(.v (.int .i64 (a0.length:Int))))] [] ?_
 refine Ok.seq ?_
 refine Ok.block ?_
 refine Ok.loop (fun m3 σ => ∃ (x3_1:Int),σ=⟨[(0,(S a0)),(3,(.v (.int .i64 x3_1))),(4,(.v (.int .i64 (a0.length:Int))))],[]⟩ ∧ watchbillref01_Trim.l0 k a0 m3 x3_1=some r) k ⟨0,rfl,H⟩ ?_
 rintro m3 σ ⟨x3_1,rfl,H⟩
 cases m3 with
 | zero => exact absurd H (by simp [watchbillref01_Trim.l0])
 | succ m3 =>
  unfold watchbillref01_Trim.l0 at H
  refine Ok.seq ?_
  refine Ok.seq ?_
  obtain⟨c5,H⟩:=assertE H
  obtain⟨t6,h7,H⟩:=bindE H
  refine Ok.region (σ':=⟨[(0,(S a0)),(3,(.v (.int .i64 x3_1))),(4,(.v (.int .i64 (a0.length:Int)))),(15,(.v (.bool ((decide (x3_1 < (a0.length:Int))) && t6))))],[]⟩) ?_ ?_
  ·refine .rn 4 ?_
   refine OpsOk.consI rfl rfl rfl (.one rfl) rfl (fun hw4 => (VOk.g (VOk.mv (d:=(S a0)) rfl rfl))) ?_
   refine OpsOk.consI rfl rfl rfl (.one rfl) rfl (fun hw4 => (VOk.g (VOk.mv (d:=(.v (.int .i64 x3_1))) rfl rfl))) ?_
   refine OpsOk.consI rfl rfl rfl (.one rfl) rfl (fun hw4 => (GOk.fr (fr':=[(11,(S a0)),(12,(.v (.int .i64 x3_1)))]) ⟨DLe.of_eq (cT hw4).symm,DLe.of_eq (cT hw4).symm,trivial⟩ (VOk.g (VOk.indexStr (s:=a0) (i:=x3_1) rfl Tryz.underlying9 rfl rfl (c5 hw4))))) ?_
   refine OpsOk.consI rfl rfl rfl (.one rfl) rfl (fun hw4 => (GOk.fr (fr':=[(13,(.v (.int .u8 (bt a0 x3_1))))]) ⟨DLe.of_eq (cT hw4).symm,trivial⟩ (GOk.call rfl rfl cl58 rfl (watchbillref01_Blank.ok (ifT h7 hw4)) rfl))) ?_
   refine .cv (VOk.to (VOk.pickI (b:=(decide (x3_1 < (a0.length:Int)))) (p:=t6) (q:=false) rfl rfl (fun hp8 => (cT (t_beq hp8))) (fun hp8 => rfl)) (pickAnd (decide (x3_1 < (a0.length:Int))) t6)) rfl rfl ?_
   exact .dn
  refine Ok.test (b:=((decide (x3_1 < (a0.length:Int))) && t6)) rfl (fun hb19 => ?_) (fun hb19 => ?_)
  ·replace H:=ifT H hb19
   refine Ok.skip ?_
   refine Ok.block ?_
   refine .rg [(0,(S a0)),(3,(.v (.int .i64 (IntKind.i64.wrap (x3_1 + 1))))),(4,(.v (.int .i64 (a0.length:Int))))] [] ?_
   exact⟨m3,Nat.lt_succ_self m3,(IntKind.i64.wrap (x3_1 + 1)),rfl,H⟩
  ·replace H:=ifF H hb19
   refine Ok.exit ?_
   refine Ok.seq ?_
   refine Ok.block ?_
   refine Ok.le (σ':=⟨[(0,(S a0)),(3,(.v (.int .i64 x3_1))),(4,(.v (.int .i64 (a0.length:Int))))],[]⟩) (.rf rfl rfl) ?_
   refine Ok.loop (fun m11 σ => ∃ (x4_9:Int),σ=⟨[(0,(S a0)),(3,(.v (.int .i64 x3_1))),(4,(.v (.int .i64 x4_9)))],[]⟩ ∧ watchbillref01_Trim.l1 k a0 x3_1 m11 x4_9=some r) k ⟨(a0.length:Int),rfl,H⟩ ?_
   rintro m11 σ ⟨x4_9,rfl,H⟩
   cases m11 with
   | zero => exact absurd H (by simp [watchbillref01_Trim.l1])
   | succ m11 =>
    unfold watchbillref01_Trim.l1 at H
    refine Ok.seq ?_
    refine Ok.seq ?_
    obtain⟨c13,H⟩:=assertE H
    obtain⟨t14,h15,H⟩:=bindE H
    refine Ok.region (σ':=⟨[(0,(S a0)),(3,(.v (.int .i64 x3_1))),(4,(.v (.int .i64 x4_9))),(27,(.v (.bool ((decide (x4_9 > x3_1)) && t14))))],[]⟩) ?_ ?_
    ·refine .rn 4 ?_
     refine OpsOk.consI rfl rfl rfl (.one rfl) rfl (fun hw12 => (VOk.g (VOk.mv (d:=(S a0)) rfl rfl))) ?_
     refine OpsOk.consI rfl rfl rfl (.one rfl) rfl (fun hw12 => (VOk.g (VOk.mv (d:=(.v (.int .i64 x4_9))) rfl rfl))) ?_
     refine OpsOk.consI rfl rfl rfl (.one rfl) rfl (fun hw12 => (GOk.fr (fr':=[(23,(.v (.int .i64 x4_9)))]) ⟨DLe.of_eq (cT hw12).symm,trivial⟩ (VOk.g (VOk.arith (op:=.sub) (k:=.i64) (a:=x4_9) (b:=1) rfl rfl rfl rfl)))) ?_
     refine OpsOk.consI rfl rfl rfl (.one rfl) rfl (fun hw12 => (GOk.fr (fr':=[(22,(S a0)),(24,(.v (.int .i64 (IntKind.i64.wrap (x4_9 - 1)))))]) ⟨DLe.of_eq (cT hw12).symm,DLe.of_eq (cT hw12).symm,trivial⟩ (VOk.g (VOk.indexStr (s:=a0) (i:=(IntKind.i64.wrap (x4_9 - 1))) rfl Tryz.underlying9 rfl rfl (c13 hw12))))) ?_
     refine OpsOk.consI rfl rfl rfl (.one rfl) rfl (fun hw12 => (GOk.fr (fr':=[(25,(.v (.int .u8 (bt a0 (IntKind.i64.wrap (x4_9 - 1))))))]) ⟨DLe.of_eq (cT hw12).symm,trivial⟩ (GOk.call rfl rfl cl58 rfl (watchbillref01_Blank.ok (ifT h15 hw12)) rfl))) ?_
     refine .cv (VOk.to (VOk.pickI (b:=(decide (x4_9 > x3_1))) (p:=t14) (q:=false) rfl rfl (fun hp16 => (cT (t_beq hp16))) (fun hp16 => rfl)) (pickAnd (decide (x4_9 > x3_1)) t14)) rfl rfl ?_
     exact .dn
    refine Ok.test (b:=((decide (x4_9 > x3_1)) && t14)) rfl (fun hb18 => ?_) (fun hb18 => ?_)
    ·replace H:=ifT H hb18
     refine Ok.skip ?_
     refine Ok.block ?_
     refine .rg [(0,(S a0)),(3,(.v (.int .i64 x3_1))),(4,(.v (.int .i64 (IntKind.i64.wrap (x4_9 - 1)))))] [] ?_
     exact⟨m11,Nat.lt_succ_self m11,(IntKind.i64.wrap (x4_9 - 1)),rfl,H⟩
    ·replace H:=ifF H hb18
     refine Ok.exit ?_
     refine Ok.seq ?_
     obtain⟨c17,H⟩:=assertE H
     refine Ok.region (σ':=⟨[(2,(S (sl a0 x3_1 x4_9)))],[]⟩) ?_ ?_
     ·refine .rn 3 ?_
      refine .cv (VOk.sliceStr (s:=a0) (l:=x3_1) (h:=x4_9) rfl Tryz.underlying9 rfl rfl rfl c17) rfl rfl ?_
      refine .rn 1 ?_
      exact .dn
     refine Ok.ret ?_
     obtain rfl:=Option.some.inj H
     exact⟨.inl rfl,⟨_,(.cons (.tmp rfl) .nil),rfl⟩,trivial⟩
def watchbillref16_May.l0 (k:Nat) (self:T_api_Entry→Option Bool):Nat→Int→Str→Str→List T_api_Entry→Int→Option Bool
 | 0,_,_,_,_,_ => none
 | m11 + 1,y1_0_2,y1_1_3,y1_2_4,y1_3_5,x3_1 => (if (decide (x3_1 < (y1_3_5.length:Int)))=true then (if (0:Int) ≤ x3_1 ∧ x3_1 < (y1_3_5.length:Int) then ((self (rd y1_3_5 x3_1)).bind fun (t13:Bool) => (if (!t13)=true then some false else watchbillref16_May.l0 k self m11 y1_0_2 y1_1_3 y1_2_4 y1_3_5 (IntKind.i64.wrap (x3_1 + 1)))) else none) else some (y1_1_3 == ([]:Str)))
def watchbillref16_May:Nat→T_api_Entry→Option Bool
 | 0,_ => none
 | k + 1,a0 => (if (a0.Kind == 2)=true then watchbillref16_May.l0 k (watchbillref16_May k) k a0.Kind a0.URI a0.Name a0.List_ 0 else (if ((a0.URI == ([]:Str)) || (decide ((a0.List_.length:Int) > 0)))=true then some false else (if (a0.Kind == 1)=true then ((watchbillref01_Trim k a0.Name).bind fun (t19:Str) => some (t19 == a0.Name)) else some (((a0.Kind == 3) || (a0.Kind == 4)) && (a0.Name == ([]:Str))))))
theorem watchbillref16_May.ok {k:Nat} {a0:T_api_Entry} {r:Bool} (H:watchbillref16_May k a0=some r):Vx.Fn Tryz.prog 31 [(.agg (e_api_Entry a0))] [] (.v (.bool r)) []:=by
 induction k generalizing a0 r with
 | zero => exact absurd H (by simp [watchbillref16_May])
 | succ k ih =>
  unfold watchbillref16_May at H
  refine Vx.Fn.of_okR Tryz.func31 rfl (Nat.le_of_ble_eq_true rfl) ?_
  refine Ok.seq ?_
  refine Ok.region (σ':=⟨[(1,(.bref 1 0))],[(1,(.box .ex (c_api_Entry a0)))]⟩) ?_ ?_
  ·refine OpsOk.cut1 0 (.agg [(.v (.int .i64 a0.Kind)),(S a0.URI),(S a0.Name),(L 4 e_api_Entry a0.List_)]) (DLe.of_eq (congrArg D.agg (e_api_Entry_c _).symm)) ?_
   refine .rn 2 ?_
   exact .dn
  refine Ok.seq ?_
  refine Ok.seq ?_
  refine .rg [(1,(.bref 1 0)),(6,(.v (.bool (a0.Kind == 2))))] [(1,(.box .ex (c_api_Entry a0)))] ?_
  refine Ok.test (b:=(a0.Kind == 2)) rfl (fun hb27 => ?_) (fun hb27 => ?_)
  ·replace H:=ifT H hb27
   refine Ok.seq ?_
   refine Ok.seq ?_
   refine .rg [(1,(.bref 1 0)),(3,(.v (.int .i64 0)))] [(1,(.box .ex (c_api_Entry a0)))] ?_
   refine Ok.block ?_
   refine Ok.loop (fun m11 σ => ∃ (y1_0_2:Int) (y1_1_3:Str) (y1_2_4:Str) (y1_3_5:List T_api_Entry) (x3_1:Int),σ=⟨[(1,(.bref 1 0)),(3,(.v (.int .i64 x3_1)))],[(1,(.box .ex [(.v (.int .i64 y1_0_2)),(S y1_1_3),(S y1_2_4),(L 4 e_api_Entry y1_3_5)]))]⟩ ∧ watchbillref16_May.l0 k (watchbillref16_May k) m11 y1_0_2 y1_1_3 y1_2_4 y1_3_5 x3_1=some r) k ⟨a0.Kind,a0.URI,a0.Name,a0.List_,0,rfl,H⟩ ?_
   rintro m11 σ ⟨y1_0_2,y1_1_3,y1_2_4,y1_3_5,x3_1,rfl,H⟩
   cases m11 with
   | zero => exact absurd H (by simp [watchbillref16_May.l0])
   | succ m11 =>
    unfold watchbillref16_May.l0 at H
    refine Ok.seq ?_
    refine Ok.seq ?_
    refine Ok.region (σ':=⟨[(1,(.bref 1 0)),(3,(.v (.int .i64 x3_1))),(11,(.v (.bool (decide (x3_1 < (y1_3_5.length:Int))))))],[(1,(.box .ex [(.v (.int .i64 y1_0_2)),(S y1_1_3),(S y1_2_4),(L 4 e_api_Entry y1_3_5)]))]⟩) ?_ ?_
    ·refine .rn 3 ?_
     refine .cv (VOk.lenL (e:=e_api_Entry) (xs:=y1_3_5) rfl Tryz.underlying22 rfl) rfl rfl ?_
     refine .rn 1 ?_
     exact .dn
    refine Ok.test (b:=(decide (x3_1 < (y1_3_5.length:Int)))) rfl (fun hb16 => ?_) (fun hb16 => ?_)
    ·replace H:=ifT H hb16
     refine Ok.skip ?_
     refine Ok.seq ?_
     refine Ok.block ?_
     refine Ok.seq ?_
     obtain⟨c12,H⟩:=assertE H
     obtain⟨t13,h14,H⟩:=bindE H
     refine Ok.region (σ':=⟨[(1,(.bref 1 0)),(3,(.v (.int .i64 x3_1))),(20,(.v (.bool (!t13))))],[(1,(.box .ex [(.v (.int .i64 y1_0_2)),(S y1_1_3),(S y1_2_4),(L 4 e_api_Entry y1_3_5)]))]⟩) ?_ ?_
     ·refine .rn 3 ?_
      refine .cv (VOk.indexL (sz:=4) (e:=e_api_Entry) (xs:=y1_3_5) (i:=x3_1) rfl Tryz.underlying22 sz45 rfl rfl c12) rfl rfl ?_
      refine .rn 1 ?_
      refine .cg (GOk.call rfl rfl cl31 rfl (@ih _ _ h14) rfl) rfl rfl ?_
      refine .rn 1 ?_
      exact .dn
     refine Ok.test (b:=(!t13)) rfl (fun hb15 => ?_) (fun hb15 => ?_)
     ·replace H:=ifT H hb15
      refine Ok.seq ?_
      refine .rg [(2,(.v (.bool false)))] [] ?_
      refine Ok.ret ?_
      obtain rfl:=Option.some.inj H
      exact⟨.inl rfl,⟨_,(.cons (.tmp rfl) .nil),rfl⟩,trivial⟩
     ·replace H:=ifF H hb15
      refine Ok.skip ?_
      refine .rg [(1,(.bref 1 0)),(3,(.v (.int .i64 (IntKind.i64.wrap (x3_1 + 1)))))] [(1,(.box .ex [(.v (.int .i64 y1_0_2)),(S y1_1_3),(S y1_2_4),(L 4 e_api_Entry y1_3_5)]))] ?_
      exact⟨m11,Nat.lt_succ_self m11,y1_0_2,y1_1_3,y1_2_4,y1_3_5,(IntKind.i64.wrap (x3_1 + 1)),rfl,H⟩
    ·replace H:=ifF H hb16
     refine Ok.exit ?_
     refine Ok.seq ?_
     refine .rg [(2,(.v (.bool (y1_1_3 == ([]:Str)))))] [] ?_
     refine Ok.ret ?_
     obtain rfl:=Option.some.inj H
     exact⟨.inl rfl,⟨_,(.cons (.tmp rfl) .nil),rfl⟩,trivial⟩
  ·replace H:=ifF H hb27
   refine Ok.skip ?_
   refine Ok.seq ?_
   refine Ok.seq ?_
   refine Ok.region (σ':=⟨[(1,(.bref 1 0)),(32,(.v (.bool ((a0.URI == ([]:Str)) || (decide ((a0.List_.length:Int) > 0))))))],[(1,(.box .ex (c_api_Entry a0)))]⟩) ?_ ?_
   ·refine .rn 4 ?_
    refine OpsOk.consI rfl rfl rfl (.one rfl) rfl (fun hw17 => (VOk.g (VOk.to (VOk.fieldB rfl Tryz.underlying45 rfl sz22 rfl rfl) rfl))) ?_
    refine OpsOk.consI rfl rfl rfl (.one rfl) rfl (fun hw17 => (GOk.fr (fr':=[(28,(.bref 1 3))]) ⟨DLe.of_eq (cT hw17).symm,trivial⟩ (VOk.g (VOk.loadB (d:=(L 4 e_api_Entry a0.List_)) rfl Tryz.underlying22 rfl rfl rfl rfl)))) ?_
    refine OpsOk.consI rfl rfl rfl (.one rfl) rfl (fun hw17 => (GOk.fr (fr':=[(29,(L 4 e_api_Entry a0.List_))]) ⟨DLe.of_eq (cT hw17).symm,trivial⟩ (VOk.g (VOk.lenL (e:=e_api_Entry) (xs:=a0.List_) rfl Tryz.underlying22 rfl)))) ?_
    refine OpsOk.consI rfl rfl rfl (.one rfl) rfl (fun hw17 => (GOk.fr (fr':=[(30,(.v (.int .i64 (a0.List_.length:Int))))]) ⟨DLe.of_eq (cT hw17).symm,trivial⟩ (VOk.g (VOk.arith (op:=.gtr) (k:=.i64) (a:=(a0.List_.length:Int)) (b:=0) rfl rfl rfl rfl)))) ?_
    refine .cv (VOk.to (VOk.pickI (b:=(a0.URI == ([]:Str))) (p:=true) (q:=(decide ((a0.List_.length:Int) > 0))) rfl rfl (fun hp18 => rfl) (fun hp18 => (cT (f_beq hp18)))) (pickOr (a0.URI == ([]:Str)) (decide ((a0.List_.length:Int) > 0)))) rfl rfl ?_
    exact .dn
   refine Ok.test (b:=((a0.URI == ([]:Str)) || (decide ((a0.List_.length:Int) > 0)))) rfl (fun hb26 => ?_) (fun hb26 => ?_)
   ·replace H:=ifT H hb26
    refine Ok.seq ?_
    refine .rg [(2,(.v (.bool false)))] [] ?_
    refine Ok.ret ?_
    obtain rfl:=Option.some.inj H
    exact⟨.inl rfl,⟨_,(.cons (.tmp rfl) .nil),rfl⟩,trivial⟩
   ·replace H:=ifF H hb26
    refine Ok.skip ?_
    refine Ok.seq ?_
    refine Ok.seq ?_
    refine .rg [(1,(.bref 1 0)),(35,(.v (.bool (a0.Kind == 1))))] [(1,(.box .ex (c_api_Entry a0)))] ?_
    refine Ok.test (b:=(a0.Kind == 1)) rfl (fun hb25 => ?_) (fun hb25 => ?_)
    ·replace H:=ifT H hb25
     refine Ok.seq ?_
     obtain⟨t19,h20,H⟩:=bindE H
     refine .dA [(2,(.v (.bool (t19 == a0.Name))))] [] [[],[0],[1],[],[3],[2,4],[5]] mixed ?_ ?_
     ·refine .tn 2 ?_
      refine .tc (GOk.call rfl rfl cl44 rfl (watchbillref01_Trim.ok h20) rfl) ?_
      refine .tn 2 ?_
      refine .tc (VOk.g (VOk.strOp (op:=.eql) (a:=t19) (b:=a0.Name) rfl rfl rfl rfl)) ?_
      refine .tn 1 ?_
      exact .dn
     refine Ok.ret ?_
     obtain rfl:=Option.some.inj H
     exact⟨.inl rfl,⟨_,(.cons (.tmp rfl) .nil),rfl⟩,trivial⟩
    ·replace H:=ifF H hb25
     refine Ok.skip ?_
     refine Ok.seq ?_
     refine Ok.region (σ':=⟨[(2,(.v (.bool (((a0.Kind == 3) || (a0.Kind == 4)) && (a0.Name == ([]:Str))))))],[]⟩) ?_ ?_
     ·refine .rn 4 ?_
      refine OpsOk.consI rfl rfl rfl (.one rfl) rfl (fun hw21 => (VOk.g (VOk.to (VOk.fieldB rfl Tryz.underlying45 rfl sz3 rfl rfl) rfl))) ?_
      refine OpsOk.consI rfl rfl rfl (.one rfl) rfl (fun hw21 => (GOk.fr (fr':=[(46,(.bref 1 0))]) ⟨DLe.of_eq (cT hw21).symm,trivial⟩ (VOk.g (VOk.loadB (d:=(.v (.int .i64 a0.Kind))) rfl Tryz.underlying3 rfl rfl rfl rfl)))) ?_
      refine OpsOk.consI rfl rfl rfl (.one rfl) rfl (fun hw21 => (GOk.fr (fr':=[(47,(.v (.int .i64 a0.Kind)))]) ⟨DLe.of_eq (cT hw21).symm,trivial⟩ (VOk.g (VOk.arith (op:=.eql) (k:=.i64) (a:=a0.Kind) (b:=4) rfl rfl rfl rfl)))) ?_
      refine .cv (VOk.to (VOk.pickI (b:=(a0.Kind == 3)) (p:=true) (q:=(a0.Kind == 4)) rfl rfl (fun hp22 => rfl) (fun hp22 => (cT (f_beq hp22)))) (pickOr (a0.Kind == 3) (a0.Kind == 4))) rfl rfl ?_
      refine .rn 1 ?_
      refine OpsOk.consI rfl rfl rfl (.one rfl) rfl (fun hw23 => (VOk.g (VOk.to (VOk.fieldB rfl Tryz.underlying45 rfl sz9 rfl rfl) rfl))) ?_
      refine OpsOk.consI rfl rfl rfl (.one rfl) rfl (fun hw23 => (GOk.fr (fr':=[(51,(.bref 1 2))]) ⟨DLe.of_eq (cT hw23).symm,trivial⟩ (VOk.g (VOk.loadB (d:=(S a0.Name)) rfl Tryz.underlying9 rfl rfl rfl rfl)))) ?_
      refine OpsOk.consI rfl rfl rfl (.one rfl) rfl (fun hw23 => (GOk.fr (fr':=[(52,(S a0.Name))]) ⟨DLe.of_eq (cT hw23).symm,trivial⟩ (VOk.g (VOk.strOp (op:=.eql) (a:=a0.Name) (b:=([]:Str)) rfl rfl rfl rfl)))) ?_
      refine .cv (VOk.to (VOk.pickI (b:=((a0.Kind == 3) || (a0.Kind == 4))) (p:=(a0.Name == ([]:Str))) (q:=false) rfl rfl (fun hp24 => (cT (t_beq hp24))) (fun hp24 => rfl)) (pickAnd ((a0.Kind == 3) || (a0.Kind == 4)) (a0.Name == ([]:Str)))) rfl rfl ?_
      refine .rn 1 ?_
      exact .dn
     refine Ok.ret ?_
     obtain rfl:=Option.some.inj H
     exact⟨.inl rfl,⟨_,(.cons (.tmp rfl) .nil),rfl⟩,trivial⟩
def watchbillref16_El (a0:Str) (a1:Str) (a2:Str) (a3:Str) (a4:List T_api_Node):Option T_api_Node:=(if (!(a3 == ([]:Str)))=true then (if (([]:List T_api_Attr).length + ([(T_api_Attr.mk (T_api_Name.mk ((T_api_Name.mk ([]:Str) a2).Space) ((T_api_Name.mk ([]:Str) a2).Local)) a3)]:List T_api_Attr).length) * 48 ≤ 140737488355328 then some (T_api_Node.mk 1 (T_api_Name.mk ((T_api_Name.mk a0 a1).Space) ((T_api_Name.mk a0 a1).Local)) (([]:List T_api_Attr) ++ ([(T_api_Attr.mk (T_api_Name.mk ((T_api_Name.mk ([]:Str) a2).Space) ((T_api_Name.mk ([]:Str) a2).Local)) a3)]:List T_api_Attr)) a4 ([]:Str)) else none) else some (T_api_Node.mk 1 (T_api_Name.mk ((T_api_Name.mk a0 a1).Space) ((T_api_Name.mk a0 a1).Local)) ([]:List T_api_Attr) a4 ([]:Str)))
theorem watchbillref16_El.ok {a0:Str} {a1:Str} {a2:Str} {a3:Str} {a4:List T_api_Node} {r:T_api_Node} (H:watchbillref16_El a0 a1 a2 a3 a4=some r):Vx.Fn Tryz.prog 34 [(S a0),(S a1),(S a2),(S a3),(L 6 e_api_Node a4)] [] (.agg (e_api_Node r)) []:=by
 unfold watchbillref16_El at H
 refine Vx.Fn.of_okR Tryz.func34 rfl (Nat.le_of_ble_eq_true rfl) ?_
 refine Ok.seq ?_
 refine .rg [(0,(S a0)),(1,(S a1)),(2,(S a2)),(3,(S a3)),(4,(L 6 e_api_Node a4)),(10,(.bref 10 0))] [(10,bx0)] ?_
 refine Ok.seq ?_
 refine Ok.region (σ':=⟨[(2,(S a2)),(3,(S a3)),(10,(.bref 10 0)),(11,(.bref 11 0))],[(10,bx0),(11,(.box .ex [(.v (.int .i64 1)),(S ((T_api_Name.mk a0 a1).Space)),(S ((T_api_Name.mk a0 a1).Local)),(.sref 1223),(L 6 e_api_Node a4),S0])),(1223,(.rows true 41 3 (([]:List T_api_Attr).map e_api_Attr)))]⟩) ?_ ?_
 ·refine .rn 2 ?_
  refine .cv (VOk.to (d':=(.agg (e_api_Name (T_api_Name.mk a0 a1)))) (.build [none,none] [(0,1),(1,1)] rfl Tryz.underlying24 (fa24 Tryz.underlying24) zo24 rfl rfl) rfl) rfl rfl ?_
  refine .rn 1 ?_
  refine .cv (VOk.to (d':=(.agg [(.v (.int .i64 1)),(S ((T_api_Name.mk a0 a1).Space)),(S ((T_api_Name.mk a0 a1).Local)),(.v (.slice none 0 0)),(L 6 e_api_Node a4),S0])) (.build [none,none,none,none,some 6,none] [(0,1),(1,2),(3,1),(4,1),(5,1)] rfl Tryz.underlying28 (fa28 Tryz.underlying28) zo28 rfl rfl) rfl) rfl rfl ?_
  refine OpsOk.cons rfl (OpOk.alloc 11 [none,none,none,none,some 6,none] rfl zo28 rfl rfl) ?_
  refine OpsOk.sle (SLe.adopt 11 1223 3 41 3 rfl rfl rfl rfl rfl) ?_
  refine .rn 1 ?_
  refine OpsOk.sle (SLe.adopt 11 1223 3 41 3 rfl rfl rfl rfl rfl) ?_
  exact .dn
 refine Ok.seq ?_
 refine Ok.seq ?_
 refine .rg [(2,(S a2)),(3,(S a3)),(10,(.bref 10 0)),(11,(.bref 11 0)),(18,(.v (.bool (!(a3 == ([]:Str))))))] [(10,bx0),(11,(.box .ex [(.v (.int .i64 1)),(S ((T_api_Name.mk a0 a1).Space)),(S ((T_api_Name.mk a0 a1).Local)),(.sref 1223),(L 6 e_api_Node a4),S0])),(1223,(.rows true 41 3 (([]:List T_api_Attr).map e_api_Attr)))] ?_
 refine Ok.test (b:=(!(a3 == ([]:Str)))) rfl (fun hb2 => ?_) (fun hb2 => ?_)
 ·replace H:=ifT H hb2
  obtain⟨c1,H⟩:=assertE H
  refine Ok.region (σ':=⟨[(10,(.bref 10 0)),(11,(.bref 11 0))],[(10,bx0),(11,(.box .ex [(.v (.int .i64 1)),(S ((T_api_Name.mk a0 a1).Space)),(S ((T_api_Name.mk a0 a1).Local)),(.sref 1223),(L 6 e_api_Node a4),S0])),(1223,(.rows true 41 3 ((([]:List T_api_Attr) ++ ([(T_api_Attr.mk (T_api_Name.mk ((T_api_Name.mk ([]:Str) a2).Space) ((T_api_Name.mk ([]:Str) a2).Local)) a3)]:List T_api_Attr)).map e_api_Attr)))]⟩) ?_ ?_
  ·refine .rn 3 ?_
   refine .cv (VOk.to (d':=(.agg (e_api_Name (T_api_Name.mk ([]:Str) a2)))) (.build [none,none] [(0,1),(1,1)] rfl Tryz.underlying24 (fa24 Tryz.underlying24) zo24 rfl rfl) rfl) rfl rfl ?_
   refine .rn 1 ?_
   refine .cv (VOk.to (d':=(.agg (e_api_Attr (T_api_Attr.mk (T_api_Name.mk ((T_api_Name.mk ([]:Str) a2).Space) ((T_api_Name.mk ([]:Str) a2).Local)) a3)))) (.build [none,none,none] [(0,2),(2,1)] rfl Tryz.underlying41 (fa41 Tryz.underlying41) zo41 rfl rfl) rfl) rfl rfl ?_
   refine .cg (GOk.to (d':=(L 3 e_api_Attr ([(T_api_Attr.mk (T_api_Name.mk ((T_api_Name.mk ([]:Str) a2).Space) ((T_api_Name.mk ([]:Str) a2).Local)) a3)]:List T_api_Attr))) (GOk.lit rfl Tryz.underlying25 sz41 zs41 rfl rfl rfl rfl) rfl) rfl rfl ?_
   refine OpsOk.cons rfl (OpOk.appendL (e:=e_api_Attr) (xs:=([]:List T_api_Attr)) (ys:=([(T_api_Attr.mk (T_api_Name.mk ((T_api_Name.mk ([]:Str) a2).Space) ((T_api_Name.mk ([]:Str) a2).Local)) a3)]:List T_api_Attr)) rfl Tryz.underlying25 elt41 rfl rfl rfl c1 rfl) ?_
   refine .rn 2 ?_
   exact .dn
  refine Ok.seq ?_
  refine Ok.region (σ':=⟨[(10,(.bref 10 0))],[(10,(.box .ex (c_api_Node (T_api_Node.mk 1 (T_api_Name.mk ((T_api_Name.mk a0 a1).Space) ((T_api_Name.mk a0 a1).Local)) (([]:List T_api_Attr) ++ ([(T_api_Attr.mk (T_api_Name.mk ((T_api_Name.mk ([]:Str) a2).Space) ((T_api_Name.mk ([]:Str) a2).Local)) a3)]:List T_api_Attr)) a4 ([]:Str)))))]⟩) ?_ ?_
  ·refine OpsOk.frzL 1223 (e:=e_api_Attr) (xs:=(([]:List T_api_Attr) ++ ([(T_api_Attr.mk (T_api_Name.mk ((T_api_Name.mk ([]:Str) a2).Space) ((T_api_Name.mk ([]:Str) a2).Local)) a3)]:List T_api_Attr))) rfl ?_
   refine .cv (VOk.to (d':=(.agg (e_api_Node (T_api_Node.mk 1 (T_api_Name.mk ((T_api_Name.mk a0 a1).Space) ((T_api_Name.mk a0 a1).Local)) (([]:List T_api_Attr) ++ ([(T_api_Attr.mk (T_api_Name.mk ((T_api_Name.mk ([]:Str) a2).Space) ((T_api_Name.mk ([]:Str) a2).Local)) a3)]:List T_api_Attr)) a4 ([]:Str))))) (.loadBAgg rfl Tryz.underlying28 rfl sz28 rfl rfl rfl) (congrArg D.agg (e_api_Node_c (T_api_Node.mk 1 (T_api_Name.mk ((T_api_Name.mk a0 a1).Space) ((T_api_Name.mk a0 a1).Local)) (([]:List T_api_Attr) ++ ([(T_api_Attr.mk (T_api_Name.mk ((T_api_Name.mk ([]:Str) a2).Space) ((T_api_Name.mk ([]:Str) a2).Local)) a3)]:List T_api_Attr)) a4 ([]:Str))).symm)) rfl rfl ?_
   refine OpsOk.cut1 28 (.agg [(.v (.int .i64 ((T_api_Node.mk 1 (T_api_Name.mk ((T_api_Name.mk a0 a1).Space) ((T_api_Name.mk a0 a1).Local)) (([]:List T_api_Attr) ++ ([(T_api_Attr.mk (T_api_Name.mk ((T_api_Name.mk ([]:Str) a2).Space) ((T_api_Name.mk ([]:Str) a2).Local)) a3)]:List T_api_Attr)) a4 ([]:Str)).Kind))),(S ((T_api_Node.mk 1 (T_api_Name.mk ((T_api_Name.mk a0 a1).Space) ((T_api_Name.mk a0 a1).Local)) (([]:List T_api_Attr) ++ ([(T_api_Attr.mk (T_api_Name.mk ((T_api_Name.mk ([]:Str) a2).Space) ((T_api_Name.mk ([]:Str) a2).Local)) a3)]:List T_api_Attr)) a4 ([]:Str)).Name.Space)),(S ((T_api_Node.mk 1 (T_api_Name.mk ((T_api_Name.mk a0 a1).Space) ((T_api_Name.mk a0 a1).Local)) (([]:List T_api_Attr) ++ ([(T_api_Attr.mk (T_api_Name.mk ((T_api_Name.mk ([]:Str) a2).Space) ((T_api_Name.mk ([]:Str) a2).Local)) a3)]:List T_api_Attr)) a4 ([]:Str)).Name.Local)),(L 3 e_api_Attr ((T_api_Node.mk 1 (T_api_Name.mk ((T_api_Name.mk a0 a1).Space) ((T_api_Name.mk a0 a1).Local)) (([]:List T_api_Attr) ++ ([(T_api_Attr.mk (T_api_Name.mk ((T_api_Name.mk ([]:Str) a2).Space) ((T_api_Name.mk ([]:Str) a2).Local)) a3)]:List T_api_Attr)) a4 ([]:Str)).Attrs)),(L 6 e_api_Node ((T_api_Node.mk 1 (T_api_Name.mk ((T_api_Name.mk a0 a1).Space) ((T_api_Name.mk a0 a1).Local)) (([]:List T_api_Attr) ++ ([(T_api_Attr.mk (T_api_Name.mk ((T_api_Name.mk ([]:Str) a2).Space) ((T_api_Name.mk ([]:Str) a2).Local)) a3)]:List T_api_Attr)) a4 ([]:Str)).Kids)),(S ((T_api_Node.mk 1 (T_api_Name.mk ((T_api_Name.mk a0 a1).Space) ((T_api_Name.mk a0 a1).Local)) (([]:List T_api_Attr) ++ ([(T_api_Attr.mk (T_api_Name.mk ((T_api_Name.mk ([]:Str) a2).Space) ((T_api_Name.mk ([]:Str) a2).Local)) a3)]:List T_api_Attr)) a4 ([]:Str)).Text))]) (DLe.of_eq (congrArg D.agg (e_api_Node_c _).symm)) ?_
   refine .rn 1 ?_
   exact .dn
  refine Ok.ret ?_
  obtain rfl:=Option.some.inj H
  exact⟨.inl rfl,⟨_,(.cons (.cell (VOk.to (d':=(.agg (e_api_Node (T_api_Node.mk 1 (T_api_Name.mk ((T_api_Name.mk a0 a1).Space) ((T_api_Name.mk a0 a1).Local)) (([]:List T_api_Attr) ++ ([(T_api_Attr.mk (T_api_Name.mk ((T_api_Name.mk ([]:Str) a2).Space) ((T_api_Name.mk ([]:Str) a2).Local)) a3)]:List T_api_Attr)) a4 ([]:Str))))) (.loadBAgg rfl Tryz.underlying28 rfl sz28 rfl rfl rfl) (congrArg D.agg (e_api_Node_c (T_api_Node.mk 1 (T_api_Name.mk ((T_api_Name.mk a0 a1).Space) ((T_api_Name.mk a0 a1).Local)) (([]:List T_api_Attr) ++ ([(T_api_Attr.mk (T_api_Name.mk ((T_api_Name.mk ([]:Str) a2).Space) ((T_api_Name.mk ([]:Str) a2).Local)) a3)]:List T_api_Attr)) a4 ([]:Str))).symm))) .nil),rfl⟩,trivial⟩
 ·replace H:=ifF H hb2
  refine Ok.skip ?_
  refine Ok.seq ?_
  refine Ok.region (σ':=⟨[(10,(.bref 10 0))],[(10,(.box .ex (c_api_Node (T_api_Node.mk 1 (T_api_Name.mk ((T_api_Name.mk a0 a1).Space) ((T_api_Name.mk a0 a1).Local)) ([]:List T_api_Attr) a4 ([]:Str)))))]⟩) ?_ ?_
  ·refine OpsOk.frzL 1223 (e:=e_api_Attr) (xs:=([]:List T_api_Attr)) rfl ?_
   refine .cv (VOk.to (d':=(.agg (e_api_Node (T_api_Node.mk 1 (T_api_Name.mk ((T_api_Name.mk a0 a1).Space) ((T_api_Name.mk a0 a1).Local)) ([]:List T_api_Attr) a4 ([]:Str))))) (.loadBAgg rfl Tryz.underlying28 rfl sz28 rfl rfl rfl) (congrArg D.agg (e_api_Node_c (T_api_Node.mk 1 (T_api_Name.mk ((T_api_Name.mk a0 a1).Space) ((T_api_Name.mk a0 a1).Local)) ([]:List T_api_Attr) a4 ([]:Str))).symm)) rfl rfl ?_
   refine OpsOk.cut1 28 (.agg [(.v (.int .i64 ((T_api_Node.mk 1 (T_api_Name.mk ((T_api_Name.mk a0 a1).Space) ((T_api_Name.mk a0 a1).Local)) ([]:List T_api_Attr) a4 ([]:Str)).Kind))),(S ((T_api_Node.mk 1 (T_api_Name.mk ((T_api_Name.mk a0 a1).Space) ((T_api_Name.mk a0 a1).Local)) ([]:List T_api_Attr) a4 ([]:Str)).Name.Space)),(S ((T_api_Node.mk 1 (T_api_Name.mk ((T_api_Name.mk a0 a1).Space) ((T_api_Name.mk a0 a1).Local)) ([]:List T_api_Attr) a4 ([]:Str)).Name.Local)),(L 3 e_api_Attr ((T_api_Node.mk 1 (T_api_Name.mk ((T_api_Name.mk a0 a1).Space) ((T_api_Name.mk a0 a1).Local)) ([]:List T_api_Attr) a4 ([]:Str)).Attrs)),(L 6 e_api_Node ((T_api_Node.mk 1 (T_api_Name.mk ((T_api_Name.mk a0 a1).Space) ((T_api_Name.mk a0 a1).Local)) ([]:List T_api_Attr) a4 ([]:Str)).Kids)),(S ((T_api_Node.mk 1 (T_api_Name.mk ((T_api_Name.mk a0 a1).Space) ((T_api_Name.mk a0 a1).Local)) ([]:List T_api_Attr) a4 ([]:Str)).Text))]) (DLe.of_eq (congrArg D.agg (e_api_Node_c _).symm)) ?_
   refine .rn 1 ?_
   exact .dn
  refine Ok.ret ?_
  obtain rfl:=Option.some.inj H
  exact⟨.inl rfl,⟨_,(.cons (.cell (VOk.to (d':=(.agg (e_api_Node (T_api_Node.mk 1 (T_api_Name.mk ((T_api_Name.mk a0 a1).Space) ((T_api_Name.mk a0 a1).Local)) ([]:List T_api_Attr) a4 ([]:Str))))) (.loadBAgg rfl Tryz.underlying28 rfl sz28 rfl rfl rfl) (congrArg D.agg (e_api_Node_c (T_api_Node.mk 1 (T_api_Name.mk ((T_api_Name.mk a0 a1).Space) ((T_api_Name.mk a0 a1).Local)) ([]:List T_api_Attr) a4 ([]:Str))).symm))) .nil),rfl⟩,trivial⟩
def watchbillref16_Made.j0 (a0:T_api_Entry) (y3_5:List T_api_Node):Option T_api_Node:=((watchbillref16_El ([117,114,110,58,105,101,116,102,58,112,97,114,97,109,115,58,120,109,108,58,110,115,58,114,101,115,111,117,114,99,101,45,108,105,115,116,115]:Str) ([101,110,116,114,121]:Str) ([117,114,105]:Str) a0.URI y3_5).bind fun (t6:T_api_Node) => some t6)
def watchbillref16_Made.l1 (k:Nat) (self:T_api_Entry→Option T_api_Node):Nat→Int→Str→Str→List T_api_Entry→Int→Str→Str→List T_api_Attr→List T_api_Node→Str→List T_api_Node→Int→Option T_api_Node
 | 0,_,_,_,_,_,_,_,_,_,_,_,_ => none
 | m36 + 1,y1_0_13,y1_1_14,y1_2_15,y1_3_16,y2_0_17,y2_1_18,y2_2_19,y2_3_20,y2_4_21,y2_5_22,y3_23,x4_12 => (if (decide (x4_12 < (y1_3_16.length:Int)))=true then (if (0:Int) ≤ x4_12 ∧ x4_12 < (y1_3_16.length:Int) then ((self (rd y1_3_16 x4_12)).bind fun (t38:T_api_Node) => (if (y3_23.length + ([t38]:List T_api_Node).length) * 104 ≤ 140737488355328 then watchbillref16_Made.l1 k self m36 y1_0_13 y1_1_14 y1_2_15 y1_3_16 y2_0_17 y2_1_18 y2_2_19 y2_3_20 y2_4_21 y2_5_22 (y3_23 ++ ([t38]:List T_api_Node)) (IntKind.i64.wrap (x4_12 + 1)) else none)) else none) else ((watchbillref16_El ([117,114,110,58,105,101,116,102,58,112,97,114,97,109,115,58,120,109,108,58,110,115,58,114,101,115,111,117,114,99,101,45,108,105,115,116,115]:Str) ([108,105,115,116]:Str) ([110,97,109,101]:Str) y1_2_15 y3_23).bind fun (t41:T_api_Node) => some t41))
def watchbillref16_Made:Nat→T_api_Entry→Option T_api_Node
 | 0,_ => none
 | k + 1,a0 => (if (a0.Kind == 3)=true then ((watchbillref16_El ([117,114,110,58,105,101,116,102,58,112,97,114,97,109,115,58,120,109,108,58,110,115,58,114,101,115,111,117,114,99,101,45,108,105,115,116,115]:Str) ([101,120,116,101,114,110,97,108]:Str) ([97,110,99,104,111,114]:Str) a0.URI ([]:List T_api_Node)).bind fun (t1:T_api_Node) => some t1) else (if (a0.Kind == 4)=true then ((watchbillref16_El ([117,114,110,58,105,101,116,102,58,112,97,114,97,109,115,58,120,109,108,58,110,115,58,114,101,115,111,117,114,99,101,45,108,105,115,116,115]:Str) ([101,110,116,114,121,45,114,101,102]:Str) ([114,101,102]:Str) a0.URI ([]:List T_api_Node)).bind fun (t3:T_api_Node) => some t3) else (if (a0.Kind == 1)=true then (if (!(a0.Name == ([]:Str)))=true then ((watchbillref16_El ([117,114,110,58,105,101,116,102,58,112,97,114,97,109,115,58,120,109,108,58,110,115,58,114,101,115,111,117,114,99,101,45,108,105,115,116,115]:Str) ([100,105,115,112,108,97,121,45,110,97,109,101]:Str) ([]:Str) ([]:Str) ([(T_api_Node.mk 2 (T_api_Name.mk ([]:Str) ([]:Str)) ([]:List T_api_Attr) ([]:List T_api_Node) a0.Name)]:List T_api_Node)).bind fun (t8:T_api_Node) => (if (([]:List T_api_Node).length + ([t8]:List T_api_Node).length) * 104 ≤ 140737488355328 then watchbillref16_Made.j0 a0 (([]:List T_api_Node) ++ ([t8]:List T_api_Node)) else none)) else watchbillref16_Made.j0 a0 ([]:List T_api_Node)) else watchbillref16_Made.l1 k (watchbillref16_Made k) k a0.Kind a0.URI a0.Name a0.List_ 0 ([]:Str) ([]:Str) ([]:List T_api_Attr) ([]:List T_api_Node) ([]:Str) ([]:List T_api_Node) 0)))
theorem watchbillref16_Made.ok {k:Nat} {a0:T_api_Entry} {r:T_api_Node} (H:watchbillref16_Made k a0=some r):Vx.Fn Tryz.prog 32 [(.agg (e_api_Entry a0))] [] (.agg (e_api_Node r)) []:=by
 induction k generalizing a0 r with
 | zero => exact absurd H (by simp [watchbillref16_Made])
 | succ k ih =>
  unfold watchbillref16_Made at H
  refine Vx.Fn.of_okR Tryz.func32 rfl (Nat.le_of_ble_eq_true rfl) ?_
  refine Ok.seq ?_
  refine Ok.region (σ':=⟨[(1,(.bref 1 0)),(2,(.bref 2 0))],[(1,(.box .ex (c_api_Entry a0))),(2,bx0)]⟩) ?_ ?_
  ·refine OpsOk.cut1 0 (.agg [(.v (.int .i64 a0.Kind)),(S a0.URI),(S a0.Name),(L 4 e_api_Entry a0.List_)]) (DLe.of_eq (congrArg D.agg (e_api_Entry_c _).symm)) ?_
   refine .rn 2 ?_
   exact .dn
  refine Ok.seq ?_
  refine Ok.region (σ':=⟨[(1,(.bref 1 0)),(2,(.bref 2 0)),(3,(.sref 3))],[(1,(.box .ex (c_api_Entry a0))),(2,bx0),(3,(.rows true 28 6 (([]:List T_api_Node).map e_api_Node)))]⟩) ?_ ?_
  ·refine OpsOk.cons rfl (.nilT 3 28 6 (.inl rfl) rfl rfl) ?_
   exact .dn
  refine Ok.seq ?_
  refine Ok.seq ?_
  refine .rg [(1,(.bref 1 0)),(2,(.bref 2 0)),(3,(.sref 3)),(6,(.v (.int .i64 a0.Kind)))] [(1,(.box .ex (c_api_Entry a0))),(2,bx0),(3,(.rows true 28 6 (([]:List T_api_Node).map e_api_Node)))] ?_
  refine Ok.block ?_
  refine Ok.seq ?_
  refine .rg [(1,(.bref 1 0)),(2,(.bref 2 0)),(3,(.sref 3)),(6,(.v (.int .i64 a0.Kind))),(7,(.v (.bool (a0.Kind == 3))))] [(1,(.box .ex (c_api_Entry a0))),(2,bx0),(3,(.rows true 28 6 (([]:List T_api_Node).map e_api_Node)))] ?_
  refine Ok.test (b:=(a0.Kind == 3)) rfl (fun hb46 => ?_) (fun hb46 => ?_)
  ·replace H:=ifT H hb46
   refine Ok.seq ?_
   obtain⟨t1,h2,H⟩:=bindE H
   refine Ok.region (σ':=⟨[(2,(.bref 2 0))],[(2,(bxN t1))]⟩) ?_ ?_
   ·refine .rn 2 ?_
    refine .cg (GOk.call rfl rfl cl34 rfl (Fn.weak (ds:=[(S ([117,114,110,58,105,101,116,102,58,112,97,114,97,109,115,58,120,109,108,58,110,115,58,114,101,115,111,117,114,99,101,45,108,105,115,116,115]:Str)),(S ([101,120,116,101,114,110,97,108]:Str)),(S ([97,110,99,104,111,114]:Str)),(S a0.URI),(L 6 e_api_Node ([]:List T_api_Node))]) (watchbillref16_El.ok h2) ⟨.same _,.same _,.same _,.same _,.nil _,trivial⟩) rfl) rfl rfl ?_
    refine OpsOk.cut1 11 (.agg (c_api_Node t1)) (DLe.of_eq (congrArg D.agg (e_api_Node_c _).symm)) ?_
    refine .rn 1 ?_
    exact .dn
   refine Ok.ret ?_
   obtain rfl:=Option.some.inj H
   exact⟨.inl rfl,⟨_,(.cons (.cell (VOk.to (d':=(.agg (e_api_Node t1))) (.loadBAgg rfl Tryz.underlying28 rfl sz28 rfl rfl rfl) (congrArg D.agg (e_api_Node_c t1).symm))) .nil),rfl⟩,trivial⟩
  ·replace H:=ifF H hb46
   refine Ok.seq ?_
   refine .rg [(1,(.bref 1 0)),(2,(.bref 2 0)),(3,(.sref 3)),(6,(.v (.int .i64 a0.Kind))),(12,(.v (.bool (a0.Kind == 4))))] [(1,(.box .ex (c_api_Entry a0))),(2,bx0),(3,(.rows true 28 6 (([]:List T_api_Node).map e_api_Node)))] ?_
   refine Ok.test (b:=(a0.Kind == 4)) rfl (fun hb45 => ?_) (fun hb45 => ?_)
   ·replace H:=ifT H hb45
    refine Ok.seq ?_
    obtain⟨t3,h4,H⟩:=bindE H
    refine Ok.region (σ':=⟨[(2,(.bref 2 0))],[(2,(bxN t3))]⟩) ?_ ?_
    ·refine .rn 2 ?_
     refine .cg (GOk.call rfl rfl cl34 rfl (Fn.weak (ds:=[(S ([117,114,110,58,105,101,116,102,58,112,97,114,97,109,115,58,120,109,108,58,110,115,58,114,101,115,111,117,114,99,101,45,108,105,115,116,115]:Str)),(S ([101,110,116,114,121,45,114,101,102]:Str)),(S ([114,101,102]:Str)),(S a0.URI),(L 6 e_api_Node ([]:List T_api_Node))]) (watchbillref16_El.ok h4) ⟨.same _,.same _,.same _,.same _,.nil _,trivial⟩) rfl) rfl rfl ?_
     refine OpsOk.cut1 16 (.agg (c_api_Node t3)) (DLe.of_eq (congrArg D.agg (e_api_Node_c _).symm)) ?_
     refine .rn 1 ?_
     exact .dn
    refine Ok.ret ?_
    obtain rfl:=Option.some.inj H
    exact⟨.inl rfl,⟨_,(.cons (.cell (VOk.to (d':=(.agg (e_api_Node t3))) (.loadBAgg rfl Tryz.underlying28 rfl sz28 rfl rfl rfl) (congrArg D.agg (e_api_Node_c t3).symm))) .nil),rfl⟩,trivial⟩
   ·replace H:=ifF H hb45
    refine Ok.seq ?_
    refine .rg [(1,(.bref 1 0)),(2,(.bref 2 0)),(3,(.sref 3)),(17,(.v (.bool (a0.Kind == 1))))] [(1,(.box .ex (c_api_Entry a0))),(2,bx0),(3,(.rows true 28 6 (([]:List T_api_Node).map e_api_Node)))] ?_
    refine Ok.test (b:=(a0.Kind == 1)) rfl (fun hb44 => ?_) (fun hb44 => ?_)
    ·replace H:=ifT H hb44
     refine Ok.meet (fun σ => ∃ (y3_5:List T_api_Node),σ=⟨[(1,(.bref 1 0)),(2,(.bref 2 0)),(3,(.sref 3))],[(1,(.box .ex (c_api_Entry a0))),(2,bx0),(3,(.rows true 28 6 (y3_5.map e_api_Node)))]⟩ ∧ watchbillref16_Made.j0 a0 y3_5=some r) ?_ ?_
     ·refine Ok.seq ?_
      refine .rg [(1,(.bref 1 0)),(2,(.bref 2 0)),(3,(.sref 3)),(21,(.v (.bool (!(a0.Name == ([]:Str))))))] [(1,(.box .ex (c_api_Entry a0))),(2,bx0),(3,(.rows true 28 6 (([]:List T_api_Node).map e_api_Node)))] ?_
      refine Ok.test (b:=(!(a0.Name == ([]:Str)))) rfl (fun hb11 => ?_) (fun hb11 => ?_)
      ·replace H:=ifT H hb11
       obtain⟨t8,h9,H⟩:=bindE H
       obtain⟨c10,H⟩:=assertE H
       refine Ok.region (σ':=⟨[(1,(.bref 1 0)),(2,(.bref 2 0)),(3,(.sref 3))],[(1,(.box .ex (c_api_Entry a0))),(2,bx0),(3,(.rows true 28 6 ((([]:List T_api_Node) ++ ([t8]:List T_api_Node)).map e_api_Node)))]⟩) ?_ ?_
       ·refine .rn 3 ?_
        refine .cv (VOk.to (d':=(.agg (e_api_Node (T_api_Node.mk 2 (T_api_Name.mk ([]:Str) ([]:Str)) ([]:List T_api_Attr) ([]:List T_api_Node) a0.Name)))) (.build [none,none,none,some 3,some 6,none] [(0,1),(1,2),(3,1),(4,1),(5,1)] rfl Tryz.underlying28 (fa28 Tryz.underlying28) zo28 rfl rfl) (congrArg D.agg (e_api_Node_c (T_api_Node.mk 2 (T_api_Name.mk ([]:Str) ([]:Str)) ([]:List T_api_Attr) ([]:List T_api_Node) a0.Name)).symm)) rfl rfl ?_
        refine .cg (GOk.to (d':=(L 6 e_api_Node (nT0 a0.Name))) (GOk.lit rfl Tryz.underlying26 sz28 zs28 rfl rfl rfl rfl) rfl) rfl rfl ?_
        refine .cg (GOk.call rfl rfl cl34 rfl (watchbillref16_El.ok h9) rfl) rfl rfl ?_
        refine .cg (GOk.to (d':=(L 6 e_api_Node ([t8]:List T_api_Node))) (GOk.lit rfl Tryz.underlying26 sz28 zs28 rfl rfl rfl rfl) rfl) rfl rfl ?_
        refine OpsOk.cons rfl (OpOk.appendL (e:=e_api_Node) (xs:=([]:List T_api_Node)) (ys:=([t8]:List T_api_Node)) rfl Tryz.underlying26 elt28 rfl rfl rfl c10 rfl) ?_
        refine .rn 1 ?_
        exact .dn
       exact⟨(([]:List T_api_Node) ++ ([t8]:List T_api_Node)),rfl,H⟩
      ·replace H:=ifF H hb11
       refine Ok.le (σ':=⟨[(1,(.bref 1 0)),(2,(.bref 2 0)),(3,(.sref 3))],[(1,(.box .ex (c_api_Entry a0))),(2,bx0),(3,(.rows true 28 6 (([]:List T_api_Node).map e_api_Node)))]⟩) (.rf rfl rfl) ?_
       refine Ok.skip ?_
       exact⟨([]:List T_api_Node),rfl,H⟩
     ·rintro σ ⟨y3_5,rfl,H⟩
      unfold watchbillref16_Made.j0 at H
      refine Ok.seq ?_
      obtain⟨t6,h7,H⟩:=bindE H
      refine Ok.frzL 3 (e:=e_api_Node) (xs:=y3_5) rfl ?_
      refine Ok.region (σ':=⟨[(2,(.bref 2 0))],[(2,(bxN t6))]⟩) ?_ ?_
      ·refine .rn 3 ?_
       refine .cg (GOk.call rfl rfl cl34 rfl (watchbillref16_El.ok h7) rfl) rfl rfl ?_
       refine OpsOk.cut1 33 (.agg (c_api_Node t6)) (DLe.of_eq (congrArg D.agg (e_api_Node_c _).symm)) ?_
       refine .rn 1 ?_
       exact .dn
      refine Ok.ret ?_
      obtain rfl:=Option.some.inj H
      exact⟨.inl rfl,⟨_,(.cons (.cell (VOk.to (d':=(.agg (e_api_Node t6))) (.loadBAgg rfl Tryz.underlying28 rfl sz28 rfl rfl rfl) (congrArg D.agg (e_api_Node_c t6).symm))) .nil),rfl⟩,trivial⟩
    ·replace H:=ifF H hb44
     refine Ok.skip ?_
     refine Ok.seq ?_
     refine Ok.seq ?_
     refine .rg [(1,(.bref 1 0)),(2,(.bref 2 0)),(3,(.sref 3)),(4,(.v (.int .i64 0)))] [(1,(.box .ex (c_api_Entry a0))),(2,bx0),(3,(.rows true 28 6 (([]:List T_api_Node).map e_api_Node)))] ?_
     refine Ok.block ?_
     refine Ok.loop (fun m36 σ => ∃ (y1_0_13:Int) (y1_1_14:Str) (y1_2_15:Str) (y1_3_16:List T_api_Entry) (y2_0_17:Int) (y2_1_18:Str) (y2_2_19:Str) (y2_3_20:List T_api_Attr) (y2_4_21:List T_api_Node) (y2_5_22:Str) (y3_23:List T_api_Node) (x4_12:Int),σ=⟨[(1,(.bref 1 0)),(2,(.bref 2 0)),(3,(.sref 3)),(4,(.v (.int .i64 x4_12)))],[(1,(.box .ex [(.v (.int .i64 y1_0_13)),(S y1_1_14),(S y1_2_15),(L 4 e_api_Entry y1_3_16)])),(2,(.box .ex [(.v (.int .i64 y2_0_17)),(S y2_1_18),(S y2_2_19),(L 3 e_api_Attr y2_3_20),(L 6 e_api_Node y2_4_21),(S y2_5_22)])),(3,(.rows true 28 6 (y3_23.map e_api_Node)))]⟩ ∧ watchbillref16_Made.l1 k (watchbillref16_Made k) m36 y1_0_13 y1_1_14 y1_2_15 y1_3_16 y2_0_17 y2_1_18 y2_2_19 y2_3_20 y2_4_21 y2_5_22 y3_23 x4_12=some r) k ⟨a0.Kind,a0.URI,a0.Name,a0.List_,0,([]:Str),([]:Str),([]:List T_api_Attr),([]:List T_api_Node),([]:Str),([]:List T_api_Node),0,rfl,H⟩ ?_
     rintro m36 σ ⟨y1_0_13,y1_1_14,y1_2_15,y1_3_16,y2_0_17,y2_1_18,y2_2_19,y2_3_20,y2_4_21,y2_5_22,y3_23,x4_12,rfl,H⟩
     cases m36 with
     | zero => exact absurd H (by simp [watchbillref16_Made.l1])
     | succ m36 =>
      unfold watchbillref16_Made.l1 at H
      refine Ok.seq ?_
      refine Ok.seq ?_
      refine Ok.region (σ':=⟨[(1,(.bref 1 0)),(2,(.bref 2 0)),(3,(.sref 3)),(4,(.v (.int .i64 x4_12))),(38,(.v (.bool (decide (x4_12 < (y1_3_16.length:Int))))))],[(1,(.box .ex [(.v (.int .i64 y1_0_13)),(S y1_1_14),(S y1_2_15),(L 4 e_api_Entry y1_3_16)])),(2,(.box .ex [(.v (.int .i64 y2_0_17)),(S y2_1_18),(S y2_2_19),(L 3 e_api_Attr y2_3_20),(L 6 e_api_Node y2_4_21),(S y2_5_22)])),(3,(.rows true 28 6 (y3_23.map e_api_Node)))]⟩) ?_ ?_
      ·refine .rn 3 ?_
       refine .cv (VOk.lenL (e:=e_api_Entry) (xs:=y1_3_16) rfl Tryz.underlying22 rfl) rfl rfl ?_
       refine .rn 1 ?_
       exact .dn
      refine Ok.test (b:=(decide (x4_12 < (y1_3_16.length:Int)))) rfl (fun hb43 => ?_) (fun hb43 => ?_)
      ·replace H:=ifT H hb43
       refine Ok.skip ?_
       refine Ok.seq ?_
       refine Ok.block ?_
       obtain⟨c37,H⟩:=assertE H
       obtain⟨t38,h39,H⟩:=bindE H
       obtain⟨c40,H⟩:=assertE H
       refine Ok.region (σ':=⟨[(1,(.bref 1 0)),(2,(.bref 2 0)),(3,(.sref 3)),(4,(.v (.int .i64 x4_12)))],[(1,(.box .ex [(.v (.int .i64 y1_0_13)),(S y1_1_14),(S y1_2_15),(L 4 e_api_Entry y1_3_16)])),(2,(.box .ex [(.v (.int .i64 y2_0_17)),(S y2_1_18),(S y2_2_19),(L 3 e_api_Attr y2_3_20),(L 6 e_api_Node y2_4_21),(S y2_5_22)])),(3,(.rows true 28 6 ((y3_23 ++ ([t38]:List T_api_Node)).map e_api_Node)))]⟩) ?_ ?_
       ·refine .rn 4 ?_
        refine .cv (VOk.indexL (sz:=4) (e:=e_api_Entry) (xs:=y1_3_16) (i:=x4_12) rfl Tryz.underlying22 sz45 rfl rfl c37) rfl rfl ?_
        refine .rn 1 ?_
        refine .cg (GOk.call rfl rfl cl32 rfl (@ih _ _ h39) rfl) rfl rfl ?_
        refine .cg (GOk.to (d':=(L 6 e_api_Node ([t38]:List T_api_Node))) (GOk.lit rfl Tryz.underlying26 sz28 zs28 rfl rfl rfl rfl) rfl) rfl rfl ?_
        refine OpsOk.cons rfl (OpOk.appendL (e:=e_api_Node) (xs:=y3_23) (ys:=([t38]:List T_api_Node)) rfl Tryz.underlying26 elt28 rfl rfl rfl c40 rfl) ?_
        refine .rn 1 ?_
        exact .dn
       refine .rg [(1,(.bref 1 0)),(2,(.bref 2 0)),(3,(.sref 3)),(4,(.v (.int .i64 (IntKind.i64.wrap (x4_12 + 1)))))] [(1,(.box .ex [(.v (.int .i64 y1_0_13)),(S y1_1_14),(S y1_2_15),(L 4 e_api_Entry y1_3_16)])),(2,(.box .ex [(.v (.int .i64 y2_0_17)),(S y2_1_18),(S y2_2_19),(L 3 e_api_Attr y2_3_20),(L 6 e_api_Node y2_4_21),(S y2_5_22)])),(3,(.rows true 28 6 ((y3_23 ++ ([t38]:List T_api_Node)).map e_api_Node)))] ?_
       exact⟨m36,Nat.lt_succ_self m36,y1_0_13,y1_1_14,y1_2_15,y1_3_16,y2_0_17,y2_1_18,y2_2_19,y2_3_20,y2_4_21,y2_5_22,(y3_23 ++ ([t38]:List T_api_Node)),(IntKind.i64.wrap (x4_12 + 1)),rfl,H⟩
      ·replace H:=ifF H hb43
       refine Ok.exit ?_
       refine Ok.seq ?_
       obtain⟨t41,h42,H⟩:=bindE H
       refine Ok.frzL 3 (e:=e_api_Node) (xs:=y3_23) rfl ?_
       refine Ok.region (σ':=⟨[(2,(.bref 2 0))],[(2,(bxN t41))]⟩) ?_ ?_
       ·refine .rn 3 ?_
        refine .cg (GOk.call rfl rfl cl34 rfl (watchbillref16_El.ok h42) rfl) rfl rfl ?_
        refine OpsOk.cut1 53 (.agg (c_api_Node t41)) (DLe.of_eq (congrArg D.agg (e_api_Node_c _).symm)) ?_
        refine .rn 1 ?_
        exact .dn
       refine Ok.ret ?_
       obtain rfl:=Option.some.inj H
       exact⟨.inl rfl,⟨_,(.cons (.cell (VOk.to (d':=(.agg (e_api_Node t41))) (.loadBAgg rfl Tryz.underlying28 rfl sz28 rfl rfl rfl) (congrArg D.agg (e_api_Node_c t41).symm))) .nil),rfl⟩,trivial⟩
def watchbillref16_Unique.l1 (k:Nat) (c0:Int→Option Bool) (a0:List T_api_Entry) (x3_1:Int):Nat→Int→Option Bool
 | 0,_ => none
 | m9 + 1,x4_7 => (if (decide (x4_7 < x3_1))=true then (if (0:Int) ≤ x3_1 ∧ x3_1 < (a0.length:Int) then (if (0:Int) ≤ x4_7 ∧ x4_7 < (a0.length:Int) then (if (((rd a0 x3_1).Kind) != ((rd a0 x4_7).Kind))=true then watchbillref16_Unique.l1 k c0 a0 x3_1 m9 (IntKind.i64.wrap (x4_7 + 1)) else (if (0:Int) ≤ x3_1 ∧ x3_1 < (a0.length:Int) then (if (((((rd a0 x3_1).Kind) == 2) == true)=true→(0:Int) ≤ x3_1 ∧ x3_1 < (a0.length:Int)) then (if (((((rd a0 x3_1).Kind) == 2) == true)=true→(0:Int) ≤ x4_7 ∧ x4_7 < (a0.length:Int)) then (if ((((((rd a0 x3_1).Kind) == 2) && (((rd a0 x3_1).Name) == ((rd a0 x4_7).Name))) == false)=true→(0:Int) ≤ x3_1 ∧ x3_1 < (a0.length:Int)) then (if (((((((rd a0 x3_1).Kind) == 2) && (((rd a0 x3_1).Name) == ((rd a0 x4_7).Name))) == false) && ((((rd a0 x3_1).Kind) != 2) == true))=true→(0:Int) ≤ x3_1 ∧ x3_1 < (a0.length:Int)) then (if (((((((rd a0 x3_1).Kind) == 2) && (((rd a0 x3_1).Name) == ((rd a0 x4_7).Name))) == false) && ((((rd a0 x3_1).Kind) != 2) == true))=true→(0:Int) ≤ x4_7 ∧ x4_7 < (a0.length:Int)) then (if (((((rd a0 x3_1).Kind) == 2) && (((rd a0 x3_1).Name) == ((rd a0 x4_7).Name))) || ((((rd a0 x3_1).Kind) != 2) && (((rd a0 x3_1).URI) == ((rd a0 x4_7).URI))))=true then some false else watchbillref16_Unique.l1 k c0 a0 x3_1 m9 (IntKind.i64.wrap (x4_7 + 1))) else none) else none) else none) else none) else none) else none)) else none) else none) else c0 (IntKind.i64.wrap (x3_1 + 1)))
def watchbillref16_Unique.l0 (k:Nat) (self:List T_api_Entry→Option Bool) (a0:List T_api_Entry):Nat→Int→Option Bool
 | 0,_ => none
 | m3 + 1,x3_1 => (if (decide (x3_1 < (a0.length:Int)))=true then (if (0:Int) ≤ x3_1 ∧ x3_1 < (a0.length:Int) then ((self ((rd a0 x3_1).List_)).bind fun (t5:Bool) => (if (!t5)=true then some false else watchbillref16_Unique.l1 k (watchbillref16_Unique.l0 k self a0 m3) a0 x3_1 k 0)) else none) else some true)
def watchbillref16_Unique:Nat→List T_api_Entry→Option Bool
 | 0,_ => none
 | k + 1,a0 => watchbillref16_Unique.l0 k (watchbillref16_Unique k) a0 k 0
theorem watchbillref16_Unique.ok {k:Nat} {a0:List T_api_Entry} {r:Bool} (H:watchbillref16_Unique k a0=some r):Vx.Fn Tryz.prog 33 [(L 4 e_api_Entry a0)] [] (.v (.bool r)) []:=by
 induction k generalizing a0 r with
 | zero => exact absurd H (by simp [watchbillref16_Unique])
 | succ k ih =>
  unfold watchbillref16_Unique at H
  refine Vx.Fn.of_okR Tryz.func33 rfl (Nat.le_of_ble_eq_true rfl) ?_
  refine Ok.seq ?_
  refine .rg [(0,(L 4 e_api_Entry a0))] [] ?_
  refine Ok.seq ?_
  refine Ok.seq ?_
  refine .rg [(0,(L 4 e_api_Entry a0)),(3,(.v (.int .i64 0)))] [] ?_
  refine Ok.block ?_
  refine Ok.loop (fun m3 σ => ∃ (x3_1:Int),σ=⟨[(0,(L 4 e_api_Entry a0)),(3,(.v (.int .i64 x3_1)))],[]⟩ ∧ watchbillref16_Unique.l0 k (watchbillref16_Unique k) a0 m3 x3_1=some r) k ⟨0,rfl,H⟩ ?_
  rintro m3 σ ⟨x3_1,rfl,H⟩
  cases m3 with
  | zero => exact absurd H (by simp [watchbillref16_Unique.l0])
  | succ m3 =>
   unfold watchbillref16_Unique.l0 at H
   refine Ok.seq ?_
   refine Ok.seq ?_
   refine Ok.region (σ':=⟨[(0,(L 4 e_api_Entry a0)),(3,(.v (.int .i64 x3_1))),(8,(.v (.bool (decide (x3_1 < (a0.length:Int))))))],[]⟩) ?_ ?_
   ·refine .rn 2 ?_
    refine .cv (VOk.lenL (e:=e_api_Entry) (xs:=a0) rfl Tryz.underlying22 rfl) rfl rfl ?_
    refine .rn 1 ?_
    exact .dn
   refine Ok.test (b:=(decide (x3_1 < (a0.length:Int)))) rfl (fun hb28 => ?_) (fun hb28 => ?_)
   ·replace H:=ifT H hb28
    refine Ok.skip ?_
    refine Ok.seq ?_
    refine Ok.block ?_
    refine Ok.seq ?_
    refine Ok.seq ?_
    obtain⟨c4,H⟩:=assertE H
    obtain⟨t5,h6,H⟩:=bindE H
    refine Ok.region (σ':=⟨[(0,(L 4 e_api_Entry a0)),(3,(.v (.int .i64 x3_1))),(17,(.v (.bool (!t5))))],[]⟩) ?_ ?_
    ·refine .rn 2 ?_
     refine .cv (VOk.indexL (sz:=4) (e:=e_api_Entry) (xs:=a0) (i:=x3_1) rfl Tryz.underlying22 sz45 rfl rfl c4) rfl rfl ?_
     refine .rn 1 ?_
     refine .cv (VOk.to (d':=(L 4 e_api_Entry ((rd a0 x3_1).List_))) (VOk.loadFp (d:=(L 4 r_api_Entry ((rd a0 x3_1).List_))) rfl Tryz.underlying22 rfl rfl rfl) (by rw [r_api_Entry_eq])) rfl rfl ?_
     refine .cg (GOk.call rfl rfl cl33 rfl (@ih _ _ h6) rfl) rfl rfl ?_
     refine .rn 1 ?_
     exact .dn
    refine Ok.test (b:=(!t5)) rfl (fun hb27 => ?_) (fun hb27 => ?_)
    ·replace H:=ifT H hb27
     refine Ok.seq ?_
     refine .rg [(2,(.v (.bool false)))] [] ?_
     refine Ok.ret ?_
     obtain rfl:=Option.some.inj H
     exact⟨.inl rfl,⟨_,(.cons (.tmp rfl) .nil),rfl⟩,trivial⟩
    ·replace H:=ifF H hb27
     refine Ok.skip ?_
     refine Ok.seq ?_
     refine .rg [(0,(L 4 e_api_Entry a0)),(3,(.v (.int .i64 x3_1))),(4,(.v (.int .i64 0)))] [] ?_
     refine Ok.block ?_
     refine Ok.loop (fun m9 σ => ∃ (x4_7:Int),σ=⟨[(0,(L 4 e_api_Entry a0)),(3,(.v (.int .i64 x3_1))),(4,(.v (.int .i64 x4_7)))],[]⟩ ∧ watchbillref16_Unique.l1 k (watchbillref16_Unique.l0 k (watchbillref16_Unique k) a0 m3) a0 x3_1 m9 x4_7=some r) k ⟨0,rfl,H⟩ ?_
     rintro m9 σ ⟨x4_7,rfl,H⟩
     cases m9 with
     | zero => exact absurd H (by simp [watchbillref16_Unique.l1])
     | succ m9 =>
      unfold watchbillref16_Unique.l1 at H
      refine Ok.seq ?_
      refine Ok.seq ?_
      refine .rg [(0,(L 4 e_api_Entry a0)),(3,(.v (.int .i64 x3_1))),(4,(.v (.int .i64 x4_7))),(20,(.v (.bool (decide (x4_7 < x3_1)))))] [] ?_
      refine Ok.test (b:=(decide (x4_7 < x3_1))) rfl (fun hb26 => ?_) (fun hb26 => ?_)
      ·replace H:=ifT H hb26
       refine Ok.skip ?_
       refine Ok.seq ?_
       refine Ok.block ?_
       refine Ok.seq ?_
       refine Ok.seq ?_
       obtain⟨c10,H⟩:=assertE H
       obtain⟨c11,H⟩:=assertE H
       refine .dA [(0,(L 4 e_api_Entry a0)),(3,(.v (.int .i64 x3_1))),(4,(.v (.int .i64 x4_7))),(33,(.v (.bool (((rd a0 x3_1).Kind) != ((rd a0 x4_7).Kind)))))] [] [[],[],[0,1],[2],[3],[],[],[5,6],[7],[8],[4,9]] mixed ?_ ?_
       ·refine .tn 2 ?_
        refine .tc (VOk.g (VOk.indexL (sz:=4) (e:=e_api_Entry) (xs:=a0) (i:=x3_1) rfl Tryz.underlying22 sz45 rfl rfl c10)) ?_
        refine .tn 4 ?_
        refine .tc (VOk.g (VOk.indexL (sz:=4) (e:=e_api_Entry) (xs:=a0) (i:=x4_7) rfl Tryz.underlying22 sz45 rfl rfl c11)) ?_
        refine .tn 3 ?_
        exact .dn
       refine Ok.test (b:=(((rd a0 x3_1).Kind) != ((rd a0 x4_7).Kind))) rfl (fun hb25 => ?_) (fun hb25 => ?_)
       ·replace H:=ifT H hb25
        refine Ok.exit ?_
        refine .rg [(0,(L 4 e_api_Entry a0)),(3,(.v (.int .i64 x3_1))),(4,(.v (.int .i64 (IntKind.i64.wrap (x4_7 + 1)))))] [] ?_
        exact⟨m9,Nat.lt_succ_self m9,(IntKind.i64.wrap (x4_7 + 1)),rfl,H⟩
       ·replace H:=ifF H hb25
        refine Ok.skip ?_
        refine Ok.seq ?_
        obtain⟨c12,H⟩:=assertE H
        obtain⟨c14,H⟩:=assertE H
        obtain⟨c15,H⟩:=assertE H
        obtain⟨c18,H⟩:=assertE H
        obtain⟨c20,H⟩:=assertE H
        obtain⟨c21,H⟩:=assertE H
        refine Ok.drawE (σ':=⟨[(0,(L 4 e_api_Entry a0)),(3,(.v (.int .i64 x3_1))),(4,(.v (.int .i64 x4_7))),(73,(.v (.bool (((((rd a0 x3_1).Kind) == 2) && (((rd a0 x3_1).Name) == ((rd a0 x4_7).Name))) || ((((rd a0 x3_1).Kind) != 2) && (((rd a0 x3_1).URI) == ((rd a0 x4_7).URI)))))))],[]⟩) [⟨true,[(0,(L 4 e_api_Entry a0))],(L 4 e_api_Entry a0)⟩,⟨true,[(3,(.v (.int .i64 x3_1)))],(.v (.int .i64 x3_1))⟩,⟨true,[(34,(L 4 e_api_Entry a0)),(35,(.v (.int .i64 x3_1)))],(.fp (e_api_Entry (rd a0 x3_1)) 0)⟩,⟨true,[(36,(.fp (e_api_Entry (rd a0 x3_1)) 0))],(.fp (e_api_Entry (rd a0 x3_1)) 0)⟩,⟨true,[(37,(.fp (e_api_Entry (rd a0 x3_1)) 0))],(.v (.int .i64 ((rd a0 x3_1).Kind)))⟩,⟨true,[(38,(.v (.int .i64 ((rd a0 x3_1).Kind))))],(.v (.bool (((rd a0 x3_1).Kind) == 2)))⟩,⟨true,[(39,(.v (.bool (((rd a0 x3_1).Kind) == 2))))],(.v (.bool (((rd a0 x3_1).Kind) == 2)))⟩,It.I ((((rd a0 x3_1).Kind) == 2) == true) [(0,(L 4 e_api_Entry a0)),(40,(.v (.bool (((rd a0 x3_1).Kind) == 2))))] (L 4 e_api_Entry a0),It.I ((((rd a0 x3_1).Kind) == 2) == true) [(3,(.v (.int .i64 x3_1))),(40,(.v (.bool (((rd a0 x3_1).Kind) == 2))))] (.v (.int .i64 x3_1)),It.I ((((rd a0 x3_1).Kind) == 2) == true) [(41,(bif ((((rd a0 x3_1).Kind) == 2) == true) then (L 4 e_api_Entry a0) else .v undef)),(42,(bif ((((rd a0 x3_1).Kind) == 2) == true) then (.v (.int .i64 x3_1)) else .v undef)),(40,(.v (.bool (((rd a0 x3_1).Kind) == 2))))] (.fp (e_api_Entry (rd a0 x3_1)) 0),It.I ((((rd a0 x3_1).Kind) == 2) == true) [(43,(bif ((((rd a0 x3_1).Kind) == 2) == true) then (.fp (e_api_Entry (rd a0 x3_1)) 0) else .v undef)),(40,(.v (.bool (((rd a0 x3_1).Kind) == 2))))] (.fp (e_api_Entry (rd a0 x3_1)) 2),It.I ((((rd a0 x3_1).Kind) == 2) == true) [(44,(bif ((((rd a0 x3_1).Kind) == 2) == true) then (.fp (e_api_Entry (rd a0 x3_1)) 2) else .v undef)),(40,(.v (.bool (((rd a0 x3_1).Kind) == 2))))] (S ((rd a0 x3_1).Name)),It.I ((((rd a0 x3_1).Kind) == 2) == true) [(0,(L 4 e_api_Entry a0)),(40,(.v (.bool (((rd a0 x3_1).Kind) == 2))))] (L 4 e_api_Entry a0),It.I ((((rd a0 x3_1).Kind) == 2) == true) [(4,(.v (.int .i64 x4_7))),(40,(.v (.bool (((rd a0 x3_1).Kind) == 2))))] (.v (.int .i64 x4_7)),It.I ((((rd a0 x3_1).Kind) == 2) == true) [(46,(bif ((((rd a0 x3_1).Kind) == 2) == true) then (L 4 e_api_Entry a0) else .v undef)),(47,(bif ((((rd a0 x3_1).Kind) == 2) == true) then (.v (.int .i64 x4_7)) else .v undef)),(40,(.v (.bool (((rd a0 x3_1).Kind) == 2))))] (.fp (e_api_Entry (rd a0 x4_7)) 0),It.I ((((rd a0 x3_1).Kind) == 2) == true) [(48,(bif ((((rd a0 x3_1).Kind) == 2) == true) then (.fp (e_api_Entry (rd a0 x4_7)) 0) else .v undef)),(40,(.v (.bool (((rd a0 x3_1).Kind) == 2))))] (.fp (e_api_Entry (rd a0 x4_7)) 2),It.I ((((rd a0 x3_1).Kind) == 2) == true) [(49,(bif ((((rd a0 x3_1).Kind) == 2) == true) then (.fp (e_api_Entry (rd a0 x4_7)) 2) else .v undef)),(40,(.v (.bool (((rd a0 x3_1).Kind) == 2))))] (S ((rd a0 x4_7).Name)),It.I ((((rd a0 x3_1).Kind) == 2) == true) [(45,(bif ((((rd a0 x3_1).Kind) == 2) == true) then (S ((rd a0 x3_1).Name)) else .v undef)),(50,(bif ((((rd a0 x3_1).Kind) == 2) == true) then (S ((rd a0 x4_7).Name)) else .v undef)),(40,(.v (.bool (((rd a0 x3_1).Kind) == 2))))] (.v (.bool (((rd a0 x3_1).Name) == ((rd a0 x4_7).Name)))),⟨true,[(40,(.v (.bool (((rd a0 x3_1).Kind) == 2)))),(51,(bif ((((rd a0 x3_1).Kind) == 2) == true) then (.v (.bool (((rd a0 x3_1).Name) == ((rd a0 x4_7).Name)))) else .v undef))],(.v (.bool ((((rd a0 x3_1).Kind) == 2) && (((rd a0 x3_1).Name) == ((rd a0 x4_7).Name)))))⟩,⟨true,[(52,(.v (.bool ((((rd a0 x3_1).Kind) == 2) && (((rd a0 x3_1).Name) == ((rd a0 x4_7).Name))))))],(.v (.bool ((((rd a0 x3_1).Kind) == 2) && (((rd a0 x3_1).Name) == ((rd a0 x4_7).Name)))))⟩,It.I (((((rd a0 x3_1).Kind) == 2) && (((rd a0 x3_1).Name) == ((rd a0 x4_7).Name))) == false) [(0,(L 4 e_api_Entry a0)),(53,(.v (.bool ((((rd a0 x3_1).Kind) == 2) && (((rd a0 x3_1).Name) == ((rd a0 x4_7).Name))))))] (L 4 e_api_Entry a0),It.I (((((rd a0 x3_1).Kind) == 2) && (((rd a0 x3_1).Name) == ((rd a0 x4_7).Name))) == false) [(3,(.v (.int .i64 x3_1))),(53,(.v (.bool ((((rd a0 x3_1).Kind) == 2) && (((rd a0 x3_1).Name) == ((rd a0 x4_7).Name))))))] (.v (.int .i64 x3_1)),It.I (((((rd a0 x3_1).Kind) == 2) && (((rd a0 x3_1).Name) == ((rd a0 x4_7).Name))) == false) [(54,(bif (((((rd a0 x3_1).Kind) == 2) && (((rd a0 x3_1).Name) == ((rd a0 x4_7).Name))) == false) then (L 4 e_api_Entry a0) else .v undef)),(55,(bif (((((rd a0 x3_1).Kind) == 2) && (((rd a0 x3_1).Name) == ((rd a0 x4_7).Name))) == false) then (.v (.int .i64 x3_1)) else .v undef)),(53,(.v (.bool ((((rd a0 x3_1).Kind) == 2) && (((rd a0 x3_1).Name) == ((rd a0 x4_7).Name))))))] (.fp (e_api_Entry (rd a0 x3_1)) 0),It.I (((((rd a0 x3_1).Kind) == 2) && (((rd a0 x3_1).Name) == ((rd a0 x4_7).Name))) == false) [(56,(bif (((((rd a0 x3_1).Kind) == 2) && (((rd a0 x3_1).Name) == ((rd a0 x4_7).Name))) == false) then (.fp (e_api_Entry (rd a0 x3_1)) 0) else .v undef)),(53,(.v (.bool ((((rd a0 x3_1).Kind) == 2) && (((rd a0 x3_1).Name) == ((rd a0 x4_7).Name))))))] (.fp (e_api_Entry (rd a0 x3_1)) 0),It.I (((((rd a0 x3_1).Kind) == 2) && (((rd a0 x3_1).Name) == ((rd a0 x4_7).Name))) == false) [(57,(bif (((((rd a0 x3_1).Kind) == 2) && (((rd a0 x3_1).Name) == ((rd a0 x4_7).Name))) == false) then (.fp (e_api_Entry (rd a0 x3_1)) 0) else .v undef)),(53,(.v (.bool ((((rd a0 x3_1).Kind) == 2) && (((rd a0 x3_1).Name) == ((rd a0 x4_7).Name))))))] (.v (.int .i64 ((rd a0 x3_1).Kind))),It.I (((((rd a0 x3_1).Kind) == 2) && (((rd a0 x3_1).Name) == ((rd a0 x4_7).Name))) == false) [(58,(bif (((((rd a0 x3_1).Kind) == 2) && (((rd a0 x3_1).Name) == ((rd a0 x4_7).Name))) == false) then (.v (.int .i64 ((rd a0 x3_1).Kind))) else .v undef)),(53,(.v (.bool ((((rd a0 x3_1).Kind) == 2) && (((rd a0 x3_1).Name) == ((rd a0 x4_7).Name))))))] (.v (.bool (((rd a0 x3_1).Kind) != 2))),It.I (((((rd a0 x3_1).Kind) == 2) && (((rd a0 x3_1).Name) == ((rd a0 x4_7).Name))) == false) [(59,(bif (((((rd a0 x3_1).Kind) == 2) && (((rd a0 x3_1).Name) == ((rd a0 x4_7).Name))) == false) then (.v (.bool (((rd a0 x3_1).Kind) != 2))) else .v undef)),(53,(.v (.bool ((((rd a0 x3_1).Kind) == 2) && (((rd a0 x3_1).Name) == ((rd a0 x4_7).Name))))))] (.v (.bool (((rd a0 x3_1).Kind) != 2))),It.I ((((((rd a0 x3_1).Kind) == 2) && (((rd a0 x3_1).Name) == ((rd a0 x4_7).Name))) == false) && ((((rd a0 x3_1).Kind) != 2) == true)) [(0,(L 4 e_api_Entry a0)),(60,(bif (((((rd a0 x3_1).Kind) == 2) && (((rd a0 x3_1).Name) == ((rd a0 x4_7).Name))) == false) then (.v (.bool (((rd a0 x3_1).Kind) != 2))) else .v undef))] (L 4 e_api_Entry a0),It.I ((((((rd a0 x3_1).Kind) == 2) && (((rd a0 x3_1).Name) == ((rd a0 x4_7).Name))) == false) && ((((rd a0 x3_1).Kind) != 2) == true)) [(3,(.v (.int .i64 x3_1))),(60,(bif (((((rd a0 x3_1).Kind) == 2) && (((rd a0 x3_1).Name) == ((rd a0 x4_7).Name))) == false) then (.v (.bool (((rd a0 x3_1).Kind) != 2))) else .v undef))] (.v (.int .i64 x3_1)),It.I ((((((rd a0 x3_1).Kind) == 2) && (((rd a0 x3_1).Name) == ((rd a0 x4_7).Name))) == false) && ((((rd a0 x3_1).Kind) != 2) == true)) [(61,(bif ((((((rd a0 x3_1).Kind) == 2) && (((rd a0 x3_1).Name) == ((rd a0 x4_7).Name))) == false) && ((((rd a0 x3_1).Kind) != 2) == true)) then (L 4 e_api_Entry a0) else .v undef)),(62,(bif ((((((rd a0 x3_1).Kind) == 2) && (((rd a0 x3_1).Name) == ((rd a0 x4_7).Name))) == false) && ((((rd a0 x3_1).Kind) != 2) == true)) then (.v (.int .i64 x3_1)) else .v undef)),(60,(bif (((((rd a0 x3_1).Kind) == 2) && (((rd a0 x3_1).Name) == ((rd a0 x4_7).Name))) == false) then (.v (.bool (((rd a0 x3_1).Kind) != 2))) else .v undef))] (.fp (e_api_Entry (rd a0 x3_1)) 0),It.I ((((((rd a0 x3_1).Kind) == 2) && (((rd a0 x3_1).Name) == ((rd a0 x4_7).Name))) == false) && ((((rd a0 x3_1).Kind) != 2) == true)) [(63,(bif ((((((rd a0 x3_1).Kind) == 2) && (((rd a0 x3_1).Name) == ((rd a0 x4_7).Name))) == false) && ((((rd a0 x3_1).Kind) != 2) == true)) then (.fp (e_api_Entry (rd a0 x3_1)) 0) else .v undef)),(60,(bif (((((rd a0 x3_1).Kind) == 2) && (((rd a0 x3_1).Name) == ((rd a0 x4_7).Name))) == false) then (.v (.bool (((rd a0 x3_1).Kind) != 2))) else .v undef))] (.fp (e_api_Entry (rd a0 x3_1)) 1),It.I ((((((rd a0 x3_1).Kind) == 2) && (((rd a0 x3_1).Name) == ((rd a0 x4_7).Name))) == false) && ((((rd a0 x3_1).Kind) != 2) == true)) [(64,(bif ((((((rd a0 x3_1).Kind) == 2) && (((rd a0 x3_1).Name) == ((rd a0 x4_7).Name))) == false) && ((((rd a0 x3_1).Kind) != 2) == true)) then (.fp (e_api_Entry (rd a0 x3_1)) 1) else .v undef)),(60,(bif (((((rd a0 x3_1).Kind) == 2) && (((rd a0 x3_1).Name) == ((rd a0 x4_7).Name))) == false) then (.v (.bool (((rd a0 x3_1).Kind) != 2))) else .v undef))] (S ((rd a0 x3_1).URI)),It.I ((((((rd a0 x3_1).Kind) == 2) && (((rd a0 x3_1).Name) == ((rd a0 x4_7).Name))) == false) && ((((rd a0 x3_1).Kind) != 2) == true)) [(0,(L 4 e_api_Entry a0)),(60,(bif (((((rd a0 x3_1).Kind) == 2) && (((rd a0 x3_1).Name) == ((rd a0 x4_7).Name))) == false) then (.v (.bool (((rd a0 x3_1).Kind) != 2))) else .v undef))] (L 4 e_api_Entry a0),It.I ((((((rd a0 x3_1).Kind) == 2) && (((rd a0 x3_1).Name) == ((rd a0 x4_7).Name))) == false) && ((((rd a0 x3_1).Kind) != 2) == true)) [(4,(.v (.int .i64 x4_7))),(60,(bif (((((rd a0 x3_1).Kind) == 2) && (((rd a0 x3_1).Name) == ((rd a0 x4_7).Name))) == false) then (.v (.bool (((rd a0 x3_1).Kind) != 2))) else .v undef))] (.v (.int .i64 x4_7)),It.I ((((((rd a0 x3_1).Kind) == 2) && (((rd a0 x3_1).Name) == ((rd a0 x4_7).Name))) == false) && ((((rd a0 x3_1).Kind) != 2) == true)) [(66,(bif ((((((rd a0 x3_1).Kind) == 2) && (((rd a0 x3_1).Name) == ((rd a0 x4_7).Name))) == false) && ((((rd a0 x3_1).Kind) != 2) == true)) then (L 4 e_api_Entry a0) else .v undef)),(67,(bif ((((((rd a0 x3_1).Kind) == 2) && (((rd a0 x3_1).Name) == ((rd a0 x4_7).Name))) == false) && ((((rd a0 x3_1).Kind) != 2) == true)) then (.v (.int .i64 x4_7)) else .v undef)),(60,(bif (((((rd a0 x3_1).Kind) == 2) && (((rd a0 x3_1).Name) == ((rd a0 x4_7).Name))) == false) then (.v (.bool (((rd a0 x3_1).Kind) != 2))) else .v undef))] (.fp (e_api_Entry (rd a0 x4_7)) 0),It.I ((((((rd a0 x3_1).Kind) == 2) && (((rd a0 x3_1).Name) == ((rd a0 x4_7).Name))) == false) && ((((rd a0 x3_1).Kind) != 2) == true)) [(68,(bif ((((((rd a0 x3_1).Kind) == 2) && (((rd a0 x3_1).Name) == ((rd a0 x4_7).Name))) == false) && ((((rd a0 x3_1).Kind) != 2) == true)) then (.fp (e_api_Entry (rd a0 x4_7)) 0) else .v undef)),(60,(bif (((((rd a0 x3_1).Kind) == 2) && (((rd a0 x3_1).Name) == ((rd a0 x4_7).Name))) == false) then (.v (.bool (((rd a0 x3_1).Kind) != 2))) else .v undef))] (.fp (e_api_Entry (rd a0 x4_7)) 1),It.I ((((((rd a0 x3_1).Kind) == 2) && (((rd a0 x3_1).Name) == ((rd a0 x4_7).Name))) == false) && ((((rd a0 x3_1).Kind) != 2) == true)) [(69,(bif ((((((rd a0 x3_1).Kind) == 2) && (((rd a0 x3_1).Name) == ((rd a0 x4_7).Name))) == false) && ((((rd a0 x3_1).Kind) != 2) == true)) then (.fp (e_api_Entry (rd a0 x4_7)) 1) else .v undef)),(60,(bif (((((rd a0 x3_1).Kind) == 2) && (((rd a0 x3_1).Name) == ((rd a0 x4_7).Name))) == false) then (.v (.bool (((rd a0 x3_1).Kind) != 2))) else .v undef))] (S ((rd a0 x4_7).URI)),It.I ((((((rd a0 x3_1).Kind) == 2) && (((rd a0 x3_1).Name) == ((rd a0 x4_7).Name))) == false) && ((((rd a0 x3_1).Kind) != 2) == true)) [(65,(bif ((((((rd a0 x3_1).Kind) == 2) && (((rd a0 x3_1).Name) == ((rd a0 x4_7).Name))) == false) && ((((rd a0 x3_1).Kind) != 2) == true)) then (S ((rd a0 x3_1).URI)) else .v undef)),(70,(bif ((((((rd a0 x3_1).Kind) == 2) && (((rd a0 x3_1).Name) == ((rd a0 x4_7).Name))) == false) && ((((rd a0 x3_1).Kind) != 2) == true)) then (S ((rd a0 x4_7).URI)) else .v undef)),(60,(bif (((((rd a0 x3_1).Kind) == 2) && (((rd a0 x3_1).Name) == ((rd a0 x4_7).Name))) == false) then (.v (.bool (((rd a0 x3_1).Kind) != 2))) else .v undef))] (.v (.bool (((rd a0 x3_1).URI) == ((rd a0 x4_7).URI)))),It.I (((((rd a0 x3_1).Kind) == 2) && (((rd a0 x3_1).Name) == ((rd a0 x4_7).Name))) == false) [(60,(bif (((((rd a0 x3_1).Kind) == 2) && (((rd a0 x3_1).Name) == ((rd a0 x4_7).Name))) == false) then (.v (.bool (((rd a0 x3_1).Kind) != 2))) else .v undef)),(71,(bif ((((((rd a0 x3_1).Kind) == 2) && (((rd a0 x3_1).Name) == ((rd a0 x4_7).Name))) == false) && ((((rd a0 x3_1).Kind) != 2) == true)) then (.v (.bool (((rd a0 x3_1).URI) == ((rd a0 x4_7).URI)))) else .v undef)),(53,(.v (.bool ((((rd a0 x3_1).Kind) == 2) && (((rd a0 x3_1).Name) == ((rd a0 x4_7).Name))))))] (.v (.bool ((((rd a0 x3_1).Kind) != 2) && (((rd a0 x3_1).URI) == ((rd a0 x4_7).URI))))),⟨true,[(53,(.v (.bool ((((rd a0 x3_1).Kind) == 2) && (((rd a0 x3_1).Name) == ((rd a0 x4_7).Name)))))),(72,(bif (((((rd a0 x3_1).Kind) == 2) && (((rd a0 x3_1).Name) == ((rd a0 x4_7).Name))) == false) then (.v (.bool ((((rd a0 x3_1).Kind) != 2) && (((rd a0 x3_1).URI) == ((rd a0 x4_7).URI))))) else .v undef))],(.v (.bool (((((rd a0 x3_1).Kind) == 2) && (((rd a0 x3_1).Name) == ((rd a0 x4_7).Name))) || ((((rd a0 x3_1).Kind) != 2) && (((rd a0 x3_1).URI) == ((rd a0 x4_7).URI))))))⟩] [[],[],[0,1],[2],[3],[4],[5],[6],[6],[6,7,8],[6,9],[6,10],[6],[6],[6,12,13],[6,14],[6,15],[6,11,16],[6,17],[18],[19],[19],[19,20,21],[19,22],[19,23],[19,24],[19,25],[26],[26],[26,27,28],[26,29],[26,30],[26],[26],[26,32,33],[26,34],[26,35],[26,31,36],[19,26,37],[19,38]] mixed (by kernel_rfl) ?_ ?_
        ·refine TxtE.cons rfl ⟨.same _,trivial⟩ rfl (VOk.g (VOk.mv (d:=(L 4 e_api_Entry a0)) rfl rfl)) ?_
         refine TxtE.cons rfl ⟨.same _,trivial⟩ rfl (VOk.g (VOk.mv (d:=(.v (.int .i64 x3_1))) rfl rfl)) ?_
         refine TxtE.cons rfl ⟨.same _,.same _,trivial⟩ rfl (VOk.g (VOk.indexL (sz:=4) (e:=e_api_Entry) (xs:=a0) (i:=x3_1) rfl Tryz.underlying22 sz45 rfl rfl c12)) ?_
         refine TxtE.cons rfl ⟨.same _,trivial⟩ rfl (VOk.g (VOk.to (VOk.fieldFp rfl Tryz.underlying45 rfl sz3 rfl) rfl)) ?_
         refine TxtE.cons rfl ⟨.same _,trivial⟩ rfl (VOk.g (VOk.loadFp (d:=(.v (.int .i64 ((rd a0 x3_1).Kind)))) rfl Tryz.underlying3 rfl rfl rfl)) ?_
         refine TxtE.cons rfl ⟨.same _,trivial⟩ rfl (VOk.g (VOk.arith (op:=.eql) (k:=.i64) (a:=(rd a0 x3_1).Kind) (b:=2) rfl rfl rfl rfl)) ?_
         refine TxtE.cons rfl ⟨.same _,trivial⟩ rfl (VOk.g (VOk.mv (d:=(.v (.bool (((rd a0 x3_1).Kind) == 2)))) rfl rfl)) ?_
         refine TxtE.consI rfl ⟨.same _,.same _,trivial⟩ rfl rfl (.one rfl) (fun hw13 => (VOk.g (VOk.mv (d:=(L 4 e_api_Entry a0)) rfl rfl))) ?_
         refine TxtE.consI rfl ⟨.same _,.same _,trivial⟩ rfl rfl (.one rfl) (fun hw13 => (VOk.g (VOk.mv (d:=(.v (.int .i64 x3_1))) rfl rfl))) ?_
         refine TxtE.consI rfl ⟨.same _,.same _,.same _,trivial⟩ rfl rfl (.one rfl) (fun hw13 => (GOk.fr (fr':=[(41,(L 4 e_api_Entry a0)),(42,(.v (.int .i64 x3_1)))]) ⟨DLe.of_eq (cT hw13).symm,DLe.of_eq (cT hw13).symm,trivial⟩ (VOk.g (VOk.indexL (sz:=4) (e:=e_api_Entry) (xs:=a0) (i:=x3_1) rfl Tryz.underlying22 sz45 rfl rfl (c14 hw13))))) ?_
         refine TxtE.consI rfl ⟨.same _,.same _,trivial⟩ rfl rfl (.one rfl) (fun hw13 => (GOk.fr (fr':=[(43,(.fp (e_api_Entry (rd a0 x3_1)) 0))]) ⟨DLe.of_eq (cT hw13).symm,trivial⟩ (VOk.g (VOk.to (VOk.fieldFp rfl Tryz.underlying45 rfl sz9 rfl) rfl)))) ?_
         refine TxtE.consI rfl ⟨.same _,.same _,trivial⟩ rfl rfl (.one rfl) (fun hw13 => (GOk.fr (fr':=[(44,(.fp (e_api_Entry (rd a0 x3_1)) 2))]) ⟨DLe.of_eq (cT hw13).symm,trivial⟩ (VOk.g (VOk.loadFp (d:=(S ((rd a0 x3_1).Name))) rfl Tryz.underlying9 rfl rfl rfl)))) ?_
         refine TxtE.consI rfl ⟨.same _,.same _,trivial⟩ rfl rfl (.one rfl) (fun hw13 => (VOk.g (VOk.mv (d:=(L 4 e_api_Entry a0)) rfl rfl))) ?_
         refine TxtE.consI rfl ⟨.same _,.same _,trivial⟩ rfl rfl (.one rfl) (fun hw13 => (VOk.g (VOk.mv (d:=(.v (.int .i64 x4_7))) rfl rfl))) ?_
         refine TxtE.consI rfl ⟨.same _,.same _,.same _,trivial⟩ rfl rfl (.one rfl) (fun hw13 => (GOk.fr (fr':=[(46,(L 4 e_api_Entry a0)),(47,(.v (.int .i64 x4_7)))]) ⟨DLe.of_eq (cT hw13).symm,DLe.of_eq (cT hw13).symm,trivial⟩ (VOk.g (VOk.indexL (sz:=4) (e:=e_api_Entry) (xs:=a0) (i:=x4_7) rfl Tryz.underlying22 sz45 rfl rfl (c15 hw13))))) ?_
         refine TxtE.consI rfl ⟨.same _,.same _,trivial⟩ rfl rfl (.one rfl) (fun hw13 => (GOk.fr (fr':=[(48,(.fp (e_api_Entry (rd a0 x4_7)) 0))]) ⟨DLe.of_eq (cT hw13).symm,trivial⟩ (VOk.g (VOk.to (VOk.fieldFp rfl Tryz.underlying45 rfl sz9 rfl) rfl)))) ?_
         refine TxtE.consI rfl ⟨.same _,.same _,trivial⟩ rfl rfl (.one rfl) (fun hw13 => (GOk.fr (fr':=[(49,(.fp (e_api_Entry (rd a0 x4_7)) 2))]) ⟨DLe.of_eq (cT hw13).symm,trivial⟩ (VOk.g (VOk.loadFp (d:=(S ((rd a0 x4_7).Name))) rfl Tryz.underlying9 rfl rfl rfl)))) ?_
         refine TxtE.consI rfl ⟨.same _,.same _,.same _,trivial⟩ rfl rfl (.one rfl) (fun hw13 => (GOk.fr (fr':=[(45,(S ((rd a0 x3_1).Name))),(50,(S ((rd a0 x4_7).Name)))]) ⟨DLe.of_eq (cT hw13).symm,DLe.of_eq (cT hw13).symm,trivial⟩ (VOk.g (VOk.strOp (op:=.eql) (a:=(rd a0 x3_1).Name) (b:=(rd a0 x4_7).Name) rfl rfl rfl rfl)))) ?_
         refine TxtE.cons rfl ⟨.same _,.same _,trivial⟩ rfl (VOk.g (VOk.to (VOk.pickI (b:=(((rd a0 x3_1).Kind) == 2)) (p:=(((rd a0 x3_1).Name) == ((rd a0 x4_7).Name))) (q:=false) rfl rfl (fun hp16 => (cT (t_beq hp16))) (fun hp16 => rfl)) (pickAnd (((rd a0 x3_1).Kind) == 2) (((rd a0 x3_1).Name) == ((rd a0 x4_7).Name))))) ?_
         refine TxtE.cons rfl ⟨.same _,trivial⟩ rfl (VOk.g (VOk.mv (d:=(.v (.bool ((((rd a0 x3_1).Kind) == 2) && (((rd a0 x3_1).Name) == ((rd a0 x4_7).Name)))))) rfl rfl)) ?_
         refine TxtE.consI rfl ⟨.same _,.same _,trivial⟩ rfl rfl (.one rfl) (fun hw17 => (VOk.g (VOk.mv (d:=(L 4 e_api_Entry a0)) rfl rfl))) ?_
         refine TxtE.consI rfl ⟨.same _,.same _,trivial⟩ rfl rfl (.one rfl) (fun hw17 => (VOk.g (VOk.mv (d:=(.v (.int .i64 x3_1))) rfl rfl))) ?_
         refine TxtE.consI rfl ⟨.same _,.same _,.same _,trivial⟩ rfl rfl (.one rfl) (fun hw17 => (GOk.fr (fr':=[(54,(L 4 e_api_Entry a0)),(55,(.v (.int .i64 x3_1)))]) ⟨DLe.of_eq (cT hw17).symm,DLe.of_eq (cT hw17).symm,trivial⟩ (VOk.g (VOk.indexL (sz:=4) (e:=e_api_Entry) (xs:=a0) (i:=x3_1) rfl Tryz.underlying22 sz45 rfl rfl (c18 hw17))))) ?_
         refine TxtE.consI rfl ⟨.same _,.same _,trivial⟩ rfl rfl (.one rfl) (fun hw17 => (GOk.fr (fr':=[(56,(.fp (e_api_Entry (rd a0 x3_1)) 0))]) ⟨DLe.of_eq (cT hw17).symm,trivial⟩ (VOk.g (VOk.to (VOk.fieldFp rfl Tryz.underlying45 rfl sz3 rfl) rfl)))) ?_
         refine TxtE.consI rfl ⟨.same _,.same _,trivial⟩ rfl rfl (.one rfl) (fun hw17 => (GOk.fr (fr':=[(57,(.fp (e_api_Entry (rd a0 x3_1)) 0))]) ⟨DLe.of_eq (cT hw17).symm,trivial⟩ (VOk.g (VOk.loadFp (d:=(.v (.int .i64 ((rd a0 x3_1).Kind)))) rfl Tryz.underlying3 rfl rfl rfl)))) ?_
         refine TxtE.consI rfl ⟨.same _,.same _,trivial⟩ rfl rfl (.one rfl) (fun hw17 => (GOk.fr (fr':=[(58,(.v (.int .i64 ((rd a0 x3_1).Kind))))]) ⟨DLe.of_eq (cT hw17).symm,trivial⟩ (VOk.g (VOk.arith (op:=.neq) (k:=.i64) (a:=(rd a0 x3_1).Kind) (b:=2) rfl rfl rfl rfl)))) ?_
         refine TxtE.consI rfl ⟨.same _,.same _,trivial⟩ rfl rfl (.one rfl) (fun hw17 => (GOk.fr (fr':=[(59,(.v (.bool (((rd a0 x3_1).Kind) != 2))))]) ⟨DLe.of_eq (cT hw17).symm,trivial⟩ (VOk.g (VOk.mv (d:=(.v (.bool (((rd a0 x3_1).Kind) != 2)))) rfl rfl)))) ?_
         refine TxtE.consI rfl ⟨.same _,.same _,trivial⟩ rfl rfl (.two rfl) (fun hw19 => (VOk.g (VOk.mv (d:=(L 4 e_api_Entry a0)) rfl rfl))) ?_
         refine TxtE.consI rfl ⟨.same _,.same _,trivial⟩ rfl rfl (.two rfl) (fun hw19 => (VOk.g (VOk.mv (d:=(.v (.int .i64 x3_1))) rfl rfl))) ?_
         refine TxtE.consI rfl ⟨.same _,.same _,.same _,trivial⟩ rfl rfl (.two rfl) (fun hw19 => (GOk.fr (fr':=[(61,(L 4 e_api_Entry a0)),(62,(.v (.int .i64 x3_1)))]) ⟨DLe.of_eq (cT hw19).symm,DLe.of_eq (cT hw19).symm,trivial⟩ (VOk.g (VOk.indexL (sz:=4) (e:=e_api_Entry) (xs:=a0) (i:=x3_1) rfl Tryz.underlying22 sz45 rfl rfl (c20 hw19))))) ?_
         refine TxtE.consI rfl ⟨.same _,.same _,trivial⟩ rfl rfl (.two rfl) (fun hw19 => (GOk.fr (fr':=[(63,(.fp (e_api_Entry (rd a0 x3_1)) 0))]) ⟨DLe.of_eq (cT hw19).symm,trivial⟩ (VOk.g (VOk.to (VOk.fieldFp rfl Tryz.underlying45 rfl sz9 rfl) rfl)))) ?_
         refine TxtE.consI rfl ⟨.same _,.same _,trivial⟩ rfl rfl (.two rfl) (fun hw19 => (GOk.fr (fr':=[(64,(.fp (e_api_Entry (rd a0 x3_1)) 1))]) ⟨DLe.of_eq (cT hw19).symm,trivial⟩ (VOk.g (VOk.loadFp (d:=(S ((rd a0 x3_1).URI))) rfl Tryz.underlying9 rfl rfl rfl)))) ?_
         refine TxtE.consI rfl ⟨.same _,.same _,trivial⟩ rfl rfl (.two rfl) (fun hw19 => (VOk.g (VOk.mv (d:=(L 4 e_api_Entry a0)) rfl rfl))) ?_
         refine TxtE.consI rfl ⟨.same _,.same _,trivial⟩ rfl rfl (.two rfl) (fun hw19 => (VOk.g (VOk.mv (d:=(.v (.int .i64 x4_7))) rfl rfl))) ?_
         refine TxtE.consI rfl ⟨.same _,.same _,.same _,trivial⟩ rfl rfl (.two rfl) (fun hw19 => (GOk.fr (fr':=[(66,(L 4 e_api_Entry a0)),(67,(.v (.int .i64 x4_7)))]) ⟨DLe.of_eq (cT hw19).symm,DLe.of_eq (cT hw19).symm,trivial⟩ (VOk.g (VOk.indexL (sz:=4) (e:=e_api_Entry) (xs:=a0) (i:=x4_7) rfl Tryz.underlying22 sz45 rfl rfl (c21 hw19))))) ?_
         refine TxtE.consI rfl ⟨.same _,.same _,trivial⟩ rfl rfl (.two rfl) (fun hw19 => (GOk.fr (fr':=[(68,(.fp (e_api_Entry (rd a0 x4_7)) 0))]) ⟨DLe.of_eq (cT hw19).symm,trivial⟩ (VOk.g (VOk.to (VOk.fieldFp rfl Tryz.underlying45 rfl sz9 rfl) rfl)))) ?_
         refine TxtE.consI rfl ⟨.same _,.same _,trivial⟩ rfl rfl (.two rfl) (fun hw19 => (GOk.fr (fr':=[(69,(.fp (e_api_Entry (rd a0 x4_7)) 1))]) ⟨DLe.of_eq (cT hw19).symm,trivial⟩ (VOk.g (VOk.loadFp (d:=(S ((rd a0 x4_7).URI))) rfl Tryz.underlying9 rfl rfl rfl)))) ?_
         refine TxtE.consI rfl ⟨.same _,.same _,.same _,trivial⟩ rfl rfl (.two rfl) (fun hw19 => (GOk.fr (fr':=[(65,(S ((rd a0 x3_1).URI))),(70,(S ((rd a0 x4_7).URI)))]) ⟨DLe.of_eq (cT hw19).symm,DLe.of_eq (cT hw19).symm,trivial⟩ (VOk.g (VOk.strOp (op:=.eql) (a:=(rd a0 x3_1).URI) (b:=(rd a0 x4_7).URI) rfl rfl rfl rfl)))) ?_
         refine TxtE.consI rfl ⟨.same _,.same _,.same _,trivial⟩ rfl rfl (.one rfl) (fun hw17 => (VOk.g (VOk.to (VOk.pickI (b:=(((rd a0 x3_1).Kind) != 2)) (p:=(((rd a0 x3_1).URI) == ((rd a0 x4_7).URI))) (q:=false) rfl (cT hw17) (fun hp22 => (cT (and_i hw17 (t_beq hp22)))) (fun hp22 => rfl)) (pickAnd (((rd a0 x3_1).Kind) != 2) (((rd a0 x3_1).URI) == ((rd a0 x4_7).URI)))))) ?_
         refine TxtE.cons rfl ⟨.same _,.same _,trivial⟩ rfl (VOk.g (VOk.to (VOk.pickI (b:=((((rd a0 x3_1).Kind) == 2) && (((rd a0 x3_1).Name) == ((rd a0 x4_7).Name)))) (p:=true) (q:=((((rd a0 x3_1).Kind) != 2) && (((rd a0 x3_1).URI) == ((rd a0 x4_7).URI)))) rfl rfl (fun hp23 => rfl) (fun hp23 => (cT (f_beq hp23)))) (pickOr ((((rd a0 x3_1).Kind) == 2) && (((rd a0 x3_1).Name) == ((rd a0 x4_7).Name))) ((((rd a0 x3_1).Kind) != 2) && (((rd a0 x3_1).URI) == ((rd a0 x4_7).URI)))))) ?_
         exact .done (.rf rfl rfl)
        refine Ok.test (b:=(((((rd a0 x3_1).Kind) == 2) && (((rd a0 x3_1).Name) == ((rd a0 x4_7).Name))) || ((((rd a0 x3_1).Kind) != 2) && (((rd a0 x3_1).URI) == ((rd a0 x4_7).URI))))) rfl (fun hb24 => ?_) (fun hb24 => ?_)
        ·replace H:=ifT H hb24
         refine Ok.seq ?_
         refine .rg [(2,(.v (.bool false)))] [] ?_
         refine Ok.ret ?_
         obtain rfl:=Option.some.inj H
         exact⟨.inl rfl,⟨_,(.cons (.tmp rfl) .nil),rfl⟩,trivial⟩
        ·replace H:=ifF H hb24
         refine Ok.skip ?_
         refine .rg [(0,(L 4 e_api_Entry a0)),(3,(.v (.int .i64 x3_1))),(4,(.v (.int .i64 (IntKind.i64.wrap (x4_7 + 1)))))] [] ?_
         exact⟨m9,Nat.lt_succ_self m9,(IntKind.i64.wrap (x4_7 + 1)),rfl,H⟩
      ·replace H:=ifF H hb26
       refine Ok.exit ?_
       refine .rg [(0,(L 4 e_api_Entry a0)),(3,(.v (.int .i64 (IntKind.i64.wrap (x3_1 + 1)))))] [] ?_
       exact⟨m3,Nat.lt_succ_self m3,(IntKind.i64.wrap (x3_1 + 1)),rfl,H⟩
   ·replace H:=ifF H hb28
    refine Ok.exit ?_
    refine Ok.seq ?_
    refine .rg [(2,(.v (.bool true)))] [] ?_
    refine Ok.ret ?_
    obtain rfl:=Option.some.inj H
    exact⟨.inl rfl,⟨_,(.cons (.tmp rfl) .nil),rfl⟩,trivial⟩
def watchbillref16_Encode.l0 (k:Nat) (a0:List T_api_Entry):Nat→Int→Str→Str→List T_api_Attr→List T_api_Node→Str→List T_api_Node→Int→Option (T_api_Node × Int)
 | 0,_,_,_,_,_,_,_,_ => none
 | m17 + 1,y2_0_2,y2_1_3,y2_2_4,y2_3_5,y2_4_6,y2_5_7,y4_8,x5_1 => (if (decide (x5_1 < (a0.length:Int)))=true then (if (0:Int) ≤ x5_1 ∧ x5_1 < (a0.length:Int) then (if (((((rd a0 x5_1).Kind) != 2) == false)=true→(0:Int) ≤ x5_1 ∧ x5_1 < (a0.length:Int)) then (((if ((((rd a0 x5_1).Kind) != 2) == false)=true then watchbillref16_May k (rd a0 x5_1) else some default)).bind fun (t21:Bool) => (if ((((rd a0 x5_1).Kind) != 2) || (!t21))=true then some ((T_api_Node.mk 0 (T_api_Name.mk ([]:Str) ([]:Str)) ([]:List T_api_Attr) ([]:List T_api_Node) ([]:Str)),4) else (if (0:Int) ≤ x5_1 ∧ x5_1 < (a0.length:Int) then ((watchbillref16_Made k (rd a0 x5_1)).bind fun (t25:T_api_Node) => (if (y4_8.length + ([t25]:List T_api_Node).length) * 104 ≤ 140737488355328 then watchbillref16_Encode.l0 k a0 m17 y2_0_2 y2_1_3 y2_2_4 y2_3_5 y2_4_6 y2_5_7 (y4_8 ++ ([t25]:List T_api_Node)) (IntKind.i64.wrap (x5_1 + 1)) else none)) else none))) else none) else none) else ((watchbillref16_Unique k a0).bind fun (t29:Bool) => (if (!t29)=true then some ((T_api_Node.mk 0 (T_api_Name.mk ([]:Str) ([]:Str)) ([]:List T_api_Attr) ([]:List T_api_Node) ([]:Str)),41) else ((watchbillref16_El ([117,114,110,58,105,101,116,102,58,112,97,114,97,109,115,58,120,109,108,58,110,115,58,114,101,115,111,117,114,99,101,45,108,105,115,116,115]:Str) ([114,101,115,111,117,114,99,101,45,108,105,115,116,115]:Str) ([]:Str) ([]:Str) y4_8).bind fun (t31:T_api_Node) => some (t31,0)))))
def watchbillref16_Encode (k:Nat) (a0:List T_api_Entry):Option (T_api_Node × Int):=watchbillref16_Encode.l0 k a0 k 0 ([]:Str) ([]:Str) ([]:List T_api_Attr) ([]:List T_api_Node) ([]:Str) ([]:List T_api_Node) 0
theorem watchbillref16_Encode.ok {k:Nat} {a0:List T_api_Entry} {r:T_api_Node × Int} (H:watchbillref16_Encode k a0=some r):Vx.Fn Tryz.prog 16 [(L 4 e_api_Entry a0)] [] (.tup [(.agg (e_api_Node r.1)),(.v (.int .i64 r.2))]) []:=by
 unfold watchbillref16_Encode at H
 refine Vx.Fn.of_okR Tryz.func16 rfl (Nat.le_of_ble_eq_true rfl) ?_
 refine Ok.seq ?_
 refine .rg [(0,(L 4 e_api_Entry a0)),(2,(.bref 2 0))] [(2,bx0)] ?_
 refine Ok.seq ?_
 refine Ok.region (σ':=⟨[(0,(L 4 e_api_Entry a0)),(2,(.bref 2 0)),(4,(.sref 4))],[(2,bx0),(4,(.rows true 28 6 (([]:List T_api_Node).map e_api_Node)))]⟩) ?_ ?_
 ·refine OpsOk.cons rfl (.nilT 4 28 6 (.inl rfl) rfl rfl) ?_
  exact .dn
 refine Ok.seq ?_
 refine Ok.seq ?_
 refine .rg [(0,(L 4 e_api_Entry a0)),(2,(.bref 2 0)),(4,(.sref 4)),(5,(.v (.int .i64 0)))] [(2,bx0),(4,(.rows true 28 6 (([]:List T_api_Node).map e_api_Node)))] ?_
 refine Ok.block ?_
 refine Ok.loop (fun m17 σ => ∃ (y2_0_2:Int) (y2_1_3:Str) (y2_2_4:Str) (y2_3_5:List T_api_Attr) (y2_4_6:List T_api_Node) (y2_5_7:Str) (y4_8:List T_api_Node) (x5_1:Int),σ=⟨[(0,(L 4 e_api_Entry a0)),(2,(.bref 2 0)),(4,(.sref 4)),(5,(.v (.int .i64 x5_1)))],[(2,(.box .ex [(.v (.int .i64 y2_0_2)),(S y2_1_3),(S y2_2_4),(L 3 e_api_Attr y2_3_5),(L 6 e_api_Node y2_4_6),(S y2_5_7)])),(4,(.rows true 28 6 (y4_8.map e_api_Node)))]⟩ ∧ watchbillref16_Encode.l0 k a0 m17 y2_0_2 y2_1_3 y2_2_4 y2_3_5 y2_4_6 y2_5_7 y4_8 x5_1=some r) k ⟨0,([]:Str),([]:Str),([]:List T_api_Attr),([]:List T_api_Node),([]:Str),([]:List T_api_Node),0,rfl,H⟩ ?_
 rintro m17 σ ⟨y2_0_2,y2_1_3,y2_2_4,y2_3_5,y2_4_6,y2_5_7,y4_8,x5_1,rfl,H⟩
 cases m17 with
 | zero => exact absurd H (by simp [watchbillref16_Encode.l0])
 | succ m17 =>
  unfold watchbillref16_Encode.l0 at H
  refine Ok.seq ?_
  refine Ok.seq ?_
  refine Ok.region (σ':=⟨[(0,(L 4 e_api_Entry a0)),(2,(.bref 2 0)),(4,(.sref 4)),(5,(.v (.int .i64 x5_1))),(9,(.v (.bool (decide (x5_1 < (a0.length:Int))))))],[(2,(.box .ex [(.v (.int .i64 y2_0_2)),(S y2_1_3),(S y2_2_4),(L 3 e_api_Attr y2_3_5),(L 6 e_api_Node y2_4_6),(S y2_5_7)])),(4,(.rows true 28 6 (y4_8.map e_api_Node)))]⟩) ?_ ?_
  ·refine .rn 2 ?_
   refine .cv (VOk.lenL (e:=e_api_Entry) (xs:=a0) rfl Tryz.underlying22 rfl) rfl rfl ?_
   refine .rn 1 ?_
   exact .dn
  refine Ok.test (b:=(decide (x5_1 < (a0.length:Int)))) rfl (fun hb34 => ?_) (fun hb34 => ?_)
  ·replace H:=ifT H hb34
   refine Ok.skip ?_
   refine Ok.seq ?_
   refine Ok.block ?_
   refine Ok.seq ?_
   refine Ok.seq ?_
   obtain⟨c18,H⟩:=assertE H
   obtain⟨c20,H⟩:=assertE H
   obtain⟨t21,h22,H⟩:=bindE H
   refine Ok.region (σ':=⟨[(0,(L 4 e_api_Entry a0)),(2,(.bref 2 0)),(4,(.sref 4)),(5,(.v (.int .i64 x5_1))),(25,(.v (.bool ((((rd a0 x5_1).Kind) != 2) || (!t21)))))],[(2,(.box .ex [(.v (.int .i64 y2_0_2)),(S y2_1_3),(S y2_2_4),(L 3 e_api_Attr y2_3_5),(L 6 e_api_Node y2_4_6),(S y2_5_7)])),(4,(.rows true 28 6 (y4_8.map e_api_Node)))]⟩) ?_ ?_
   ·refine .rn 2 ?_
    refine .cv (VOk.indexL (sz:=4) (e:=e_api_Entry) (xs:=a0) (i:=x5_1) rfl Tryz.underlying22 sz45 rfl rfl c18) rfl rfl ?_
    refine .rn 4 ?_
    refine OpsOk.consI rfl rfl rfl (.one rfl) rfl (fun hw19 => (VOk.g (VOk.mv (d:=(L 4 e_api_Entry a0)) rfl rfl))) ?_
    refine OpsOk.consI rfl rfl rfl (.one rfl) rfl (fun hw19 => (VOk.g (VOk.mv (d:=(.v (.int .i64 x5_1))) rfl rfl))) ?_
    refine OpsOk.consI rfl rfl rfl (.one rfl) rfl (fun hw19 => (GOk.fr (fr':=[(19,(L 4 e_api_Entry a0)),(20,(.v (.int .i64 x5_1)))]) ⟨DLe.of_eq (cT hw19).symm,DLe.of_eq (cT hw19).symm,trivial⟩ (VOk.g (VOk.indexL (sz:=4) (e:=e_api_Entry) (xs:=a0) (i:=x5_1) rfl Tryz.underlying22 sz45 rfl rfl (c20 hw19))))) ?_
    refine OpsOk.consI rfl rfl rfl (.one rfl) rfl (fun hw19 => (GOk.fr (fr':=[(21,(.fp (e_api_Entry (rd a0 x5_1)) 0))]) ⟨DLe.of_eq (cT hw19).symm,trivial⟩ (VOk.g (VOk.to (d':=(.agg (e_api_Entry (rd a0 x5_1)))) (.loadFpAgg rfl Tryz.underlying45 rfl sz45 rfl rfl) rfl)))) ?_
    refine OpsOk.consI rfl rfl rfl (.one rfl) rfl (fun hw19 => (GOk.fr (fr':=[(22,(.agg (e_api_Entry (rd a0 x5_1))))]) ⟨DLe.of_eq (cT hw19).symm,trivial⟩ (GOk.call rfl rfl cl31 rfl (watchbillref16_May.ok (ifT h22 hw19)) rfl))) ?_
    refine OpsOk.consI rfl rfl rfl (.one rfl) rfl (fun hw19 => (GOk.fr (fr':=[(23,(.v (.bool t21)))]) ⟨DLe.of_eq (cT hw19).symm,trivial⟩ (VOk.g (VOk.not (b:=t21) rfl rfl)))) ?_
    refine .cv (VOk.to (VOk.pickI (b:=(((rd a0 x5_1).Kind) != 2)) (p:=true) (q:=(!t21)) rfl rfl (fun hp23 => rfl) (fun hp23 => (cT (f_beq hp23)))) (pickOr (((rd a0 x5_1).Kind) != 2) (!t21))) rfl rfl ?_
    exact .dn
   refine Ok.test (b:=((((rd a0 x5_1).Kind) != 2) || (!t21))) rfl (fun hb28 => ?_) (fun hb28 => ?_)
   ·replace H:=ifT H hb28
    refine Ok.seq ?_
    refine Ok.region (σ':=⟨[(2,(.bref 2 0)),(3,(.v (.int .i64 4)))],[(2,(bxN nN0))]⟩) ?_ ?_
    ·refine .cv (VOk.to (d':=(.agg (e_api_Node nN0))) (.build [none,none,none,some 3,some 6,none] [(0,1),(1,2),(3,1),(4,1),(5,1)] rfl Tryz.underlying28 (fa28 Tryz.underlying28) zo28 rfl rfl) (congrArg D.agg (e_api_Node_c nN0).symm)) rfl rfl ?_
     refine OpsOk.cut1 26 (.agg [(.v (.int .i64 (nN0.Kind))),(S (nN0.Name.Space)),(S (nN0.Name.Local)),(L 3 e_api_Attr (nN0.Attrs)),(L 6 e_api_Node (nN0.Kids)),(S (nN0.Text))]) (DLe.of_eq (congrArg D.agg (e_api_Node_c _).symm)) ?_
     refine .rn 2 ?_
     exact .dn
    refine Ok.ret ?_
    obtain rfl:=Option.some.inj H
    exact⟨.inl rfl,⟨_,(.cons (.cell (VOk.to (d':=(.agg (e_api_Node nN0))) (.loadBAgg rfl Tryz.underlying28 rfl sz28 rfl rfl rfl) (congrArg D.agg (e_api_Node_c nN0).symm))) (.cons (.tmp rfl) .nil)),rfl⟩,trivial⟩
   ·replace H:=ifF H hb28
    refine Ok.skip ?_
    obtain⟨c24,H⟩:=assertE H
    obtain⟨t25,h26,H⟩:=bindE H
    obtain⟨c27,H⟩:=assertE H
    refine Ok.region (σ':=⟨[(0,(L 4 e_api_Entry a0)),(2,(.bref 2 0)),(4,(.sref 4)),(5,(.v (.int .i64 x5_1)))],[(2,(.box .ex [(.v (.int .i64 y2_0_2)),(S y2_1_3),(S y2_2_4),(L 3 e_api_Attr y2_3_5),(L 6 e_api_Node y2_4_6),(S y2_5_7)])),(4,(.rows true 28 6 ((y4_8 ++ ([t25]:List T_api_Node)).map e_api_Node)))]⟩) ?_ ?_
    ·refine .rn 3 ?_
     refine .cv (VOk.indexL (sz:=4) (e:=e_api_Entry) (xs:=a0) (i:=x5_1) rfl Tryz.underlying22 sz45 rfl rfl c24) rfl rfl ?_
     refine .rn 1 ?_
     refine .cg (GOk.call rfl rfl cl32 rfl (watchbillref16_Made.ok h26) rfl) rfl rfl ?_
     refine .cg (GOk.to (d':=(L 6 e_api_Node ([t25]:List T_api_Node))) (GOk.lit rfl Tryz.underlying26 sz28 zs28 rfl rfl rfl rfl) rfl) rfl rfl ?_
     refine OpsOk.cons rfl (OpOk.appendL (e:=e_api_Node) (xs:=y4_8) (ys:=([t25]:List T_api_Node)) rfl Tryz.underlying26 elt28 rfl rfl rfl c27 rfl) ?_
     refine .rn 1 ?_
     exact .dn
    refine .rg [(0,(L 4 e_api_Entry a0)),(2,(.bref 2 0)),(4,(.sref 4)),(5,(.v (.int .i64 (IntKind.i64.wrap (x5_1 + 1)))))] [(2,(.box .ex [(.v (.int .i64 y2_0_2)),(S y2_1_3),(S y2_2_4),(L 3 e_api_Attr y2_3_5),(L 6 e_api_Node y2_4_6),(S y2_5_7)])),(4,(.rows true 28 6 ((y4_8 ++ ([t25]:List T_api_Node)).map e_api_Node)))] ?_
    exact⟨m17,Nat.lt_succ_self m17,y2_0_2,y2_1_3,y2_2_4,y2_3_5,y2_4_6,y2_5_7,(y4_8 ++ ([t25]:List T_api_Node)),(IntKind.i64.wrap (x5_1 + 1)),rfl,H⟩
  ·replace H:=ifF H hb34
   refine Ok.exit ?_
   refine Ok.seq ?_
   refine Ok.seq ?_
   obtain⟨t29,h30,H⟩:=bindE H
   refine Ok.region (σ':=⟨[(2,(.bref 2 0)),(4,(.sref 4)),(37,(.v (.bool (!t29))))],[(2,(.box .ex [(.v (.int .i64 y2_0_2)),(S y2_1_3),(S y2_2_4),(L 3 e_api_Attr y2_3_5),(L 6 e_api_Node y2_4_6),(S y2_5_7)])),(4,(.rows true 28 6 (y4_8.map e_api_Node)))]⟩) ?_ ?_
   ·refine .rn 1 ?_
    refine .cg (GOk.call rfl rfl cl33 rfl (watchbillref16_Unique.ok h30) rfl) rfl rfl ?_
    refine .rn 1 ?_
    exact .dn
   refine Ok.test (b:=(!t29)) rfl (fun hb33 => ?_) (fun hb33 => ?_)
   ·replace H:=ifT H hb33
    refine Ok.seq ?_
    refine Ok.region (σ':=⟨[(2,(.bref 2 0)),(3,(.v (.int .i64 41)))],[(2,(bxN nN0))]⟩) ?_ ?_
    ·refine .cv (VOk.to (d':=(.agg (e_api_Node nN0))) (.build [none,none,none,some 3,some 6,none] [(0,1),(1,2),(3,1),(4,1),(5,1)] rfl Tryz.underlying28 (fa28 Tryz.underlying28) zo28 rfl rfl) (congrArg D.agg (e_api_Node_c nN0).symm)) rfl rfl ?_
     refine OpsOk.cut1 38 (.agg [(.v (.int .i64 (nN0.Kind))),(S (nN0.Name.Space)),(S (nN0.Name.Local)),(L 3 e_api_Attr (nN0.Attrs)),(L 6 e_api_Node (nN0.Kids)),(S (nN0.Text))]) (DLe.of_eq (congrArg D.agg (e_api_Node_c _).symm)) ?_
     refine .rn 2 ?_
     exact .dn
    refine Ok.ret ?_
    obtain rfl:=Option.some.inj H
    exact⟨.inl rfl,⟨_,(.cons (.cell (VOk.to (d':=(.agg (e_api_Node nN0))) (.loadBAgg rfl Tryz.underlying28 rfl sz28 rfl rfl rfl) (congrArg D.agg (e_api_Node_c nN0).symm))) (.cons (.tmp rfl) .nil)),rfl⟩,trivial⟩
   ·replace H:=ifF H hb33
    refine Ok.skip ?_
    refine Ok.seq ?_
    obtain⟨t31,h32,H⟩:=bindE H
    refine Ok.frzL 4 (e:=e_api_Node) (xs:=y4_8) rfl ?_
    refine Ok.region (σ':=⟨[(2,(.bref 2 0)),(3,(.v (.int .i64 0)))],[(2,(bxN t31))]⟩) ?_ ?_
    ·refine .rn 1 ?_
     refine .cg (GOk.call rfl rfl cl34 rfl (watchbillref16_El.ok h32) rfl) rfl rfl ?_
     refine OpsOk.cut1 40 (.agg (c_api_Node t31)) (DLe.of_eq (congrArg D.agg (e_api_Node_c _).symm)) ?_
     refine .rn 2 ?_
     exact .dn
    refine Ok.ret ?_
    obtain rfl:=Option.some.inj H
    exact⟨.inl rfl,⟨_,(.cons (.cell (VOk.to (d':=(.agg (e_api_Node t31))) (.loadBAgg rfl Tryz.underlying28 rfl sz28 rfl rfl rfl) (congrArg D.agg (e_api_Node_c t31).symm))) (.cons (.tmp rfl) .nil)),rfl⟩,trivial⟩
def lists_EncodeList (k:Nat) (a0:T_api_Entry):Option (T_api_Node × Int):=(((if ((a0.Kind != 2) == false)=true then lists_may k a0 else some default)).bind fun (t2:Bool) => (if ((a0.Kind != 2) || (!t2))=true then some ((T_api_Node.mk 0 (T_api_Name.mk ([]:Str) ([]:Str)) ([]:List T_api_Attr) ([]:List T_api_Node) ([]:Str)),4) else ((lists_unique k a0.List_).bind fun (t5:Bool) => (if (!t5)=true then some ((T_api_Node.mk 0 (T_api_Name.mk ([]:Str) ([]:Str)) ([]:List T_api_Attr) ([]:List T_api_Node) ([]:Str)),41) else ((lists_encode k a0).bind fun (t7:T_api_Node) => some (t7,0))))))
theorem lists_EncodeList.ok {k:Nat} {a0:T_api_Entry} {r:T_api_Node × Int} (H:lists_EncodeList k a0=some r):Vx.Fn Tryz.prog 17 [(.agg (e_api_Entry a0))] [] (.tup [(.agg (e_api_Node r.1)),(.v (.int .i64 r.2))]) []:=by
 unfold lists_EncodeList at H
 refine Vx.Fn.of_okR Tryz.func17 rfl (Nat.le_of_ble_eq_true rfl) ?_
 refine Ok.seq ?_
 refine Ok.region (σ':=⟨[(1,(.bref 1 0)),(2,(.bref 2 0))],[(1,(.box .ex (c_api_Entry a0))),(2,bx0)]⟩) ?_ ?_
 ·refine OpsOk.cut1 0 (.agg [(.v (.int .i64 a0.Kind)),(S a0.URI),(S a0.Name),(L 4 e_api_Entry a0.List_)]) (DLe.of_eq (congrArg D.agg (e_api_Entry_c _).symm)) ?_
  refine .rn 3 ?_
  exact .dn
 refine Ok.seq ?_
 refine Ok.block ?_
 refine Ok.seq ?_
 obtain⟨t2,h3,H⟩:=bindE H
 refine Ok.region (σ':=⟨[(1,(.bref 1 0)),(2,(.bref 2 0)),(4,(.v (.bool ((a0.Kind != 2) || (!t2)))))],[(1,(.box .ex (c_api_Entry a0))),(2,bx0)]⟩) ?_ ?_
 ·refine .rn 4 ?_
  refine OpsOk.consI rfl rfl rfl (.one rfl) rfl (fun hw1 => (VOk.g (VOk.to (d':=(.agg (e_api_Entry a0))) (.loadBAgg rfl Tryz.underlying45 rfl sz45 rfl rfl rfl) (congrArg D.agg (e_api_Entry_c a0).symm)))) ?_
  refine OpsOk.consI rfl rfl rfl (.one rfl) rfl (fun hw1 => (GOk.fr (fr':=[(9,(.agg (e_api_Entry a0)))]) ⟨DLe.of_eq (cT hw1).symm,trivial⟩ (GOk.call rfl rfl cl29 rfl (lists_may.ok (ifT h3 hw1)) rfl))) ?_
  refine OpsOk.consI rfl rfl rfl (.one rfl) rfl (fun hw1 => (GOk.fr (fr':=[(10,(.v (.bool t2)))]) ⟨DLe.of_eq (cT hw1).symm,trivial⟩ (VOk.g (VOk.not (b:=t2) rfl rfl)))) ?_
  refine .cv (VOk.to (VOk.pickI (b:=(a0.Kind != 2)) (p:=true) (q:=(!t2)) rfl rfl (fun hp4 => rfl) (fun hp4 => (cT (f_beq hp4)))) (pickOr (a0.Kind != 2) (!t2))) rfl rfl ?_
  refine .rn 1 ?_
  exact .dn
 refine Ok.test (b:=((a0.Kind != 2) || (!t2))) rfl (fun hb10 => ?_) (fun hb10 => ?_)
 ·replace H:=ifT H hb10
  refine Ok.seq ?_
  refine Ok.region (σ':=⟨[(2,(.bref 2 0)),(3,(.v (.int .i64 4)))],[(2,(bxN nN0))]⟩) ?_ ?_
  ·refine .cv (VOk.to (d':=(.agg (e_api_Node nN0))) (.build [none,none,none,some 3,some 6,none] [(0,1),(1,2),(3,1),(4,1),(5,1)] rfl Tryz.underlying28 (fa28 Tryz.underlying28) zo28 rfl rfl) (congrArg D.agg (e_api_Node_c nN0).symm)) rfl rfl ?_
   refine OpsOk.cut1 13 (.agg [(.v (.int .i64 (nN0.Kind))),(S (nN0.Name.Space)),(S (nN0.Name.Local)),(L 3 e_api_Attr (nN0.Attrs)),(L 6 e_api_Node (nN0.Kids)),(S (nN0.Text))]) (DLe.of_eq (congrArg D.agg (e_api_Node_c _).symm)) ?_
   refine .rn 2 ?_
   exact .dn
  refine Ok.ret ?_
  obtain rfl:=Option.some.inj H
  exact⟨.inl rfl,⟨_,(.cons (.cell (VOk.to (d':=(.agg (e_api_Node nN0))) (.loadBAgg rfl Tryz.underlying28 rfl sz28 rfl rfl rfl) (congrArg D.agg (e_api_Node_c nN0).symm))) (.cons (.tmp rfl) .nil)),rfl⟩,trivial⟩
 ·replace H:=ifF H hb10
  refine Ok.seq ?_
  obtain⟨t5,h6,H⟩:=bindE H
  refine Ok.region (σ':=⟨[(1,(.bref 1 0)),(2,(.bref 2 0)),(14,(.v (.bool (!t5))))],[(1,(.box .ex (c_api_Entry a0))),(2,bx0)]⟩) ?_ ?_
  ·refine .rn 2 ?_
   refine .cg (GOk.call rfl rfl cl27 rfl (lists_unique.ok h6) rfl) rfl rfl ?_
   refine .rn 2 ?_
   exact .dn
  refine Ok.test (b:=(!t5)) rfl (fun hb9 => ?_) (fun hb9 => ?_)
  ·replace H:=ifT H hb9
   refine Ok.seq ?_
   refine Ok.region (σ':=⟨[(2,(.bref 2 0)),(3,(.v (.int .i64 41)))],[(2,(bxN nN0))]⟩) ?_ ?_
   ·refine .cv (VOk.to (d':=(.agg (e_api_Node nN0))) (.build [none,none,none,some 3,some 6,none] [(0,1),(1,2),(3,1),(4,1),(5,1)] rfl Tryz.underlying28 (fa28 Tryz.underlying28) zo28 rfl rfl) (congrArg D.agg (e_api_Node_c nN0).symm)) rfl rfl ?_
    refine OpsOk.cut1 19 (.agg [(.v (.int .i64 (nN0.Kind))),(S (nN0.Name.Space)),(S (nN0.Name.Local)),(L 3 e_api_Attr (nN0.Attrs)),(L 6 e_api_Node (nN0.Kids)),(S (nN0.Text))]) (DLe.of_eq (congrArg D.agg (e_api_Node_c _).symm)) ?_
    refine .rn 2 ?_
    exact .dn
   refine Ok.ret ?_
   obtain rfl:=Option.some.inj H
   exact⟨.inl rfl,⟨_,(.cons (.cell (VOk.to (d':=(.agg (e_api_Node nN0))) (.loadBAgg rfl Tryz.underlying28 rfl sz28 rfl rfl rfl) (congrArg D.agg (e_api_Node_c nN0).symm))) (.cons (.tmp rfl) .nil)),rfl⟩,trivial⟩
  ·replace H:=ifF H hb9
   refine Ok.skip ?_
   refine Ok.seq ?_
   obtain⟨t7,h8,H⟩:=bindE H
   refine Ok.region (σ':=⟨[(2,(.bref 2 0)),(3,(.v (.int .i64 0)))],[(2,(bxN t7))]⟩) ?_ ?_
   ·refine .cv (VOk.to (d':=(.agg (e_api_Entry a0))) (.loadBAgg rfl Tryz.underlying45 rfl sz45 rfl rfl rfl) (congrArg D.agg (e_api_Entry_c a0).symm)) rfl rfl ?_
    refine .cg (GOk.call rfl rfl cl30 rfl (lists_encode.ok h8) rfl) rfl rfl ?_
    refine OpsOk.cut1 21 (.agg (c_api_Node t7)) (DLe.of_eq (congrArg D.agg (e_api_Node_c _).symm)) ?_
    refine .rn 2 ?_
    exact .dn
   refine Ok.ret ?_
   obtain rfl:=Option.some.inj H
   exact⟨.inl rfl,⟨_,(.cons (.cell (VOk.to (d':=(.agg (e_api_Node t7))) (.loadBAgg rfl Tryz.underlying28 rfl sz28 rfl rfl rfl) (congrArg D.agg (e_api_Node_c t7).symm))) (.cons (.tmp rfl) .nil)),rfl⟩,trivial⟩
def watchbillref16_EncodeList (k:Nat) (a0:T_api_Entry):Option (T_api_Node × Int):=(((if ((a0.Kind != 2) == false)=true then watchbillref16_May k a0 else some default)).bind fun (t2:Bool) => (if ((a0.Kind != 2) || (!t2))=true then some ((T_api_Node.mk 0 (T_api_Name.mk ([]:Str) ([]:Str)) ([]:List T_api_Attr) ([]:List T_api_Node) ([]:Str)),4) else ((watchbillref16_Unique k a0.List_).bind fun (t5:Bool) => (if (!t5)=true then some ((T_api_Node.mk 0 (T_api_Name.mk ([]:Str) ([]:Str)) ([]:List T_api_Attr) ([]:List T_api_Node) ([]:Str)),41) else ((watchbillref16_Made k a0).bind fun (t7:T_api_Node) => some (t7,0))))))
theorem watchbillref16_EncodeList.ok {k:Nat} {a0:T_api_Entry} {r:T_api_Node × Int} (H:watchbillref16_EncodeList k a0=some r):Vx.Fn Tryz.prog 18 [(.agg (e_api_Entry a0))] [] (.tup [(.agg (e_api_Node r.1)),(.v (.int .i64 r.2))]) []:=by
 unfold watchbillref16_EncodeList at H
 refine Vx.Fn.of_okR Tryz.func18 rfl (Nat.le_of_ble_eq_true rfl) ?_
 refine Ok.seq ?_
 refine Ok.region (σ':=⟨[(1,(.bref 1 0)),(2,(.bref 2 0))],[(1,(.box .ex (c_api_Entry a0))),(2,bx0)]⟩) ?_ ?_
 ·refine OpsOk.cut1 0 (.agg [(.v (.int .i64 a0.Kind)),(S a0.URI),(S a0.Name),(L 4 e_api_Entry a0.List_)]) (DLe.of_eq (congrArg D.agg (e_api_Entry_c _).symm)) ?_
  refine .rn 3 ?_
  exact .dn
 refine Ok.seq ?_
 refine Ok.seq ?_
 obtain⟨t2,h3,H⟩:=bindE H
 refine Ok.region (σ':=⟨[(1,(.bref 1 0)),(2,(.bref 2 0)),(11,(.v (.bool ((a0.Kind != 2) || (!t2)))))],[(1,(.box .ex (c_api_Entry a0))),(2,bx0)]⟩) ?_ ?_
 ·refine .rn 4 ?_
  refine OpsOk.consI rfl rfl rfl (.one rfl) rfl (fun hw1 => (VOk.g (VOk.to (d':=(.agg (e_api_Entry a0))) (.loadBAgg rfl Tryz.underlying45 rfl sz45 rfl rfl rfl) (congrArg D.agg (e_api_Entry_c a0).symm)))) ?_
  refine OpsOk.consI rfl rfl rfl (.one rfl) rfl (fun hw1 => (GOk.fr (fr':=[(8,(.agg (e_api_Entry a0)))]) ⟨DLe.of_eq (cT hw1).symm,trivial⟩ (GOk.call rfl rfl cl31 rfl (watchbillref16_May.ok (ifT h3 hw1)) rfl))) ?_
  refine OpsOk.consI rfl rfl rfl (.one rfl) rfl (fun hw1 => (GOk.fr (fr':=[(9,(.v (.bool t2)))]) ⟨DLe.of_eq (cT hw1).symm,trivial⟩ (VOk.g (VOk.not (b:=t2) rfl rfl)))) ?_
  refine .cv (VOk.to (VOk.pickI (b:=(a0.Kind != 2)) (p:=true) (q:=(!t2)) rfl rfl (fun hp4 => rfl) (fun hp4 => (cT (f_beq hp4)))) (pickOr (a0.Kind != 2) (!t2))) rfl rfl ?_
  exact .dn
 refine Ok.test (b:=((a0.Kind != 2) || (!t2))) rfl (fun hb10 => ?_) (fun hb10 => ?_)
 ·replace H:=ifT H hb10
  refine Ok.seq ?_
  refine Ok.region (σ':=⟨[(2,(.bref 2 0)),(3,(.v (.int .i64 4)))],[(2,(bxN nN0))]⟩) ?_ ?_
  ·refine .cv (VOk.to (d':=(.agg (e_api_Node nN0))) (.build [none,none,none,some 3,some 6,none] [(0,1),(1,2),(3,1),(4,1),(5,1)] rfl Tryz.underlying28 (fa28 Tryz.underlying28) zo28 rfl rfl) (congrArg D.agg (e_api_Node_c nN0).symm)) rfl rfl ?_
   refine OpsOk.cut1 12 (.agg [(.v (.int .i64 (nN0.Kind))),(S (nN0.Name.Space)),(S (nN0.Name.Local)),(L 3 e_api_Attr (nN0.Attrs)),(L 6 e_api_Node (nN0.Kids)),(S (nN0.Text))]) (DLe.of_eq (congrArg D.agg (e_api_Node_c _).symm)) ?_
   refine .rn 2 ?_
   exact .dn
  refine Ok.ret ?_
  obtain rfl:=Option.some.inj H
  exact⟨.inl rfl,⟨_,(.cons (.cell (VOk.to (d':=(.agg (e_api_Node nN0))) (.loadBAgg rfl Tryz.underlying28 rfl sz28 rfl rfl rfl) (congrArg D.agg (e_api_Node_c nN0).symm))) (.cons (.tmp rfl) .nil)),rfl⟩,trivial⟩
 ·replace H:=ifF H hb10
  refine Ok.skip ?_
  refine Ok.seq ?_
  refine Ok.seq ?_
  obtain⟨t5,h6,H⟩:=bindE H
  refine Ok.region (σ':=⟨[(1,(.bref 1 0)),(2,(.bref 2 0)),(16,(.v (.bool (!t5))))],[(1,(.box .ex (c_api_Entry a0))),(2,bx0)]⟩) ?_ ?_
  ·refine .rn 2 ?_
   refine .cg (GOk.call rfl rfl cl33 rfl (watchbillref16_Unique.ok h6) rfl) rfl rfl ?_
   refine .rn 1 ?_
   exact .dn
  refine Ok.test (b:=(!t5)) rfl (fun hb9 => ?_) (fun hb9 => ?_)
  ·replace H:=ifT H hb9
   refine Ok.seq ?_
   refine Ok.region (σ':=⟨[(2,(.bref 2 0)),(3,(.v (.int .i64 41)))],[(2,(bxN nN0))]⟩) ?_ ?_
   ·refine .cv (VOk.to (d':=(.agg (e_api_Node nN0))) (.build [none,none,none,some 3,some 6,none] [(0,1),(1,2),(3,1),(4,1),(5,1)] rfl Tryz.underlying28 (fa28 Tryz.underlying28) zo28 rfl rfl) (congrArg D.agg (e_api_Node_c nN0).symm)) rfl rfl ?_
    refine OpsOk.cut1 17 (.agg [(.v (.int .i64 (nN0.Kind))),(S (nN0.Name.Space)),(S (nN0.Name.Local)),(L 3 e_api_Attr (nN0.Attrs)),(L 6 e_api_Node (nN0.Kids)),(S (nN0.Text))]) (DLe.of_eq (congrArg D.agg (e_api_Node_c _).symm)) ?_
    refine .rn 2 ?_
    exact .dn
   refine Ok.ret ?_
   obtain rfl:=Option.some.inj H
   exact⟨.inl rfl,⟨_,(.cons (.cell (VOk.to (d':=(.agg (e_api_Node nN0))) (.loadBAgg rfl Tryz.underlying28 rfl sz28 rfl rfl rfl) (congrArg D.agg (e_api_Node_c nN0).symm))) (.cons (.tmp rfl) .nil)),rfl⟩,trivial⟩
  ·replace H:=ifF H hb9
   refine Ok.skip ?_
   refine Ok.seq ?_
   obtain⟨t7,h8,H⟩:=bindE H
   refine Ok.region (σ':=⟨[(2,(.bref 2 0)),(3,(.v (.int .i64 0)))],[(2,(bxN t7))]⟩) ?_ ?_
   ·refine .cv (VOk.to (d':=(.agg (e_api_Entry a0))) (.loadBAgg rfl Tryz.underlying45 rfl sz45 rfl rfl rfl) (congrArg D.agg (e_api_Entry_c a0).symm)) rfl rfl ?_
    refine .cg (GOk.call rfl rfl cl32 rfl (watchbillref16_Made.ok h8) rfl) rfl rfl ?_
    refine OpsOk.cut1 19 (.agg (c_api_Node t7)) (DLe.of_eq (congrArg D.agg (e_api_Node_c _).symm)) ?_
    refine .rn 2 ?_
    exact .dn
   refine Ok.ret ?_
   obtain rfl:=Option.some.inj H
   exact⟨.inl rfl,⟨_,(.cons (.cell (VOk.to (d':=(.agg (e_api_Node t7))) (.loadBAgg rfl Tryz.underlying28 rfl sz28 rfl rfl rfl) (congrArg D.agg (e_api_Node_c t7).symm))) (.cons (.tmp rfl) .nil)),rfl⟩,trivial⟩
end Go.Proofs.YtapbckofgcmgmaaGreatDoor.Sh
