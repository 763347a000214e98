import Derived.Test.YtapbckofgcmgmaaGreatDoorProg
import Derived.Test.YtapbckofgcmgmaaGreatDoorShc
namespace Go.Proofs.YtapbckofgcmgmaaGreatDoor.Sh
open Go Go.RowKit Go.Proofs.Vx
set_option linter.unusedVariables false
set_option maxRecDepth 100000
set_option maxHeartbeats 1000000
def lists_encode.l0 (k:Nat) (self:T_api_Entry→Option T_api_Node) (a0:T_api_Entry):Nat→Int→Str→Str→List T_api_Attr→List T_api_Node→Str→Int→Str→Str→List T_api_Attr→Str→List T_api_Node→Int→Option T_api_Node
 | 0,_,_,_,_,_,_,_,_,_,_,_,_,_ => none
 | m38 + 1,y2_0_13,y2_1_14,y2_2_15,y2_3_16,y2_4_17,y2_5_18,y5_0_19,y5_1_20,y5_2_21,y5_3_22,y5_5_23,y1104_24,x44_12 => (if (decide (x44_12 < (a0.List_.length:Int)))=true then (if (0:Int) ≤ x44_12 ∧ x44_12 < (a0.List_.length:Int) then ((self (rd a0.List_ x44_12)).bind fun (t40:T_api_Node) => (if (y1104_24.length + ([t40]:List T_api_Node).length) * 104 ≤ 140737488355328 then lists_encode.l0 k self a0 m38 y2_0_13 y2_1_14 y2_2_15 y2_3_16 y2_4_17 y2_5_18 y5_0_19 y5_1_20 y5_2_21 y5_3_22 y5_5_23 (y1104_24 ++ ([t40]:List T_api_Node)) (IntKind.i64.wrap (x44_12 + 1)) else none)) else none) else some (T_api_Node.mk y5_0_19 (T_api_Name.mk y5_1_20 y5_2_21) y5_3_22 y1104_24 y5_5_23))
def lists_encode:Nat→T_api_Entry→Option T_api_Node
 | 0,_ => none
 | k + 1,a0 => (if (a0.Kind == 3)=true then ((lists_element ([101,120,116,101,114,110,97,108]:Str) ([97,110,99,104,111,114]:Str) a0.URI).bind fun (t1:T_api_Node) => some (T_api_Node.mk t1.Kind (T_api_Name.mk t1.Name.Space t1.Name.Local) t1.Attrs ([]:List T_api_Node) t1.Text)) else (if (a0.Kind == 4)=true then ((lists_element ([101,110,116,114,121,45,114,101,102]:Str) ([114,101,102]:Str) a0.URI).bind fun (t3:T_api_Node) => some (T_api_Node.mk t3.Kind (T_api_Name.mk t3.Name.Space t3.Name.Local) t3.Attrs ([]:List T_api_Node) t3.Text)) else (if (a0.Kind == 1)=true then ((lists_element ([101,110,116,114,121]:Str) ([117,114,105]:Str) a0.URI).bind fun (t5:T_api_Node) => (if (!(a0.Name == ([]:Str)))=true then ((lists_element ([100,105,115,112,108,97,121,45,110,97,109,101]:Str) ([]:Str) ([]:Str)).bind fun (t7:T_api_Node) => some (T_api_Node.mk t5.Kind (T_api_Name.mk t5.Name.Space t5.Name.Local) t5.Attrs ([(T_api_Node.mk t7.Kind (T_api_Name.mk t7.Name.Space t7.Name.Local) t7.Attrs ([(T_api_Node.mk 2 (T_api_Name.mk ([]:Str) ([]:Str)) ([]:List T_api_Attr) ([]:List T_api_Node) a0.Name)]:List T_api_Node) t7.Text)]:List T_api_Node) t5.Text)) else some (T_api_Node.mk t5.Kind (T_api_Name.mk t5.Name.Space t5.Name.Local) t5.Attrs ([]:List T_api_Node) t5.Text))) else ((lists_element ([108,105,115,116]:Str) ([110,97,109,101]:Str) a0.Name).bind fun (t10:T_api_Node) => lists_encode.l0 k (lists_encode k) a0 k 0 ([]:Str) ([]:Str) ([]:List T_api_Attr) ([]:List T_api_Node) ([]:Str) t10.Kind t10.Name.Space t10.Name.Local t10.Attrs t10.Text ([]:List T_api_Node) 0))))
theorem lists_encode.ok {k:Nat} {a0:T_api_Entry} {r:T_api_Node} (H:lists_encode k a0=some r):Vx.Fn Tryz.prog 30 [(.agg (e_api_Entry a0))] [] (.agg (e_api_Node r)) []:=by
 induction k generalizing a0 r with
 | zero => exact absurd H (by simp [lists_encode])
 | succ k ih =>
  unfold lists_encode at H
  refine Vx.Fn.of_okR Tryz.func30 rfl (Nat.le_of_ble_eq_true rfl) ?_
  refine Ok.seq ?_
  refine Ok.region (σ':=⟨[(1,(.bref 1 0)),(2,(.bref 2 0))],[(1,(.box .ex (c_api_Entry a0))),(2,bx0)]⟩) ?_ ?_
  ·refine OpsOk.cut1 0 (.agg [(.v (.int .i64 a0.Kind)),(S a0.URI),(S a0.Name),(L 4 e_api_Entry a0.List_)]) (DLe.of_eq (congrArg D.agg (e_api_Entry_c _).symm)) ?_
   refine .rn 2 ?_
   exact .dn
  refine Ok.seq ?_
  refine Ok.seq ?_
  refine .rg [(1,(.bref 1 0)),(2,(.bref 2 0)),(9,(.v (.int .i64 a0.Kind)))] [(1,(.box .ex (c_api_Entry a0))),(2,bx0)] ?_
  refine Ok.block ?_
  refine Ok.seq ?_
  refine .rg [(1,(.bref 1 0)),(2,(.bref 2 0)),(9,(.v (.int .i64 a0.Kind))),(10,(.v (.bool (a0.Kind == 3))))] [(1,(.box .ex (c_api_Entry a0))),(2,bx0)] ?_
  refine Ok.test (b:=(a0.Kind == 3)) rfl (fun hb46 => ?_) (fun hb46 => ?_)
  ·replace H:=ifT H hb46
   refine Ok.seq ?_
   obtain⟨t1,h2,H⟩:=bindE H
   refine Ok.region (σ':=⟨[(2,(.bref 2 0))],[(2,(.box .ex [(.v (.int .i64 t1.Kind)),(S t1.Name.Space),(S t1.Name.Local),(L 3 e_api_Attr t1.Attrs),(L 6 e_api_Node ([]:List T_api_Node)),(S t1.Text)]))]⟩) ?_ ?_
   ·refine .rn 2 ?_
    refine .cg (GOk.call rfl rfl cl28 rfl (lists_element.ok h2) rfl) rfl rfl ?_
    refine .rn 1 ?_
    exact .done (.mk ⟨.same _,trivial⟩ ⟨(.cells ⟨.same _,.same _,.same _,.same _,.nil _,.same _,trivial⟩),trivial⟩)
   refine Ok.ret ?_
   obtain rfl:=Option.some.inj H
   exact⟨.inl rfl,⟨_,(.cons (.cell (VOk.to (d':=(.agg (e_api_Node (T_api_Node.mk t1.Kind (T_api_Name.mk t1.Name.Space t1.Name.Local) t1.Attrs ([]:List T_api_Node) t1.Text)))) (.loadBAgg rfl Tryz.underlying28 rfl sz28 rfl rfl rfl) (congrArg D.agg (e_api_Node_c (T_api_Node.mk t1.Kind (T_api_Name.mk t1.Name.Space t1.Name.Local) t1.Attrs ([]:List T_api_Node) t1.Text)).symm))) .nil),rfl⟩,trivial⟩
  ·replace H:=ifF H hb46
   refine Ok.seq ?_
   refine .rg [(1,(.bref 1 0)),(2,(.bref 2 0)),(9,(.v (.int .i64 a0.Kind))),(15,(.v (.bool (a0.Kind == 4))))] [(1,(.box .ex (c_api_Entry a0))),(2,bx0)] ?_
   refine Ok.test (b:=(a0.Kind == 4)) rfl (fun hb45 => ?_) (fun hb45 => ?_)
   ·replace H:=ifT H hb45
    refine Ok.seq ?_
    obtain⟨t3,h4,H⟩:=bindE H
    refine Ok.region (σ':=⟨[(2,(.bref 2 0))],[(2,(.box .ex [(.v (.int .i64 t3.Kind)),(S t3.Name.Space),(S t3.Name.Local),(L 3 e_api_Attr t3.Attrs),(L 6 e_api_Node ([]:List T_api_Node)),(S t3.Text)]))]⟩) ?_ ?_
    ·refine .rn 2 ?_
     refine .cg (GOk.call rfl rfl cl28 rfl (lists_element.ok h4) rfl) rfl rfl ?_
     refine .rn 1 ?_
     exact .done (.mk ⟨.same _,trivial⟩ ⟨(.cells ⟨.same _,.same _,.same _,.same _,.nil _,.same _,trivial⟩),trivial⟩)
    refine Ok.ret ?_
    obtain rfl:=Option.some.inj H
    exact⟨.inl rfl,⟨_,(.cons (.cell (VOk.to (d':=(.agg (e_api_Node (T_api_Node.mk t3.Kind (T_api_Name.mk t3.Name.Space t3.Name.Local) t3.Attrs ([]:List T_api_Node) t3.Text)))) (.loadBAgg rfl Tryz.underlying28 rfl sz28 rfl rfl rfl) (congrArg D.agg (e_api_Node_c (T_api_Node.mk t3.Kind (T_api_Name.mk t3.Name.Space t3.Name.Local) t3.Attrs ([]:List T_api_Node) t3.Text)).symm))) .nil),rfl⟩,trivial⟩
   ·replace H:=ifF H hb45
    refine Ok.seq ?_
    refine .rg [(1,(.bref 1 0)),(2,(.bref 2 0)),(20,(.v (.bool (a0.Kind == 1))))] [(1,(.box .ex (c_api_Entry a0))),(2,bx0)] ?_
    refine Ok.test (b:=(a0.Kind == 1)) rfl (fun hb44 => ?_) (fun hb44 => ?_)
    ·replace H:=ifT H hb44
     refine Ok.seq ?_
     obtain⟨t5,h6,H⟩:=bindE H
     refine Ok.region (σ':=⟨[(1,(.bref 1 0)),(2,(.bref 2 0)),(3,(.bref 3 0))],[(1,(.box .ex (c_api_Entry a0))),(2,bx0),(3,(.box .ex [(.v (.int .i64 t5.Kind)),(S t5.Name.Space),(S t5.Name.Local),(L 3 e_api_Attr t5.Attrs),(L 6 e_api_Node ([]:List T_api_Node)),(S t5.Text)]))]⟩) ?_ ?_
     ·refine .rn 2 ?_
      refine .cg (GOk.call rfl rfl cl28 rfl (lists_element.ok h6) rfl) rfl rfl ?_
      refine .rn 2 ?_
      exact .done (.mk ⟨.same _,.same _,.same _,trivial⟩ ⟨.same _,.same _,(.cells ⟨.same _,.same _,.same _,.same _,.nil _,.same _,trivial⟩),trivial⟩)
     refine Ok.seq ?_
     refine Ok.seq ?_
     refine .rg [(1,(.bref 1 0)),(2,(.bref 2 0)),(3,(.bref 3 0)),(27,(.v (.bool (!(a0.Name == ([]:Str))))))] [(1,(.box .ex (c_api_Entry a0))),(2,bx0),(3,(.box .ex [(.v (.int .i64 t5.Kind)),(S t5.Name.Space),(S t5.Name.Local),(L 3 e_api_Attr t5.Attrs),(L 6 e_api_Node ([]:List T_api_Node)),(S t5.Text)]))] ?_
     refine Ok.test (b:=(!(a0.Name == ([]:Str)))) rfl (fun hb9 => ?_) (fun hb9 => ?_)
     ·replace H:=ifT H hb9
      refine Ok.seq ?_
      obtain⟨t7,h8,H⟩:=bindE H
      refine Ok.region (σ':=⟨[(1,(.bref 1 0)),(2,(.bref 2 0)),(3,(.bref 3 0)),(4,(.bref 4 0))],[(1,(.box .ex (c_api_Entry a0))),(2,bx0),(3,(.box .ex [(.v (.int .i64 t5.Kind)),(S t5.Name.Space),(S t5.Name.Local),(L 3 e_api_Attr t5.Attrs),(L 6 e_api_Node ([]:List T_api_Node)),(S t5.Text)])),(4,(.box .ex [(.v (.int .i64 t7.Kind)),(S t7.Name.Space),(S t7.Name.Local),(L 3 e_api_Attr t7.Attrs),(L 6 e_api_Node ([]:List T_api_Node)),(S t7.Text)]))]⟩) ?_ ?_
      ·refine .cg (GOk.call rfl rfl cl28 rfl (lists_element.ok h8) rfl) rfl rfl ?_
       refine .rn 2 ?_
       exact .done (.mk ⟨.same _,.same _,.same _,.same _,trivial⟩ ⟨.same _,.same _,.same _,(.cells ⟨.same _,.same _,.same _,.same _,.nil _,.same _,trivial⟩),trivial⟩)
      refine Ok.seq ?_
      refine Ok.region (σ':=⟨[(2,(.bref 2 0)),(3,(.bref 3 0)),(4,(.bref 4 0))],[(2,bx0),(3,(.box .ex [(.v (.int .i64 t5.Kind)),(S t5.Name.Space),(S t5.Name.Local),(L 3 e_api_Attr t5.Attrs),(L 6 e_api_Node ([]:List T_api_Node)),(S t5.Text)])),(4,(.box .ex [(.v (.int .i64 t7.Kind)),(S t7.Name.Space),(S t7.Name.Local),(L 3 e_api_Attr t7.Attrs),(.sref 32),(S t7.Text)])),(32,(.rows true 28 6 ((nT0 a0.Name).map e_api_Node)))]⟩) ?_ ?_
      ·refine .rn 2 ?_
       refine .cv (VOk.to (d':=(.agg (e_api_Node (T_api_Node.mk 2 (T_api_Name.mk ([]:Str) ([]:Str)) ([]:List T_api_Attr) ([]:List T_api_Node) a0.Name)))) (.build [none,none,none,some 3,some 6,none] [(0,1),(1,2),(3,1),(4,1),(5,1)] rfl Tryz.underlying28 (fa28 Tryz.underlying28) zo28 rfl rfl) (congrArg D.agg (e_api_Node_c (T_api_Node.mk 2 (T_api_Name.mk ([]:Str) ([]:Str)) ([]:List T_api_Attr) ([]:List T_api_Node) a0.Name)).symm)) rfl rfl ?_
       refine OpsOk.cons rfl (OpOk.litT 32 rfl rfl Tryz.underlying26 sz28 zs28 rfl (rows:=(nT0 a0.Name).map e_api_Node) rfl rfl rfl rfl) ?_
       refine .rn 2 ?_
       exact .dn
      refine Ok.region (σ':=⟨[(2,(.bref 2 0)),(3,(.bref 3 0))],[(2,bx0),(3,(.box .ex [(.v (.int .i64 t5.Kind)),(S t5.Name.Space),(S t5.Name.Local),(L 3 e_api_Attr t5.Attrs),(.sref 35),(S t5.Text)])),(35,(.rows true 28 6 (([(T_api_Node.mk t7.Kind (T_api_Name.mk t7.Name.Space t7.Name.Local) t7.Attrs (nT0 a0.Name) t7.Text)]:List T_api_Node).map e_api_Node)))]⟩) ?_ ?_
      ·refine OpsOk.frzL 32 (e:=e_api_Node) (xs:=(nT0 a0.Name)) rfl ?_
       refine .cv (VOk.to (d':=(.agg (e_api_Node (T_api_Node.mk t7.Kind (T_api_Name.mk t7.Name.Space t7.Name.Local) t7.Attrs (nT0 a0.Name) t7.Text)))) (.loadBAgg rfl Tryz.underlying28 rfl sz28 rfl rfl rfl) (congrArg D.agg (e_api_Node_c (T_api_Node.mk t7.Kind (T_api_Name.mk t7.Name.Space t7.Name.Local) t7.Attrs (nT0 a0.Name) t7.Text)).symm)) rfl rfl ?_
       refine OpsOk.cons rfl (OpOk.litT 35 rfl rfl Tryz.underlying26 sz28 zs28 rfl (rows:=([(T_api_Node.mk t7.Kind (T_api_Name.mk t7.Name.Space t7.Name.Local) t7.Attrs (nT0 a0.Name) t7.Text)]:List T_api_Node).map e_api_Node) rfl rfl rfl rfl) ?_
       refine .rn 2 ?_
       exact .dn
      refine Ok.seq ?_
      refine Ok.region (σ':=⟨[(2,(.bref 2 0))],[(2,(.box .ex (c_api_Node (T_api_Node.mk t5.Kind (T_api_Name.mk t5.Name.Space t5.Name.Local) t5.Attrs ([(T_api_Node.mk t7.Kind (T_api_Name.mk t7.Name.Space t7.Name.Local) t7.Attrs (nT0 a0.Name) t7.Text)]:List T_api_Node) t5.Text))))]⟩) ?_ ?_
      ·refine OpsOk.frzL 35 (e:=e_api_Node) (xs:=([(T_api_Node.mk t7.Kind (T_api_Name.mk t7.Name.Space t7.Name.Local) t7.Attrs (nT0 a0.Name) t7.Text)]:List T_api_Node)) rfl ?_
       refine .cv (VOk.to (d':=(.agg (e_api_Node (T_api_Node.mk t5.Kind (T_api_Name.mk t5.Name.Space t5.Name.Local) t5.Attrs ([(T_api_Node.mk t7.Kind (T_api_Name.mk t7.Name.Space t7.Name.Local) t7.Attrs (nT0 a0.Name) t7.Text)]:List T_api_Node) t5.Text)))) (.loadBAgg rfl Tryz.underlying28 rfl sz28 rfl rfl rfl) (congrArg D.agg (e_api_Node_c (T_api_Node.mk t5.Kind (T_api_Name.mk t5.Name.Space t5.Name.Local) t5.Attrs ([(T_api_Node.mk t7.Kind (T_api_Name.mk t7.Name.Space t7.Name.Local) t7.Attrs (nT0 a0.Name) t7.Text)]:List T_api_Node) t5.Text)).symm)) rfl rfl ?_
       refine OpsOk.cut1 37 (.agg [(.v (.int .i64 ((T_api_Node.mk t5.Kind (T_api_Name.mk t5.Name.Space t5.Name.Local) t5.Attrs ([(T_api_Node.mk t7.Kind (T_api_Name.mk t7.Name.Space t7.Name.Local) t7.Attrs (nT0 a0.Name) t7.Text)]:List T_api_Node) t5.Text).Kind))),(S ((T_api_Node.mk t5.Kind (T_api_Name.mk t5.Name.Space t5.Name.Local) t5.Attrs ([(T_api_Node.mk t7.Kind (T_api_Name.mk t7.Name.Space t7.Name.Local) t7.Attrs (nT0 a0.Name) t7.Text)]:List T_api_Node) t5.Text).Name.Space)),(S ((T_api_Node.mk t5.Kind (T_api_Name.mk t5.Name.Space t5.Name.Local) t5.Attrs ([(T_api_Node.mk t7.Kind (T_api_Name.mk t7.Name.Space t7.Name.Local) t7.Attrs (nT0 a0.Name) t7.Text)]:List T_api_Node) t5.Text).Name.Local)),(L 3 e_api_Attr ((T_api_Node.mk t5.Kind (T_api_Name.mk t5.Name.Space t5.Name.Local) t5.Attrs ([(T_api_Node.mk t7.Kind (T_api_Name.mk t7.Name.Space t7.Name.Local) t7.Attrs (nT0 a0.Name) t7.Text)]:List T_api_Node) t5.Text).Attrs)),(L 6 e_api_Node ((T_api_Node.mk t5.Kind (T_api_Name.mk t5.Name.Space t5.Name.Local) t5.Attrs ([(T_api_Node.mk t7.Kind (T_api_Name.mk t7.Name.Space t7.Name.Local) t7.Attrs (nT0 a0.Name) t7.Text)]:List T_api_Node) t5.Text).Kids)),(S ((T_api_Node.mk t5.Kind (T_api_Name.mk t5.Name.Space t5.Name.Local) t5.Attrs ([(T_api_Node.mk t7.Kind (T_api_Name.mk t7.Name.Space t7.Name.Local) t7.Attrs (nT0 a0.Name) t7.Text)]:List T_api_Node) t5.Text).Text))]) (DLe.of_eq (congrArg D.agg (e_api_Node_c _).symm)) ?_
       refine .rn 1 ?_
       exact .dn
      refine Ok.ret ?_
      obtain rfl:=Option.some.inj H
      exact⟨.inl rfl,⟨_,(.cons (.cell (VOk.to (d':=(.agg (e_api_Node (T_api_Node.mk t5.Kind (T_api_Name.mk t5.Name.Space t5.Name.Local) t5.Attrs ([(T_api_Node.mk t7.Kind (T_api_Name.mk t7.Name.Space t7.Name.Local) t7.Attrs (nT0 a0.Name) t7.Text)]:List T_api_Node) t5.Text)))) (.loadBAgg rfl Tryz.underlying28 rfl sz28 rfl rfl rfl) (congrArg D.agg (e_api_Node_c (T_api_Node.mk t5.Kind (T_api_Name.mk t5.Name.Space t5.Name.Local) t5.Attrs ([(T_api_Node.mk t7.Kind (T_api_Name.mk t7.Name.Space t7.Name.Local) t7.Attrs (nT0 a0.Name) t7.Text)]:List T_api_Node) t5.Text)).symm))) .nil),rfl⟩,trivial⟩
     ·replace H:=ifF H hb9
      refine Ok.skip ?_
      refine Ok.seq ?_
      refine Ok.region (σ':=⟨[(2,(.bref 2 0))],[(2,(.box .ex (c_api_Node (T_api_Node.mk t5.Kind (T_api_Name.mk t5.Name.Space t5.Name.Local) t5.Attrs ([]:List T_api_Node) t5.Text))))]⟩) ?_ ?_
      ·refine .cv (VOk.to (d':=(.agg (e_api_Node (T_api_Node.mk t5.Kind (T_api_Name.mk t5.Name.Space t5.Name.Local) t5.Attrs ([]:List T_api_Node) t5.Text)))) (.loadBAgg rfl Tryz.underlying28 rfl sz28 rfl rfl rfl) (congrArg D.agg (e_api_Node_c (T_api_Node.mk t5.Kind (T_api_Name.mk t5.Name.Space t5.Name.Local) t5.Attrs ([]:List T_api_Node) t5.Text)).symm)) rfl rfl ?_
       refine OpsOk.cut1 37 (.agg [(.v (.int .i64 ((T_api_Node.mk t5.Kind (T_api_Name.mk t5.Name.Space t5.Name.Local) t5.Attrs ([]:List T_api_Node) t5.Text).Kind))),(S ((T_api_Node.mk t5.Kind (T_api_Name.mk t5.Name.Space t5.Name.Local) t5.Attrs ([]:List T_api_Node) t5.Text).Name.Space)),(S ((T_api_Node.mk t5.Kind (T_api_Name.mk t5.Name.Space t5.Name.Local) t5.Attrs ([]:List T_api_Node) t5.Text).Name.Local)),(L 3 e_api_Attr ((T_api_Node.mk t5.Kind (T_api_Name.mk t5.Name.Space t5.Name.Local) t5.Attrs ([]:List T_api_Node) t5.Text).Attrs)),(L 6 e_api_Node ((T_api_Node.mk t5.Kind (T_api_Name.mk t5.Name.Space t5.Name.Local) t5.Attrs ([]:List T_api_Node) t5.Text).Kids)),(S ((T_api_Node.mk t5.Kind (T_api_Name.mk t5.Name.Space t5.Name.Local) t5.Attrs ([]:List T_api_Node) t5.Text).Text))]) (DLe.of_eq (congrArg D.agg (e_api_Node_c _).symm)) ?_
       refine .rn 1 ?_
       exact .dn
      refine Ok.ret ?_
      obtain rfl:=Option.some.inj H
      exact⟨.inl rfl,⟨_,(.cons (.cell (VOk.to (d':=(.agg (e_api_Node (T_api_Node.mk t5.Kind (T_api_Name.mk t5.Name.Space t5.Name.Local) t5.Attrs ([]:List T_api_Node) t5.Text)))) (.loadBAgg rfl Tryz.underlying28 rfl sz28 rfl rfl rfl) (congrArg D.agg (e_api_Node_c (T_api_Node.mk t5.Kind (T_api_Name.mk t5.Name.Space t5.Name.Local) t5.Attrs ([]:List T_api_Node) t5.Text)).symm))) .nil),rfl⟩,trivial⟩
    ·replace H:=ifF H hb44
     refine Ok.skip ?_
     refine Ok.seq ?_
     obtain⟨t10,h11,H⟩:=bindE H
     refine Ok.region (σ':=⟨[(1,(.bref 1 0)),(2,(.bref 2 0)),(5,(.bref 5 0))],[(1,(.box .ex (c_api_Entry a0))),(2,bx0),(5,(.box .ex [(.v (.int .i64 t10.Kind)),(S t10.Name.Space),(S t10.Name.Local),(L 3 e_api_Attr t10.Attrs),(.sref 1104),(S t10.Text)])),(1104,(.rows true 28 6 (([]:List T_api_Node).map e_api_Node)))]⟩) ?_ ?_
     ·refine .rn 2 ?_
      refine .cg (GOk.call rfl rfl cl28 rfl (lists_element.ok h11) rfl) rfl rfl ?_
      refine OpsOk.cons rfl (OpOk.alloc 5 [none,none,none,some 3,none,none] rfl zo28 rfl rfl) ?_
      refine OpsOk.sle (SLe.adopt 5 1104 4 28 6 rfl rfl rfl rfl rfl) ?_
      refine .rn 1 ?_
      refine OpsOk.sle (SLe.adopt 5 1104 4 28 6 rfl rfl rfl rfl rfl) ?_
      exact .dn
     refine Ok.seq ?_
     refine Ok.seq ?_
     refine Ok.region (σ':=⟨[(2,(.bref 2 0)),(5,(.bref 5 0)),(42,(L 4 e_api_Entry a0.List_)),(43,(.v (.int .i64 (a0.List_.length:Int)))),(44,(.v (.int .i64 0)))],[(2,bx0),(5,(.box .ex [(.v (.int .i64 t10.Kind)),(S t10.Name.Space),(S t10.Name.Local),(L 3 e_api_Attr t10.Attrs),(.sref 1104),(S t10.Text)])),(1104,(.rows true 28 6 (([]:List T_api_Node).map e_api_Node)))]⟩) ?_ ?_
     ·refine .rn 2 ?_
      refine .cv (VOk.lenL (e:=e_api_Entry) (xs:=a0.List_) rfl Tryz.underlying22 rfl) rfl rfl ?_
      refine .rn 1 ?_
      exact .dn
     refine Ok.block ?_
     refine Ok.loop (fun m38 σ => ∃ (y2_0_13:Int) (y2_1_14:Str) (y2_2_15:Str) (y2_3_16:List T_api_Attr) (y2_4_17:List T_api_Node) (y2_5_18:Str) (y5_0_19:Int) (y5_1_20:Str) (y5_2_21:Str) (y5_3_22:List T_api_Attr) (y5_5_23:Str) (y1104_24:List T_api_Node) (x44_12:Int),σ=⟨[(2,(.bref 2 0)),(5,(.bref 5 0)),(42,(L 4 e_api_Entry a0.List_)),(43,(.v (.int .i64 (a0.List_.length:Int)))),(44,(.v (.int .i64 x44_12)))],[(2,(.box .ex [(.v (.int .i64 y2_0_13)),(S y2_1_14),(S y2_2_15),(L 3 e_api_Attr y2_3_16),(L 6 e_api_Node y2_4_17),(S y2_5_18)])),(5,(.box .ex [(.v (.int .i64 y5_0_19)),(S y5_1_20),(S y5_2_21),(L 3 e_api_Attr y5_3_22),(.sref 1104),(S y5_5_23)])),(1104,(.rows true 28 6 (y1104_24.map e_api_Node)))]⟩ ∧ lists_encode.l0 k (lists_encode k) a0 m38 y2_0_13 y2_1_14 y2_2_15 y2_3_16 y2_4_17 y2_5_18 y5_0_19 y5_1_20 y5_2_21 y5_3_22 y5_5_23 y1104_24 x44_12=some r) k ⟨0,([]:Str),([]:Str),([]:List T_api_Attr),([]:List T_api_Node),([]:Str),t10.Kind,t10.Name.Space,t10.Name.Local,t10.Attrs,t10.Text,([]:List T_api_Node),0,rfl,H⟩ ?_
     rintro m38 σ ⟨y2_0_13,y2_1_14,y2_2_15,y2_3_16,y2_4_17,y2_5_18,y5_0_19,y5_1_20,y5_2_21,y5_3_22,y5_5_23,y1104_24,x44_12,rfl,H⟩
     cases m38 with
     | zero => exact absurd H (by simp [lists_encode.l0])
     | succ m38 =>
      unfold lists_encode.l0 at H
      refine Ok.seq ?_
      refine .rg [(2,(.bref 2 0)),(5,(.bref 5 0)),(42,(L 4 e_api_Entry a0.List_)),(43,(.v (.int .i64 (a0.List_.length:Int)))),(44,(.v (.int .i64 x44_12))),(45,(.v (.bool (decide (x44_12 < (a0.List_.length:Int))))))] [(2,(.box .ex [(.v (.int .i64 y2_0_13)),(S y2_1_14),(S y2_2_15),(L 3 e_api_Attr y2_3_16),(L 6 e_api_Node y2_4_17),(S y2_5_18)])),(5,(.box .ex [(.v (.int .i64 y5_0_19)),(S y5_1_20),(S y5_2_21),(L 3 e_api_Attr y5_3_22),(.sref 1104),(S y5_5_23)])),(1104,(.rows true 28 6 (y1104_24.map e_api_Node)))] ?_
      refine Ok.seq ?_
      refine Ok.test (b:=(decide (x44_12 < (a0.List_.length:Int)))) rfl (fun hb43 => ?_) (fun hb43 => ?_)
      ·replace H:=ifT H hb43
       refine Ok.skip ?_
       refine Ok.seq ?_
       refine Ok.block ?_
       refine Ok.seq ?_
       obtain⟨c39,H⟩:=assertE H
       refine Ok.region (σ':=⟨[(2,(.bref 2 0)),(5,(.bref 5 0)),(7,(.bref 7 0)),(42,(L 4 e_api_Entry a0.List_)),(43,(.v (.int .i64 (a0.List_.length:Int)))),(44,(.v (.int .i64 x44_12)))],[(2,(.box .ex [(.v (.int .i64 y2_0_13)),(S y2_1_14),(S y2_2_15),(L 3 e_api_Attr y2_3_16),(L 6 e_api_Node y2_4_17),(S y2_5_18)])),(5,(.box .ex [(.v (.int .i64 y5_0_19)),(S y5_1_20),(S y5_2_21),(L 3 e_api_Attr y5_3_22),(.sref 1104),(S y5_5_23)])),(7,(.box .ex (c_api_Entry (rd a0.List_ x44_12)))),(1104,(.rows true 28 6 (y1104_24.map e_api_Node)))]⟩) ?_ ?_
       ·refine .cv (VOk.indexL (sz:=4) (e:=e_api_Entry) (xs:=a0.List_) (i:=x44_12) rfl Tryz.underlying22 sz45 rfl rfl c39) rfl rfl ?_
        refine .rn 2 ?_
        refine OpsOk.cut1 47 (.agg [(.v (.int .i64 ((rd a0.List_ x44_12).Kind))),(S ((rd a0.List_ x44_12).URI)),(S ((rd a0.List_ x44_12).Name)),(L 4 e_api_Entry ((rd a0.List_ x44_12).List_))]) (DLe.of_eq (congrArg D.agg (e_api_Entry_c _).symm)) ?_
        refine .rn 1 ?_
        exact .dn
       obtain⟨t40,h41,H⟩:=bindE H
       obtain⟨c42,H⟩:=assertE H
       refine Ok.le (σ':=⟨[(2,(.bref 2 0)),(5,(.bref 5 0)),(7,(.bref 7 0)),(42,(L 4 e_api_Entry a0.List_)),(43,(.v (.int .i64 (a0.List_.length:Int)))),(44,(.v (.int .i64 x44_12)))],[(2,(.box .ex [(.v (.int .i64 y2_0_13)),(S y2_1_14),(S y2_2_15),(L 3 e_api_Attr y2_3_16),(L 6 e_api_Node y2_4_17),(S y2_5_18)])),(5,(.box .ex [(.v (.int .i64 y5_0_19)),(S y5_1_20),(S y5_2_21),(L 3 e_api_Attr y5_3_22),(.sref 1104),(S y5_5_23)])),(7,(.box .ex (c_api_Entry (rd a0.List_ x44_12)))),(1104,(.rows true 28 6 (y1104_24.map e_api_Node)))]⟩) (.rf rfl rfl) ?_
       refine Ok.drawE2 (σ':=⟨[(2,(.bref 2 0)),(5,(.bref 5 0)),(42,(L 4 e_api_Entry a0.List_)),(43,(.v (.int .i64 (a0.List_.length:Int)))),(44,(.v (.int .i64 x44_12)))],[(2,(.box .ex [(.v (.int .i64 y2_0_13)),(S y2_1_14),(S y2_2_15),(L 3 e_api_Attr y2_3_16),(L 6 e_api_Node y2_4_17),(S y2_5_18)])),(5,(.box .ex [(.v (.int .i64 y5_0_19)),(S y5_1_20),(S y5_2_21),(L 3 e_api_Attr y5_3_22),(.sref 1104),(S y5_5_23)])),(1104,(.rows true 28 6 ((y1104_24 ++ ([t40]:List T_api_Node)).map e_api_Node)))]⟩) [⟨true,[(5,(.bref 5 0))],[(5,(.box .ex [(.v (.int .i64 y5_0_19)),(S y5_1_20),(S y5_2_21),(L 3 e_api_Attr y5_3_22),(.sref 1104),(S y5_5_23)]))],(.bref 5 4),[],false,[]⟩,⟨true,[(48,(.bref 5 4))],[(5,(.box .ex [(.v (.int .i64 y5_0_19)),(S y5_1_20),(S y5_2_21),(L 3 e_api_Attr y5_3_22),(.sref 1104),(S y5_5_23)]))],(.sref 1104),[],false,[]⟩,⟨true,[(7,(.bref 7 0))],[(7,(.box .ex (c_api_Entry (rd a0.List_ x44_12))))],(.agg (e_api_Entry (rd a0.List_ x44_12))),[],false,[]⟩,⟨true,[(50,(.agg (e_api_Entry (rd a0.List_ x44_12))))],[],(.agg (e_api_Node t40)),[],false,[]⟩,⟨true,[(51,(.agg (e_api_Node t40)))],[],(L 6 e_api_Node ([t40]:List T_api_Node)),[],false,[]⟩,⟨true,[(49,(.sref 1104)),(52,(L 6 e_api_Node ([t40]:List T_api_Node)))],[(1104,(.rows true 28 6 (y1104_24.map e_api_Node)))],(.sref 53),[(53,(.rows true 28 6 ((y1104_24 ++ ([t40]:List T_api_Node)).map e_api_Node))),(1104,.none)],true,[]⟩,⟨true,[(5,(.bref 5 0))],[(5,(.box .ex [(.v (.int .i64 y5_0_19)),(S y5_1_20),(S y5_2_21),(L 3 e_api_Attr y5_3_22),(.sref 1104),(S y5_5_23)]))],(.bref 5 4),[],false,[]⟩,⟨true,[(54,(.bref 5 4)),(53,(.sref 53))],[(5,(.box .ex [(.v (.int .i64 y5_0_19)),(S y5_1_20),(S y5_2_21),(L 3 e_api_Attr y5_3_22),(.sref 1104),(S y5_5_23)])),(53,(.rows true 28 6 ((y1104_24 ++ ([t40]:List T_api_Node)).map e_api_Node)))],.junk,[(5,(.box .ex [(.v (.int .i64 y5_0_19)),(S y5_1_20),(S y5_2_21),(L 3 e_api_Attr y5_3_22),(.sref 53),(S y5_5_23)]))],false,[]⟩] [[],[0],[],[2],[3],[1,4],[],[0,1,5,6]] mixed (by kernel_rfl) ?_ ?_
       ·refine TxtE2.cons ⟨.same _,trivial⟩ ⟨rfl,trivial⟩ (It2.val rfl rfl (fun T hT => (VOk.g (VOk.to (VOk.fieldB rfl Tryz.underlying28 rfl sz26 rfl hT.1) rfl)))) ?_
        refine TxtE2.cons ⟨.same _,trivial⟩ ⟨rfl,trivial⟩ (It2.val rfl rfl (fun T hT => (VOk.g (VOk.loadB (d:=(.sref 1104)) rfl Tryz.underlying26 rfl rfl hT.1 rfl)))) ?_
        refine TxtE2.cons ⟨.same _,trivial⟩ ⟨rfl,trivial⟩ (It2.val rfl rfl (fun T hT => (VOk.g (VOk.to (d':=(.agg (e_api_Entry (rd a0.List_ x44_12)))) (.loadBAgg rfl Tryz.underlying45 rfl sz45 rfl hT.1 rfl) (congrArg D.agg (e_api_Entry_c (rd a0.List_ x44_12)).symm))))) ?_
        refine TxtE2.cons ⟨.same _,trivial⟩ trivial (It2.val rfl rfl (fun T hT => (GOk.call rfl rfl cl30 rfl (@ih _ _ h41) rfl))) ?_
        refine TxtE2.cons ⟨.same _,trivial⟩ trivial (It2.val rfl rfl (fun T hT => (GOk.to (d':=(L 6 e_api_Node ([t40]:List T_api_Node))) (GOk.lit rfl Tryz.underlying26 sz28 zs28 rfl rfl rfl rfl) rfl))) ?_
        refine TxtE2.cons ⟨.same _,.same _,trivial⟩ ⟨rfl,trivial⟩ (It2.appendL 53 (e:=e_api_Node) (xs:=y1104_24) (ys:=([t40]:List T_api_Node)) rfl rfl Tryz.underlying26 elt28 rfl rfl rfl rfl c42 rfl rfl) ?_
        refine TxtE2.cons ⟨.same _,trivial⟩ ⟨rfl,trivial⟩ (It2.val rfl rfl (fun T hT => (VOk.g (VOk.to (VOk.fieldB rfl Tryz.underlying28 rfl sz26 rfl hT.1) rfl)))) ?_
        refine TxtE2.cons ⟨.same _,.same _,trivial⟩ ⟨rfl,rfl,trivial⟩ (It2.store rfl rfl sz26 rfl rfl rfl rfl rfl rfl rfl rfl) ?_
        exact .doneS (SLe.trans (Le.s (.rf rfl rfl)) (SLe.ren 53 1104 rfl rfl))
       refine .rg [(2,(.bref 2 0)),(5,(.bref 5 0)),(42,(L 4 e_api_Entry a0.List_)),(43,(.v (.int .i64 (a0.List_.length:Int)))),(44,(.v (.int .i64 (IntKind.i64.wrap (x44_12 + 1)))))] [(2,(.box .ex [(.v (.int .i64 y2_0_13)),(S y2_1_14),(S y2_2_15),(L 3 e_api_Attr y2_3_16),(L 6 e_api_Node y2_4_17),(S y2_5_18)])),(5,(.box .ex [(.v (.int .i64 y5_0_19)),(S y5_1_20),(S y5_2_21),(L 3 e_api_Attr y5_3_22),(.sref 1104),(S y5_5_23)])),(1104,(.rows true 28 6 ((y1104_24 ++ ([t40]:List T_api_Node)).map e_api_Node)))] ?_
       exact⟨m38,Nat.lt_succ_self m38,y2_0_13,y2_1_14,y2_2_15,y2_3_16,y2_4_17,y2_5_18,y5_0_19,y5_1_20,y5_2_21,y5_3_22,y5_5_23,(y1104_24 ++ ([t40]:List T_api_Node)),(IntKind.i64.wrap (x44_12 + 1)),rfl,H⟩
      ·replace H:=ifF H hb43
       refine Ok.exit ?_
       refine Ok.seq ?_
       refine Ok.region (σ':=⟨[(2,(.bref 2 0))],[(2,(.box .ex (c_api_Node (T_api_Node.mk y5_0_19 (T_api_Name.mk y5_1_20 y5_2_21) y5_3_22 y1104_24 y5_5_23))))]⟩) ?_ ?_
       ·refine OpsOk.frzL 1104 (e:=e_api_Node) (xs:=y1104_24) rfl ?_
        refine .cv (VOk.to (d':=(.agg (e_api_Node (T_api_Node.mk y5_0_19 (T_api_Name.mk y5_1_20 y5_2_21) y5_3_22 y1104_24 y5_5_23)))) (.loadBAgg rfl Tryz.underlying28 rfl sz28 rfl rfl rfl) (congrArg D.agg (e_api_Node_c (T_api_Node.mk y5_0_19 (T_api_Name.mk y5_1_20 y5_2_21) y5_3_22 y1104_24 y5_5_23)).symm)) rfl rfl ?_
        refine OpsOk.cut1 56 (.agg [(.v (.int .i64 ((T_api_Node.mk y5_0_19 (T_api_Name.mk y5_1_20 y5_2_21) y5_3_22 y1104_24 y5_5_23).Kind))),(S ((T_api_Node.mk y5_0_19 (T_api_Name.mk y5_1_20 y5_2_21) y5_3_22 y1104_24 y5_5_23).Name.Space)),(S ((T_api_Node.mk y5_0_19 (T_api_Name.mk y5_1_20 y5_2_21) y5_3_22 y1104_24 y5_5_23).Name.Local)),(L 3 e_api_Attr ((T_api_Node.mk y5_0_19 (T_api_Name.mk y5_1_20 y5_2_21) y5_3_22 y1104_24 y5_5_23).Attrs)),(L 6 e_api_Node ((T_api_Node.mk y5_0_19 (T_api_Name.mk y5_1_20 y5_2_21) y5_3_22 y1104_24 y5_5_23).Kids)),(S ((T_api_Node.mk y5_0_19 (T_api_Name.mk y5_1_20 y5_2_21) y5_3_22 y1104_24 y5_5_23).Text))]) (DLe.of_eq (congrArg D.agg (e_api_Node_c _).symm)) ?_
        refine .rn 1 ?_
        exact .dn
       refine Ok.ret ?_
       obtain rfl:=Option.some.inj H
       exact⟨.inl rfl,⟨_,(.cons (.cell (VOk.to (d':=(.agg (e_api_Node (T_api_Node.mk y5_0_19 (T_api_Name.mk y5_1_20 y5_2_21) y5_3_22 y1104_24 y5_5_23)))) (.loadBAgg rfl Tryz.underlying28 rfl sz28 rfl rfl rfl) (congrArg D.agg (e_api_Node_c (T_api_Node.mk y5_0_19 (T_api_Name.mk y5_1_20 y5_2_21) y5_3_22 y1104_24 y5_5_23)).symm))) .nil),rfl⟩,trivial⟩
def lists_Encode.l0 (k:Nat) (a0:List T_api_Entry):Nat→Int→Str→Str→List T_api_Attr→List T_api_Node→Str→Int→Str→Str→List T_api_Attr→Str→List T_api_Node→Int→Option (T_api_Node × Int)
 | 0,_,_,_,_,_,_,_,_,_,_,_,_,_ => none
 | m29 + 1,y2_0_4,y2_1_5,y2_2_6,y2_3_7,y2_4_8,y2_5_9,y4_0_10,y4_1_11,y4_2_12,y4_3_13,y4_5_14,y1084_15,x10_3 => (if (decide (x10_3 < (a0.length:Int)))=true then (if (0:Int) ≤ x10_3 ∧ x10_3 < (a0.length:Int) then (((if ((((rd a0 x10_3).Kind) != 2) == false)=true then lists_may k (rd a0 x10_3) else some default)).bind fun (t32:Bool) => (if ((((rd a0 x10_3).Kind) != 2) || (!t32))=true then some ((T_api_Node.mk 0 (T_api_Name.mk ([]:Str) ([]:Str)) ([]:List T_api_Attr) ([]:List T_api_Node) ([]:Str)),4) else ((lists_encode k (rd a0 x10_3)).bind fun (t35:T_api_Node) => (if (y1084_15.length + ([t35]:List T_api_Node).length) * 104 ≤ 140737488355328 then lists_Encode.l0 k a0 m29 y2_0_4 y2_1_5 y2_2_6 y2_3_7 y2_4_8 y2_5_9 y4_0_10 y4_1_11 y4_2_12 y4_3_13 y4_5_14 (y1084_15 ++ ([t35]:List T_api_Node)) (IntKind.i64.wrap (x10_3 + 1)) else none)))) else none) else ((lists_unique k a0).bind fun (t39:Bool) => (if (!t39)=true then some ((T_api_Node.mk 0 (T_api_Name.mk ([]:Str) ([]:Str)) ([]:List T_api_Attr) ([]:List T_api_Node) ([]:Str)),41) else some ((T_api_Node.mk y4_0_10 (T_api_Name.mk y4_1_11 y4_2_12) y4_3_13 y1084_15 y4_5_14),0))))
def lists_Encode (k:Nat) (a0:List T_api_Entry):Option (T_api_Node × Int):=((lists_element ([114,101,115,111,117,114,99,101,45,108,105,115,116,115]:Str) ([]:Str) ([]:Str)).bind fun (t1:T_api_Node) => lists_Encode.l0 k a0 k 0 ([]:Str) ([]:Str) ([]:List T_api_Attr) ([]:List T_api_Node) ([]:Str) t1.Kind t1.Name.Space t1.Name.Local t1.Attrs t1.Text ([]:List T_api_Node) 0)
theorem lists_Encode.ok {k:Nat} {a0:List T_api_Entry} {r:T_api_Node × Int} (H:lists_Encode k a0=some r):Vx.Fn Tryz.prog 11 [(L 4 e_api_Entry a0)] [] (.tup [(.agg (e_api_Node r.1)),(.v (.int .i64 r.2))]) []:=by
 unfold lists_Encode at H
 refine Vx.Fn.of_okR Tryz.func11 rfl (Nat.le_of_ble_eq_true rfl) ?_
 refine Ok.seq ?_
 refine .rg [(0,(L 4 e_api_Entry a0)),(2,(.bref 2 0))] [(2,bx0)] ?_
 refine Ok.seq ?_
 obtain⟨t1,h2,H⟩:=bindE H
 refine Ok.region (σ':=⟨[(0,(L 4 e_api_Entry a0)),(2,(.bref 2 0)),(4,(.bref 4 0))],[(2,bx0),(4,(.box .ex [(.v (.int .i64 t1.Kind)),(S t1.Name.Space),(S t1.Name.Local),(L 3 e_api_Attr t1.Attrs),(.sref 1084),(S t1.Text)])),(1084,(.rows true 28 6 (([]:List T_api_Node).map e_api_Node)))]⟩) ?_ ?_
 ·refine .cg (GOk.call rfl rfl cl28 rfl (lists_element.ok h2) rfl) rfl rfl ?_
  refine OpsOk.cons rfl (OpOk.alloc 4 [none,none,none,some 3,none,none] rfl zo28 rfl rfl) ?_
  refine OpsOk.sle (SLe.adopt 4 1084 4 28 6 rfl rfl rfl rfl rfl) ?_
  refine .rn 1 ?_
  refine OpsOk.sle (SLe.adopt 4 1084 4 28 6 rfl rfl rfl rfl rfl) ?_
  exact .dn
 refine Ok.seq ?_
 refine Ok.seq ?_
 refine Ok.region (σ':=⟨[(0,(L 4 e_api_Entry a0)),(2,(.bref 2 0)),(4,(.bref 4 0)),(8,(L 4 e_api_Entry a0)),(9,(.v (.int .i64 (a0.length:Int)))),(10,(.v (.int .i64 0)))],[(2,bx0),(4,(.box .ex [(.v (.int .i64 t1.Kind)),(S t1.Name.Space),(S t1.Name.Local),(L 3 e_api_Attr t1.Attrs),(.sref 1084),(S t1.Text)])),(1084,(.rows true 28 6 (([]:List T_api_Node).map e_api_Node)))]⟩) ?_ ?_
 ·refine .rn 1 ?_
  refine .cv (VOk.lenL (e:=e_api_Entry) (xs:=a0) rfl Tryz.underlying22 rfl) rfl rfl ?_
  refine .rn 1 ?_
  exact .dn
 refine Ok.block ?_
 refine Ok.loop (fun m29 σ => ∃ (y2_0_4:Int) (y2_1_5:Str) (y2_2_6:Str) (y2_3_7:List T_api_Attr) (y2_4_8:List T_api_Node) (y2_5_9:Str) (y4_0_10:Int) (y4_1_11:Str) (y4_2_12:Str) (y4_3_13:List T_api_Attr) (y4_5_14:Str) (y1084_15:List T_api_Node) (x10_3:Int),σ=⟨[(0,(L 4 e_api_Entry a0)),(2,(.bref 2 0)),(4,(.bref 4 0)),(8,(L 4 e_api_Entry a0)),(9,(.v (.int .i64 (a0.length:Int)))),(10,(.v (.int .i64 x10_3)))],[(2,(.box .ex [(.v (.int .i64 y2_0_4)),(S y2_1_5),(S y2_2_6),(L 3 e_api_Attr y2_3_7),(L 6 e_api_Node y2_4_8),(S y2_5_9)])),(4,(.box .ex [(.v (.int .i64 y4_0_10)),(S y4_1_11),(S y4_2_12),(L 3 e_api_Attr y4_3_13),(.sref 1084),(S y4_5_14)])),(1084,(.rows true 28 6 (y1084_15.map e_api_Node)))]⟩ ∧ lists_Encode.l0 k a0 m29 y2_0_4 y2_1_5 y2_2_6 y2_3_7 y2_4_8 y2_5_9 y4_0_10 y4_1_11 y4_2_12 y4_3_13 y4_5_14 y1084_15 x10_3=some r) k ⟨0,([]:Str),([]:Str),([]:List T_api_Attr),([]:List T_api_Node),([]:Str),t1.Kind,t1.Name.Space,t1.Name.Local,t1.Attrs,t1.Text,([]:List T_api_Node),0,rfl,H⟩ ?_
 rintro m29 σ ⟨y2_0_4,y2_1_5,y2_2_6,y2_3_7,y2_4_8,y2_5_9,y4_0_10,y4_1_11,y4_2_12,y4_3_13,y4_5_14,y1084_15,x10_3,rfl,H⟩
 cases m29 with
 | zero => exact absurd H (by simp [lists_Encode.l0])
 | succ m29 =>
  unfold lists_Encode.l0 at H
  refine Ok.seq ?_
  refine .rg [(0,(L 4 e_api_Entry a0)),(2,(.bref 2 0)),(4,(.bref 4 0)),(8,(L 4 e_api_Entry a0)),(9,(.v (.int .i64 (a0.length:Int)))),(10,(.v (.int .i64 x10_3))),(11,(.v (.bool (decide (x10_3 < (a0.length:Int))))))] [(2,(.box .ex [(.v (.int .i64 y2_0_4)),(S y2_1_5),(S y2_2_6),(L 3 e_api_Attr y2_3_7),(L 6 e_api_Node y2_4_8),(S y2_5_9)])),(4,(.box .ex [(.v (.int .i64 y4_0_10)),(S y4_1_11),(S y4_2_12),(L 3 e_api_Attr y4_3_13),(.sref 1084),(S y4_5_14)])),(1084,(.rows true 28 6 (y1084_15.map e_api_Node)))] ?_
  refine Ok.seq ?_
  refine Ok.test (b:=(decide (x10_3 < (a0.length:Int)))) rfl (fun hb42 => ?_) (fun hb42 => ?_)
  ·replace H:=ifT H hb42
   refine Ok.skip ?_
   refine Ok.seq ?_
   refine Ok.block ?_
   refine Ok.seq ?_
   obtain⟨c30,H⟩:=assertE H
   refine Ok.region (σ':=⟨[(0,(L 4 e_api_Entry a0)),(2,(.bref 2 0)),(4,(.bref 4 0)),(6,(.bref 6 0)),(8,(L 4 e_api_Entry a0)),(9,(.v (.int .i64 (a0.length:Int)))),(10,(.v (.int .i64 x10_3)))],[(2,(.box .ex [(.v (.int .i64 y2_0_4)),(S y2_1_5),(S y2_2_6),(L 3 e_api_Attr y2_3_7),(L 6 e_api_Node y2_4_8),(S y2_5_9)])),(4,(.box .ex [(.v (.int .i64 y4_0_10)),(S y4_1_11),(S y4_2_12),(L 3 e_api_Attr y4_3_13),(.sref 1084),(S y4_5_14)])),(6,(.box .ex (c_api_Entry (rd a0 x10_3)))),(1084,(.rows true 28 6 (y1084_15.map e_api_Node)))]⟩) ?_ ?_
   ·refine .cv (VOk.indexL (sz:=4) (e:=e_api_Entry) (xs:=a0) (i:=x10_3) rfl Tryz.underlying22 sz45 rfl rfl c30) rfl rfl ?_
    refine .rn 2 ?_
    refine OpsOk.cut1 13 (.agg [(.v (.int .i64 ((rd a0 x10_3).Kind))),(S ((rd a0 x10_3).URI)),(S ((rd a0 x10_3).Name)),(L 4 e_api_Entry ((rd a0 x10_3).List_))]) (DLe.of_eq (congrArg D.agg (e_api_Entry_c _).symm)) ?_
    refine .rn 1 ?_
    exact .dn
   refine Ok.seq ?_
   refine Ok.seq ?_
   obtain⟨t32,h33,H⟩:=bindE H
   refine Ok.region (σ':=⟨[(0,(L 4 e_api_Entry a0)),(2,(.bref 2 0)),(4,(.bref 4 0)),(6,(.bref 6 0)),(8,(L 4 e_api_Entry a0)),(9,(.v (.int .i64 (a0.length:Int)))),(10,(.v (.int .i64 x10_3))),(21,(.v (.bool ((((rd a0 x10_3).Kind) != 2) || (!t32)))))],[(2,(.box .ex [(.v (.int .i64 y2_0_4)),(S y2_1_5),(S y2_2_6),(L 3 e_api_Attr y2_3_7),(L 6 e_api_Node y2_4_8),(S y2_5_9)])),(4,(.box .ex [(.v (.int .i64 y4_0_10)),(S y4_1_11),(S y4_2_12),(L 3 e_api_Attr y4_3_13),(.sref 1084),(S y4_5_14)])),(6,(.box .ex (c_api_Entry (rd a0 x10_3)))),(1084,(.rows true 28 6 (y1084_15.map e_api_Node)))]⟩) ?_ ?_
   ·refine .rn 4 ?_
    refine OpsOk.consI rfl rfl rfl (.one rfl) rfl (fun hw31 => (VOk.g (VOk.to (d':=(.agg (e_api_Entry (rd a0 x10_3)))) (.loadBAgg rfl Tryz.underlying45 rfl sz45 rfl rfl rfl) (congrArg D.agg (e_api_Entry_c (rd a0 x10_3)).symm)))) ?_
    refine OpsOk.consI rfl rfl rfl (.one rfl) rfl (fun hw31 => (GOk.fr (fr':=[(18,(.agg (e_api_Entry (rd a0 x10_3))))]) ⟨DLe.of_eq (cT hw31).symm,trivial⟩ (GOk.call rfl rfl cl29 rfl (lists_may.ok (ifT h33 hw31)) rfl))) ?_
    refine OpsOk.consI rfl rfl rfl (.one rfl) rfl (fun hw31 => (GOk.fr (fr':=[(19,(.v (.bool t32)))]) ⟨DLe.of_eq (cT hw31).symm,trivial⟩ (VOk.g (VOk.not (b:=t32) rfl rfl)))) ?_
    refine .cv (VOk.to (VOk.pickI (b:=(((rd a0 x10_3).Kind) != 2)) (p:=true) (q:=(!t32)) rfl rfl (fun hp34 => rfl) (fun hp34 => (cT (f_beq hp34)))) (pickOr (((rd a0 x10_3).Kind) != 2) (!t32))) rfl rfl ?_
    exact .dn
   refine Ok.test (b:=((((rd a0 x10_3).Kind) != 2) || (!t32))) rfl (fun hb38 => ?_) (fun hb38 => ?_)
   ·replace H:=ifT H hb38
    refine Ok.seq ?_
    refine Ok.region (σ':=⟨[(2,(.bref 2 0)),(3,(.v (.int .i64 4)))],[(2,(bxN nN0))]⟩) ?_ ?_
    ·refine .cv (VOk.to (d':=(.agg (e_api_Node nN0))) (.build [none,none,none,some 3,some 6,none] [(0,1),(1,2),(3,1),(4,1),(5,1)] rfl Tryz.underlying28 (fa28 Tryz.underlying28) zo28 rfl rfl) (congrArg D.agg (e_api_Node_c nN0).symm)) rfl rfl ?_
     refine OpsOk.cut1 22 (.agg [(.v (.int .i64 (nN0.Kind))),(S (nN0.Name.Space)),(S (nN0.Name.Local)),(L 3 e_api_Attr (nN0.Attrs)),(L 6 e_api_Node (nN0.Kids)),(S (nN0.Text))]) (DLe.of_eq (congrArg D.agg (e_api_Node_c _).symm)) ?_
     refine .rn 2 ?_
     exact .dn
    refine Ok.ret ?_
    obtain rfl:=Option.some.inj H
    exact⟨.inl rfl,⟨_,(.cons (.cell (VOk.to (d':=(.agg (e_api_Node nN0))) (.loadBAgg rfl Tryz.underlying28 rfl sz28 rfl rfl rfl) (congrArg D.agg (e_api_Node_c nN0).symm))) (.cons (.tmp rfl) .nil)),rfl⟩,trivial⟩
   ·replace H:=ifF H hb38
    refine Ok.skip ?_
    obtain⟨t35,h36,H⟩:=bindE H
    obtain⟨c37,H⟩:=assertE H
    refine Ok.le (σ':=⟨[(0,(L 4 e_api_Entry a0)),(2,(.bref 2 0)),(4,(.bref 4 0)),(6,(.bref 6 0)),(8,(L 4 e_api_Entry a0)),(9,(.v (.int .i64 (a0.length:Int)))),(10,(.v (.int .i64 x10_3)))],[(2,(.box .ex [(.v (.int .i64 y2_0_4)),(S y2_1_5),(S y2_2_6),(L 3 e_api_Attr y2_3_7),(L 6 e_api_Node y2_4_8),(S y2_5_9)])),(4,(.box .ex [(.v (.int .i64 y4_0_10)),(S y4_1_11),(S y4_2_12),(L 3 e_api_Attr y4_3_13),(.sref 1084),(S y4_5_14)])),(6,(.box .ex (c_api_Entry (rd a0 x10_3)))),(1084,(.rows true 28 6 (y1084_15.map e_api_Node)))]⟩) (.rf rfl rfl) ?_
    refine Ok.drawE2 (σ':=⟨[(0,(L 4 e_api_Entry a0)),(2,(.bref 2 0)),(4,(.bref 4 0)),(8,(L 4 e_api_Entry a0)),(9,(.v (.int .i64 (a0.length:Int)))),(10,(.v (.int .i64 x10_3)))],[(2,(.box .ex [(.v (.int .i64 y2_0_4)),(S y2_1_5),(S y2_2_6),(L 3 e_api_Attr y2_3_7),(L 6 e_api_Node y2_4_8),(S y2_5_9)])),(4,(.box .ex [(.v (.int .i64 y4_0_10)),(S y4_1_11),(S y4_2_12),(L 3 e_api_Attr y4_3_13),(.sref 1084),(S y4_5_14)])),(1084,(.rows true 28 6 ((y1084_15 ++ ([t35]:List T_api_Node)).map e_api_Node)))]⟩) [⟨true,[(4,(.bref 4 0))],[(4,(.box .ex [(.v (.int .i64 y4_0_10)),(S y4_1_11),(S y4_2_12),(L 3 e_api_Attr y4_3_13),(.sref 1084),(S y4_5_14)]))],(.bref 4 4),[],false,[]⟩,⟨true,[(23,(.bref 4 4))],[(4,(.box .ex [(.v (.int .i64 y4_0_10)),(S y4_1_11),(S y4_2_12),(L 3 e_api_Attr y4_3_13),(.sref 1084),(S y4_5_14)]))],(.sref 1084),[],false,[]⟩,⟨true,[(6,(.bref 6 0))],[(6,(.box .ex (c_api_Entry (rd a0 x10_3))))],(.agg (e_api_Entry (rd a0 x10_3))),[],false,[]⟩,⟨true,[(25,(.agg (e_api_Entry (rd a0 x10_3))))],[],(.agg (e_api_Node t35)),[],false,[]⟩,⟨true,[(26,(.agg (e_api_Node t35)))],[],(L 6 e_api_Node ([t35]:List T_api_Node)),[],false,[]⟩,⟨true,[(24,(.sref 1084)),(27,(L 6 e_api_Node ([t35]:List T_api_Node)))],[(1084,(.rows true 28 6 (y1084_15.map e_api_Node)))],(.sref 28),[(28,(.rows true 28 6 ((y1084_15 ++ ([t35]:List T_api_Node)).map e_api_Node))),(1084,.none)],true,[]⟩,⟨true,[(4,(.bref 4 0))],[(4,(.box .ex [(.v (.int .i64 y4_0_10)),(S y4_1_11),(S y4_2_12),(L 3 e_api_Attr y4_3_13),(.sref 1084),(S y4_5_14)]))],(.bref 4 4),[],false,[]⟩,⟨true,[(29,(.bref 4 4)),(28,(.sref 28))],[(4,(.box .ex [(.v (.int .i64 y4_0_10)),(S y4_1_11),(S y4_2_12),(L 3 e_api_Attr y4_3_13),(.sref 1084),(S y4_5_14)])),(28,(.rows true 28 6 ((y1084_15 ++ ([t35]:List T_api_Node)).map e_api_Node)))],.junk,[(4,(.box .ex [(.v (.int .i64 y4_0_10)),(S y4_1_11),(S y4_2_12),(L 3 e_api_Attr y4_3_13),(.sref 28),(S y4_5_14)]))],false,[]⟩] [[],[0],[],[2],[3],[1,4],[],[0,1,5,6]] mixed (by kernel_rfl) ?_ ?_
    ·refine TxtE2.cons ⟨.same _,trivial⟩ ⟨rfl,trivial⟩ (It2.val rfl rfl (fun T hT => (VOk.g (VOk.to (VOk.fieldB rfl Tryz.underlying28 rfl sz26 rfl hT.1) rfl)))) ?_
     refine TxtE2.cons ⟨.same _,trivial⟩ ⟨rfl,trivial⟩ (It2.val rfl rfl (fun T hT => (VOk.g (VOk.loadB (d:=(.sref 1084)) rfl Tryz.underlying26 rfl rfl hT.1 rfl)))) ?_
     refine TxtE2.cons ⟨.same _,trivial⟩ ⟨rfl,trivial⟩ (It2.val rfl rfl (fun T hT => (VOk.g (VOk.to (d':=(.agg (e_api_Entry (rd a0 x10_3)))) (.loadBAgg rfl Tryz.underlying45 rfl sz45 rfl hT.1 rfl) (congrArg D.agg (e_api_Entry_c (rd a0 x10_3)).symm))))) ?_
     refine TxtE2.cons ⟨.same _,trivial⟩ trivial (It2.val rfl rfl (fun T hT => (GOk.call rfl rfl cl30 rfl (lists_encode.ok h36) rfl))) ?_
     refine TxtE2.cons ⟨.same _,trivial⟩ trivial (It2.val rfl rfl (fun T hT => (GOk.to (d':=(L 6 e_api_Node ([t35]:List T_api_Node))) (GOk.lit rfl Tryz.underlying26 sz28 zs28 rfl rfl rfl rfl) rfl))) ?_
     refine TxtE2.cons ⟨.same _,.same _,trivial⟩ ⟨rfl,trivial⟩ (It2.appendL 28 (e:=e_api_Node) (xs:=y1084_15) (ys:=([t35]:List T_api_Node)) rfl rfl Tryz.underlying26 elt28 rfl rfl rfl rfl c37 rfl rfl) ?_
     refine TxtE2.cons ⟨.same _,trivial⟩ ⟨rfl,trivial⟩ (It2.val rfl rfl (fun T hT => (VOk.g (VOk.to (VOk.fieldB rfl Tryz.underlying28 rfl sz26 rfl hT.1) rfl)))) ?_
     refine TxtE2.cons ⟨.same _,.same _,trivial⟩ ⟨rfl,rfl,trivial⟩ (It2.store rfl rfl sz26 rfl rfl rfl rfl rfl rfl rfl rfl) ?_
     exact .doneS (SLe.trans (Le.s (.rf rfl rfl)) (SLe.ren 28 1084 rfl rfl))
    refine .rg [(0,(L 4 e_api_Entry a0)),(2,(.bref 2 0)),(4,(.bref 4 0)),(8,(L 4 e_api_Entry a0)),(9,(.v (.int .i64 (a0.length:Int)))),(10,(.v (.int .i64 (IntKind.i64.wrap (x10_3 + 1)))))] [(2,(.box .ex [(.v (.int .i64 y2_0_4)),(S y2_1_5),(S y2_2_6),(L 3 e_api_Attr y2_3_7),(L 6 e_api_Node y2_4_8),(S y2_5_9)])),(4,(.box .ex [(.v (.int .i64 y4_0_10)),(S y4_1_11),(S y4_2_12),(L 3 e_api_Attr y4_3_13),(.sref 1084),(S y4_5_14)])),(1084,(.rows true 28 6 ((y1084_15 ++ ([t35]:List T_api_Node)).map e_api_Node)))] ?_
    exact⟨m29,Nat.lt_succ_self m29,y2_0_4,y2_1_5,y2_2_6,y2_3_7,y2_4_8,y2_5_9,y4_0_10,y4_1_11,y4_2_12,y4_3_13,y4_5_14,(y1084_15 ++ ([t35]:List T_api_Node)),(IntKind.i64.wrap (x10_3 + 1)),rfl,H⟩
  ·replace H:=ifF H hb42
   refine Ok.exit ?_
   refine Ok.seq ?_
   refine Ok.seq ?_
   obtain⟨t39,h40,H⟩:=bindE H
   refine Ok.region (σ':=⟨[(2,(.bref 2 0)),(4,(.bref 4 0)),(33,(.v (.bool (!t39))))],[(2,(.box .ex [(.v (.int .i64 y2_0_4)),(S y2_1_5),(S y2_2_6),(L 3 e_api_Attr y2_3_7),(L 6 e_api_Node y2_4_8),(S y2_5_9)])),(4,(.box .ex [(.v (.int .i64 y4_0_10)),(S y4_1_11),(S y4_2_12),(L 3 e_api_Attr y4_3_13),(.sref 1084),(S y4_5_14)])),(1084,(.rows true 28 6 (y1084_15.map e_api_Node)))]⟩) ?_ ?_
   ·refine .rn 1 ?_
    refine .cg (GOk.call rfl rfl cl27 rfl (lists_unique.ok h40) rfl) rfl rfl ?_
    refine .rn 1 ?_
    exact .dn
   refine Ok.test (b:=(!t39)) rfl (fun hb41 => ?_) (fun hb41 => ?_)
   ·replace H:=ifT H hb41
    refine Ok.seq ?_
    refine Ok.region (σ':=⟨[(2,(.bref 2 0)),(3,(.v (.int .i64 41)))],[(2,(bxN nN0))]⟩) ?_ ?_
    ·refine .cv (VOk.to (d':=(.agg (e_api_Node nN0))) (.build [none,none,none,some 3,some 6,none] [(0,1),(1,2),(3,1),(4,1),(5,1)] rfl Tryz.underlying28 (fa28 Tryz.underlying28) zo28 rfl rfl) (congrArg D.agg (e_api_Node_c nN0).symm)) rfl rfl ?_
     refine OpsOk.cut1 34 (.agg [(.v (.int .i64 (nN0.Kind))),(S (nN0.Name.Space)),(S (nN0.Name.Local)),(L 3 e_api_Attr (nN0.Attrs)),(L 6 e_api_Node (nN0.Kids)),(S (nN0.Text))]) (DLe.of_eq (congrArg D.agg (e_api_Node_c _).symm)) ?_
     refine .rn 2 ?_
     exact .dn
    refine Ok.ret ?_
    obtain rfl:=Option.some.inj H
    exact⟨.inl rfl,⟨_,(.cons (.cell (VOk.to (d':=(.agg (e_api_Node nN0))) (.loadBAgg rfl Tryz.underlying28 rfl sz28 rfl rfl rfl) (congrArg D.agg (e_api_Node_c nN0).symm))) (.cons (.tmp rfl) .nil)),rfl⟩,trivial⟩
   ·replace H:=ifF H hb41
    refine Ok.skip ?_
    refine Ok.seq ?_
    refine Ok.region (σ':=⟨[(2,(.bref 2 0)),(3,(.v (.int .i64 0)))],[(2,(.box .ex (c_api_Node (T_api_Node.mk y4_0_10 (T_api_Name.mk y4_1_11 y4_2_12) y4_3_13 y1084_15 y4_5_14))))]⟩) ?_ ?_
    ·refine OpsOk.frzL 1084 (e:=e_api_Node) (xs:=y1084_15) rfl ?_
     refine .cv (VOk.to (d':=(.agg (e_api_Node (T_api_Node.mk y4_0_10 (T_api_Name.mk y4_1_11 y4_2_12) y4_3_13 y1084_15 y4_5_14)))) (.loadBAgg rfl Tryz.underlying28 rfl sz28 rfl rfl rfl) (congrArg D.agg (e_api_Node_c (T_api_Node.mk y4_0_10 (T_api_Name.mk y4_1_11 y4_2_12) y4_3_13 y1084_15 y4_5_14)).symm)) rfl rfl ?_
     refine OpsOk.cut1 35 (.agg [(.v (.int .i64 ((T_api_Node.mk y4_0_10 (T_api_Name.mk y4_1_11 y4_2_12) y4_3_13 y1084_15 y4_5_14).Kind))),(S ((T_api_Node.mk y4_0_10 (T_api_Name.mk y4_1_11 y4_2_12) y4_3_13 y1084_15 y4_5_14).Name.Space)),(S ((T_api_Node.mk y4_0_10 (T_api_Name.mk y4_1_11 y4_2_12) y4_3_13 y1084_15 y4_5_14).Name.Local)),(L 3 e_api_Attr ((T_api_Node.mk y4_0_10 (T_api_Name.mk y4_1_11 y4_2_12) y4_3_13 y1084_15 y4_5_14).Attrs)),(L 6 e_api_Node ((T_api_Node.mk y4_0_10 (T_api_Name.mk y4_1_11 y4_2_12) y4_3_13 y1084_15 y4_5_14).Kids)),(S ((T_api_Node.mk y4_0_10 (T_api_Name.mk y4_1_11 y4_2_12) y4_3_13 y1084_15 y4_5_14).Text))]) (DLe.of_eq (congrArg D.agg (e_api_Node_c _).symm)) ?_
     refine .rn 2 ?_
     exact .dn
    refine Ok.ret ?_
    obtain rfl:=Option.some.inj H
    exact⟨.inl rfl,⟨_,(.cons (.cell (VOk.to (d':=(.agg (e_api_Node (T_api_Node.mk y4_0_10 (T_api_Name.mk y4_1_11 y4_2_12) y4_3_13 y1084_15 y4_5_14)))) (.loadBAgg rfl Tryz.underlying28 rfl sz28 rfl rfl rfl) (congrArg D.agg (e_api_Node_c (T_api_Node.mk y4_0_10 (T_api_Name.mk y4_1_11 y4_2_12) y4_3_13 y1084_15 y4_5_14)).symm))) (.cons (.tmp rfl) .nil)),rfl⟩,trivial⟩
def lists_Check (k:Nat) (a0:T_api_Node):Option Int:=((lists_Decode k a0).bind fun (t1:(List T_api_Entry) × Int) => some t1.2)
theorem lists_Check.ok {k:Nat} {a0:T_api_Node} {r:Int} (H:lists_Check k a0=some r):Vx.Fn Tryz.prog 13 [(.agg (e_api_Node a0))] [] (.v (.int .i64 r)) []:=by
 unfold lists_Check at H
 refine Vx.Fn.of_okR Tryz.func13 rfl (Nat.le_of_ble_eq_true rfl) ?_
 refine Ok.seq ?_
 refine Ok.region (σ':=⟨[(1,(.bref 1 0))],[(1,(bxN a0))]⟩) ?_ ?_
 ·refine OpsOk.cut1 0 (.agg (c_api_Node a0)) (DLe.of_eq (congrArg D.agg (e_api_Node_c _).symm)) ?_
  refine .rn 2 ?_
  exact .dn
 refine Ok.seq ?_
 obtain⟨t1,h2,H⟩:=bindE H
 refine Ok.region (σ':=⟨[(4,(.v (.int .i64 t1.2)))],[]⟩) ?_ ?_
 ·refine .cv (VOk.to (d':=(.agg (e_api_Node a0))) (.loadBAgg rfl Tryz.underlying28 rfl sz28 rfl rfl rfl) (congrArg D.agg (e_api_Node_c a0).symm)) rfl rfl ?_
  refine .cg (GOk.call rfl rfl cl10 rfl (lists_Decode.ok h2) rfl) rfl rfl ?_
  refine .rn 5 ?_
  exact .dn
 refine Ok.seq ?_
 refine .rg [(2,(.v (.int .i64 t1.2)))] [] ?_
 refine Ok.ret ?_
 obtain rfl:=Option.some.inj H
 exact⟨.inl rfl,⟨_,(.cons (.tmp rfl) .nil),rfl⟩,trivial⟩
def watchbilllaw16_weigh.l0 (k:Nat) (self:List T_api_Entry→Int→Option Int) (a0:List T_api_Entry) (a1:Int):Nat→Int→Int→Option Int
 | 0,_,_ => none
 | m5 + 1,x5_1,x6_2 => (if ((decide (x6_2 < (a0.length:Int))) && (decide (x5_1 ≤ a1)))=true then (if (0:Int) ≤ x6_2 ∧ x6_2 < (a0.length:Int) then (if (0:Int) ≤ x6_2 ∧ x6_2 < (a0.length:Int) then (if (decide ((IntKind.i64.wrap ((IntKind.i64.wrap ((IntKind.i64.wrap (x5_1 + 1)) + (if a1 < (((rd a0 x6_2).URI).length:Int) then a1 else (((rd a0 x6_2).URI).length:Int)))) + (if a1 < (((rd a0 x6_2).Name).length:Int) then a1 else (((rd a0 x6_2).Name).length:Int)))) ≤ a1))=true then (if (0:Int) ≤ x6_2 ∧ x6_2 < (a0.length:Int) then ((self ((rd a0 x6_2).List_) (IntKind.i64.wrap (a1 - (IntKind.i64.wrap ((IntKind.i64.wrap ((IntKind.i64.wrap (x5_1 + 1)) + (if a1 < (((rd a0 x6_2).URI).length:Int) then a1 else (((rd a0 x6_2).URI).length:Int)))) + (if a1 < (((rd a0 x6_2).Name).length:Int) then a1 else (((rd a0 x6_2).Name).length:Int))))))).bind fun (t11:Int) => watchbilllaw16_weigh.l0 k self a0 a1 m5 (IntKind.i64.wrap ((IntKind.i64.wrap ((IntKind.i64.wrap ((IntKind.i64.wrap (x5_1 + 1)) + (if a1 < (((rd a0 x6_2).URI).length:Int) then a1 else (((rd a0 x6_2).URI).length:Int)))) + (if a1 < (((rd a0 x6_2).Name).length:Int) then a1 else (((rd a0 x6_2).Name).length:Int)))) + t11)) (IntKind.i64.wrap (x6_2 + 1))) else none) else watchbilllaw16_weigh.l0 k self a0 a1 m5 (IntKind.i64.wrap ((IntKind.i64.wrap ((IntKind.i64.wrap (x5_1 + 1)) + (if a1 < (((rd a0 x6_2).URI).length:Int) then a1 else (((rd a0 x6_2).URI).length:Int)))) + (if a1 < (((rd a0 x6_2).Name).length:Int) then a1 else (((rd a0 x6_2).Name).length:Int)))) (IntKind.i64.wrap (x6_2 + 1))) else none) else none) else some x5_1)
def watchbilllaw16_weigh:Nat→List T_api_Entry→Int→Option Int
 | 0,_,_ => none
 | k + 1,a0,a1 => watchbilllaw16_weigh.l0 k (watchbilllaw16_weigh k) a0 a1 k 0 0
theorem watchbilllaw16_weigh.ok {k:Nat} {a0:List T_api_Entry} {a1:Int} {r:Int} (H:watchbilllaw16_weigh k a0 a1=some r):Vx.Fn Tryz.prog 22 [(L 4 e_api_Entry a0),(.v (.int .i64 a1))] [] (.v (.int .i64 r)) []:=by
 induction k generalizing a0 a1 r with
 | zero => exact absurd H (by simp [watchbilllaw16_weigh])
 | succ k ih =>
  unfold watchbilllaw16_weigh at H
  refine Vx.Fn.of_okR Tryz.func22 rfl (Nat.le_of_ble_eq_true rfl) ?_
  refine Ok.seq ?_
  refine .rg [(0,(L 4 e_api_Entry a0)),(1,(.v (.int .i64 a1)))] [] ?_
  refine Ok.seq ?_
  refine .rg [(0,(L 4 e_api_Entry a0)),(1,(.v (.int .i64 a1))),(5,(.v (.int .i64 0)))] [] ?_
  refine Ok.seq ?_
  refine Ok.seq ?_
  refine .rg [(0,(L 4 e_api_Entry a0)),(1,(.v (.int .i64 a1))),(5,(.v (.int .i64 0))),(6,(.v (.int .i64 0)))] [] ?_
  refine Ok.block ?_
  refine Ok.loop (fun m5 σ => ∃ (x5_1:Int) (x6_2:Int),σ=⟨[(0,(L 4 e_api_Entry a0)),(1,(.v (.int .i64 a1))),(5,(.v (.int .i64 x5_1))),(6,(.v (.int .i64 x6_2)))],[]⟩ ∧ watchbilllaw16_weigh.l0 k (watchbilllaw16_weigh k) a0 a1 m5 x5_1 x6_2=some r) k ⟨0,0,rfl,H⟩ ?_
  rintro m5 σ ⟨x5_1,x6_2,rfl,H⟩
  cases m5 with
  | zero => exact absurd H (by simp [watchbilllaw16_weigh.l0])
  | succ m5 =>
   unfold watchbilllaw16_weigh.l0 at H
   refine Ok.seq ?_
   refine Ok.seq ?_
   refine Ok.region (σ':=⟨[(0,(L 4 e_api_Entry a0)),(1,(.v (.int .i64 a1))),(5,(.v (.int .i64 x5_1))),(6,(.v (.int .i64 x6_2))),(15,(.v (.bool ((decide (x6_2 < (a0.length:Int))) && (decide (x5_1 ≤ a1))))))],[]⟩) ?_ ?_
   ·refine .rn 2 ?_
    refine .cv (VOk.lenL (e:=e_api_Entry) (xs:=a0) rfl Tryz.underlying22 rfl) rfl rfl ?_
    refine .rn 2 ?_
    refine OpsOk.consI rfl rfl rfl (.one rfl) rfl (fun hw6 => (VOk.g (VOk.mv (d:=(.v (.int .i64 x5_1))) rfl rfl))) ?_
    refine OpsOk.consI rfl rfl rfl (.one rfl) rfl (fun hw6 => (VOk.g (VOk.mv (d:=(.v (.int .i64 a1))) rfl rfl))) ?_
    refine OpsOk.consI rfl rfl rfl (.one rfl) rfl (fun hw6 => (GOk.fr (fr':=[(12,(.v (.int .i64 x5_1))),(13,(.v (.int .i64 a1)))]) ⟨DLe.of_eq (cT hw6).symm,DLe.of_eq (cT hw6).symm,trivial⟩ (VOk.g (VOk.arith (op:=.leq) (k:=.i64) (a:=x5_1) (b:=a1) rfl rfl rfl rfl)))) ?_
    refine .cv (VOk.to (VOk.pickI (b:=(decide (x6_2 < (a0.length:Int)))) (p:=(decide (x5_1 ≤ a1))) (q:=false) rfl rfl (fun hp7 => (cT (t_beq hp7))) (fun hp7 => rfl)) (pickAnd (decide (x6_2 < (a0.length:Int))) (decide (x5_1 ≤ a1)))) rfl rfl ?_
    exact .dn
   refine Ok.test (b:=((decide (x6_2 < (a0.length:Int))) && (decide (x5_1 ≤ a1)))) rfl (fun hb14 => ?_) (fun hb14 => ?_)
   ·replace H:=ifT H hb14
    refine Ok.skip ?_
    refine Ok.seq ?_
    refine Ok.block ?_
    refine Ok.seq ?_
    obtain⟨c8,H⟩:=assertE H
    obtain⟨c9,H⟩:=assertE H
    refine .dA [(0,(L 4 e_api_Entry a0)),(1,(.v (.int .i64 a1))),(5,(.v (.int .i64 (IntKind.i64.wrap ((IntKind.i64.wrap ((IntKind.i64.wrap (x5_1 + 1)) + (if a1 < (((rd a0 x6_2).URI).length:Int) then a1 else (((rd a0 x6_2).URI).length:Int)))) + (if a1 < (((rd a0 x6_2).Name).length:Int) then a1 else (((rd a0 x6_2).Name).length:Int))))))),(6,(.v (.int .i64 x6_2)))] [] [[],[0],[],[],[2,3],[4],[5],[6],[],[7,8],[1,9],[],[],[11,12],[13],[14],[15],[],[16,17],[10,18],[0,19]] mixed ?_ ?_
    ·refine .tn 4 ?_
     refine .tc (VOk.g (VOk.indexL (sz:=4) (e:=e_api_Entry) (xs:=a0) (i:=x6_2) rfl Tryz.underlying22 sz45 rfl rfl c8)) ?_
     refine .tn 2 ?_
     refine .tc (VOk.g (VOk.lenStr (s:=(rd a0 x6_2).URI) rfl Tryz.underlying9 rfl)) ?_
     refine .tn 1 ?_
     refine .tc (VOk.g (VOk.min2 (a:=(((rd a0 x6_2).URI).length:Int)) (b:=a1) rfl rfl rfl)) ?_
     refine .tn 3 ?_
     refine .tc (VOk.g (VOk.indexL (sz:=4) (e:=e_api_Entry) (xs:=a0) (i:=x6_2) rfl Tryz.underlying22 sz45 rfl rfl c9)) ?_
     refine .tn 2 ?_
     refine .tc (VOk.g (VOk.lenStr (s:=(rd a0 x6_2).Name) rfl Tryz.underlying9 rfl)) ?_
     refine .tn 1 ?_
     refine .tc (VOk.g (VOk.min2 (a:=(((rd a0 x6_2).Name).length:Int)) (b:=a1) rfl rfl rfl)) ?_
     refine .tn 2 ?_
     exact .dn
    refine Ok.seq ?_
    refine .rg [(0,(L 4 e_api_Entry a0)),(1,(.v (.int .i64 a1))),(5,(.v (.int .i64 (IntKind.i64.wrap ((IntKind.i64.wrap ((IntKind.i64.wrap (x5_1 + 1)) + (if a1 < (((rd a0 x6_2).URI).length:Int) then a1 else (((rd a0 x6_2).URI).length:Int)))) + (if a1 < (((rd a0 x6_2).Name).length:Int) then a1 else (((rd a0 x6_2).Name).length:Int))))))),(6,(.v (.int .i64 x6_2))),(40,(.v (.bool (decide ((IntKind.i64.wrap ((IntKind.i64.wrap ((IntKind.i64.wrap (x5_1 + 1)) + (if a1 < (((rd a0 x6_2).URI).length:Int) then a1 else (((rd a0 x6_2).URI).length:Int)))) + (if a1 < (((rd a0 x6_2).Name).length:Int) then a1 else (((rd a0 x6_2).Name).length:Int)))) ≤ a1)))))] [] ?_
    refine Ok.test (b:=(decide ((IntKind.i64.wrap ((IntKind.i64.wrap ((IntKind.i64.wrap (x5_1 + 1)) + (if a1 < (((rd a0 x6_2).URI).length:Int) then a1 else (((rd a0 x6_2).URI).length:Int)))) + (if a1 < (((rd a0 x6_2).Name).length:Int) then a1 else (((rd a0 x6_2).Name).length:Int)))) ≤ a1))) rfl (fun hb13 => ?_) (fun hb13 => ?_)
    ·replace H:=ifT H hb13
     obtain⟨c10,H⟩:=assertE H
     obtain⟨t11,h12,H⟩:=bindE H
     refine Ok.region (σ':=⟨[(0,(L 4 e_api_Entry a0)),(1,(.v (.int .i64 a1))),(5,(.v (.int .i64 (IntKind.i64.wrap ((IntKind.i64.wrap ((IntKind.i64.wrap ((IntKind.i64.wrap (x5_1 + 1)) + (if a1 < (((rd a0 x6_2).URI).length:Int) then a1 else (((rd a0 x6_2).URI).length:Int)))) + (if a1 < (((rd a0 x6_2).Name).length:Int) then a1 else (((rd a0 x6_2).Name).length:Int)))) + t11))))),(6,(.v (.int .i64 x6_2)))],[]⟩) ?_ ?_
     ·refine .rn 3 ?_
      refine .cv (VOk.indexL (sz:=4) (e:=e_api_Entry) (xs:=a0) (i:=x6_2) rfl Tryz.underlying22 sz45 rfl rfl c10) rfl rfl ?_
      refine .rn 1 ?_
      refine .cv (VOk.to (d':=(L 4 e_api_Entry ((rd a0 x6_2).List_))) (VOk.loadFp (d:=(L 4 r_api_Entry ((rd a0 x6_2).List_))) rfl Tryz.underlying22 rfl rfl rfl) (by rw [r_api_Entry_eq])) rfl rfl ?_
      refine .rn 3 ?_
      refine .cg (GOk.call rfl rfl cl22 rfl (@ih _ _ _ h12) rfl) rfl rfl ?_
      refine .rn 2 ?_
      exact .dn
     refine .rg [(0,(L 4 e_api_Entry a0)),(1,(.v (.int .i64 a1))),(5,(.v (.int .i64 (IntKind.i64.wrap ((IntKind.i64.wrap ((IntKind.i64.wrap ((IntKind.i64.wrap (x5_1 + 1)) + (if a1 < (((rd a0 x6_2).URI).length:Int) then a1 else (((rd a0 x6_2).URI).length:Int)))) + (if a1 < (((rd a0 x6_2).Name).length:Int) then a1 else (((rd a0 x6_2).Name).length:Int)))) + t11))))),(6,(.v (.int .i64 (IntKind.i64.wrap (x6_2 + 1)))))] [] ?_
     exact⟨m5,Nat.lt_succ_self m5,(IntKind.i64.wrap ((IntKind.i64.wrap ((IntKind.i64.wrap ((IntKind.i64.wrap (x5_1 + 1)) + (if a1 < (((rd a0 x6_2).URI).length:Int) then a1 else (((rd a0 x6_2).URI).length:Int)))) + (if a1 < (((rd a0 x6_2).Name).length:Int) then a1 else (((rd a0 x6_2).Name).length:Int)))) + t11)),(IntKind.i64.wrap (x6_2 + 1)),rfl,H⟩
    ·replace H:=ifF H hb13
     refine Ok.skip ?_
     refine .rg [(0,(L 4 e_api_Entry a0)),(1,(.v (.int .i64 a1))),(5,(.v (.int .i64 (IntKind.i64.wrap ((IntKind.i64.wrap ((IntKind.i64.wrap (x5_1 + 1)) + (if a1 < (((rd a0 x6_2).URI).length:Int) then a1 else (((rd a0 x6_2).URI).length:Int)))) + (if a1 < (((rd a0 x6_2).Name).length:Int) then a1 else (((rd a0 x6_2).Name).length:Int))))))),(6,(.v (.int .i64 (IntKind.i64.wrap (x6_2 + 1)))))] [] ?_
     exact⟨m5,Nat.lt_succ_self m5,(IntKind.i64.wrap ((IntKind.i64.wrap ((IntKind.i64.wrap (x5_1 + 1)) + (if a1 < (((rd a0 x6_2).URI).length:Int) then a1 else (((rd a0 x6_2).URI).length:Int)))) + (if a1 < (((rd a0 x6_2).Name).length:Int) then a1 else (((rd a0 x6_2).Name).length:Int)))),(IntKind.i64.wrap (x6_2 + 1)),rfl,H⟩
   ·replace H:=ifF H hb14
    refine Ok.exit ?_
    refine Ok.seq ?_
    refine .rg [(4,(.v (.int .i64 x5_1)))] [] ?_
    refine Ok.ret ?_
    obtain rfl:=Option.some.inj H
    exact⟨.inl rfl,⟨_,(.cons (.tmp rfl) .nil),rfl⟩,trivial⟩
def watchbilllaw16_Few (k:Nat) (a0:List T_api_Entry):Option Bool:=((watchbilllaw16_weigh k a0 5000).bind fun (t1:Int) => some (decide (t1 ≤ 5000)))
theorem watchbilllaw16_Few.ok {k:Nat} {a0:List T_api_Entry} {r:Bool} (H:watchbilllaw16_Few k a0=some r):Vx.Fn Tryz.prog 8 [(L 4 e_api_Entry a0)] [] (.v (.bool r)) []:=by
 unfold watchbilllaw16_Few at H
 refine Vx.Fn.of_okR Tryz.func8 rfl (Nat.le_of_ble_eq_true rfl) ?_
 refine Ok.seq ?_
 refine .rg [(0,(L 4 e_api_Entry a0))] [] ?_
 refine Ok.seq ?_
 obtain⟨t1,h2,H⟩:=bindE H
 refine Ok.region (σ':=⟨[(2,(.v (.bool (decide (t1 ≤ 5000)))))],[]⟩) ?_ ?_
 ·refine .rn 1 ?_
  refine .cg (GOk.call rfl rfl cl22 rfl (watchbilllaw16_weigh.ok h2) rfl) rfl rfl ?_
  refine .rn 2 ?_
  exact .dn
 refine Ok.ret ?_
 obtain rfl:=Option.some.inj H
 exact⟨.inl rfl,⟨_,(.cons (.tmp rfl) .nil),rfl⟩,trivial⟩
def watchbilllaw04_weigh.l1 (k:Nat) (self:T_api_Node→Int→Option Int) (a1:Int):Nat→Int→Str→Str→List T_api_Attr→List T_api_Node→Str→Int→Int→Option Int
 | 0,_,_,_,_,_,_,_,_ => none
 | m39 + 1,y2_0_25,y2_1_26,y2_2_27,y2_3_28,y2_4_29,y2_5_30,x5_23,x7_24 => (if ((decide (x7_24 < (y2_4_29.length:Int))) && (decide (x5_23 ≤ a1)))=true then (if (0:Int) ≤ x7_24 ∧ x7_24 < (y2_4_29.length:Int) then ((self (rd y2_4_29 x7_24) (IntKind.i64.wrap (a1 - x5_23))).bind fun (t43:Int) => watchbilllaw04_weigh.l1 k self a1 m39 y2_0_25 y2_1_26 y2_2_27 y2_3_28 y2_4_29 y2_5_30 (IntKind.i64.wrap (x5_23 + t43)) (IntKind.i64.wrap (x7_24 + 1))) else none) else some x5_23)
def watchbilllaw04_weigh.l0 (k:Nat) (self:T_api_Node→Int→Option Int) (a1:Int):Nat→Int→Str→Str→List T_api_Attr→List T_api_Node→Str→Int→Int→Option Int
 | 0,_,_,_,_,_,_,_,_ => none
 | m17 + 1,y2_0_3,y2_1_4,y2_2_5,y2_3_6,y2_4_7,y2_5_8,x5_1,x6_2 => (if ((decide (x6_2 < (y2_3_6.length:Int))) && (decide (x5_1 ≤ a1)))=true then (if (0:Int) ≤ x6_2 ∧ x6_2 < (y2_3_6.length:Int) then (if (0:Int) ≤ x6_2 ∧ x6_2 < (y2_3_6.length:Int) then (if (0:Int) ≤ x6_2 ∧ x6_2 < (y2_3_6.length:Int) then watchbilllaw04_weigh.l0 k self a1 m17 y2_0_3 y2_1_4 y2_2_5 y2_3_6 y2_4_7 y2_5_8 (IntKind.i64.wrap ((IntKind.i64.wrap ((IntKind.i64.wrap (x5_1 + (if a1 < ((((rd y2_3_6 x6_2).Name).Space).length:Int) then a1 else ((((rd y2_3_6 x6_2).Name).Space).length:Int)))) + (if a1 < ((((rd y2_3_6 x6_2).Name).Local).length:Int) then a1 else ((((rd y2_3_6 x6_2).Name).Local).length:Int)))) + (if a1 < (((rd y2_3_6 x6_2).Value).length:Int) then a1 else (((rd y2_3_6 x6_2).Value).length:Int)))) (IntKind.i64.wrap (x6_2 + 1)) else none) else none) else none) else watchbilllaw04_weigh.l1 k self a1 k y2_0_3 y2_1_4 y2_2_5 y2_3_6 y2_4_7 y2_5_8 x5_1 0)
def watchbilllaw04_weigh:Nat→T_api_Node→Int→Option Int
 | 0,_,_ => none
 | k + 1,a0,a1 => watchbilllaw04_weigh.l0 k (watchbilllaw04_weigh k) a1 k a0.Kind a0.Name.Space a0.Name.Local a0.Attrs a0.Kids a0.Text (IntKind.i64.wrap ((IntKind.i64.wrap ((IntKind.i64.wrap ((IntKind.i64.wrap (1 + (if a1 < (a0.Text.length:Int) then a1 else (a0.Text.length:Int)))) + (if a1 < (a0.Name.Space.length:Int) then a1 else (a0.Name.Space.length:Int)))) + (if a1 < (a0.Name.Local.length:Int) then a1 else (a0.Name.Local.length:Int)))) + (if a1 < (a0.Attrs.length:Int) then a1 else (a0.Attrs.length:Int)))) 0
theorem watchbilllaw04_weigh.ok {k:Nat} {a0:T_api_Node} {a1:Int} {r:Int} (H:watchbilllaw04_weigh k a0 a1=some r):Vx.Fn Tryz.prog 23 [(.agg (e_api_Node a0)),(.v (.int .i64 a1))] [] (.v (.int .i64 r)) []:=by
 induction k generalizing a0 a1 r with
 | zero => exact absurd H (by simp [watchbilllaw04_weigh])
 | succ k ih =>
  unfold watchbilllaw04_weigh at H
  refine Vx.Fn.of_okR Tryz.func23 rfl (Nat.le_of_ble_eq_true rfl) ?_
  refine Ok.seq ?_
  refine Ok.region (σ':=⟨[(1,(.v (.int .i64 a1))),(2,(.bref 2 0))],[(2,(bxN a0))]⟩) ?_ ?_
  ·refine OpsOk.cut1 0 (.agg (c_api_Node a0)) (DLe.of_eq (congrArg D.agg (e_api_Node_c _).symm)) ?_
   refine .rn 2 ?_
   exact .dn
  refine Ok.seq ?_
  refine Ok.region (σ':=⟨[(1,(.v (.int .i64 a1))),(2,(.bref 2 0)),(5,(.v (.int .i64 (IntKind.i64.wrap ((IntKind.i64.wrap ((IntKind.i64.wrap ((IntKind.i64.wrap (1 + (if a1 < (a0.Text.length:Int) then a1 else (a0.Text.length:Int)))) + (if a1 < (a0.Name.Space.length:Int) then a1 else (a0.Name.Space.length:Int)))) + (if a1 < (a0.Name.Local.length:Int) then a1 else (a0.Name.Local.length:Int)))) + (if a1 < (a0.Attrs.length:Int) then a1 else (a0.Attrs.length:Int)))))))],[(2,(bxN a0))]⟩) ?_ ?_
  ·refine .rn 4 ?_
   refine .cv (VOk.min2 (a:=(a0.Text.length:Int)) (b:=a1) rfl rfl rfl) rfl rfl ?_
   refine .rn 6 ?_
   refine .cv (VOk.min2 (a:=(a0.Name.Space.length:Int)) (b:=a1) rfl rfl rfl) rfl rfl ?_
   refine .rn 6 ?_
   refine .cv (VOk.min2 (a:=(a0.Name.Local.length:Int)) (b:=a1) rfl rfl rfl) rfl rfl ?_
   refine .rn 3 ?_
   refine .cv (VOk.lenL (e:=e_api_Attr) (xs:=a0.Attrs) rfl Tryz.underlying25 rfl) rfl rfl ?_
   refine .rn 1 ?_
   refine .cv (VOk.min2 (a:=(a0.Attrs.length:Int)) (b:=a1) rfl rfl rfl) rfl rfl ?_
   refine .rn 2 ?_
   exact .dn
  refine Ok.seq ?_
  refine Ok.seq ?_
  refine .rg [(1,(.v (.int .i64 a1))),(2,(.bref 2 0)),(5,(.v (.int .i64 (IntKind.i64.wrap ((IntKind.i64.wrap ((IntKind.i64.wrap ((IntKind.i64.wrap (1 + (if a1 < (a0.Text.length:Int) then a1 else (a0.Text.length:Int)))) + (if a1 < (a0.Name.Space.length:Int) then a1 else (a0.Name.Space.length:Int)))) + (if a1 < (a0.Name.Local.length:Int) then a1 else (a0.Name.Local.length:Int)))) + (if a1 < (a0.Attrs.length:Int) then a1 else (a0.Attrs.length:Int))))))),(6,(.v (.int .i64 0)))] [(2,(bxN a0))] ?_
  refine Ok.block ?_
  refine Ok.loop (fun m17 σ => ∃ (y2_0_3:Int) (y2_1_4:Str) (y2_2_5:Str) (y2_3_6:List T_api_Attr) (y2_4_7:List T_api_Node) (y2_5_8:Str) (x5_1:Int) (x6_2:Int),σ=⟨[(1,(.v (.int .i64 a1))),(2,(.bref 2 0)),(5,(.v (.int .i64 x5_1))),(6,(.v (.int .i64 x6_2)))],[(2,(.box .ex [(.v (.int .i64 y2_0_3)),(S y2_1_4),(S y2_2_5),(L 3 e_api_Attr y2_3_6),(L 6 e_api_Node y2_4_7),(S y2_5_8)]))]⟩ ∧ watchbilllaw04_weigh.l0 k (watchbilllaw04_weigh k) a1 m17 y2_0_3 y2_1_4 y2_2_5 y2_3_6 y2_4_7 y2_5_8 x5_1 x6_2=some r) k ⟨a0.Kind,a0.Name.Space,a0.Name.Local,a0.Attrs,a0.Kids,a0.Text,(IntKind.i64.wrap ((IntKind.i64.wrap ((IntKind.i64.wrap ((IntKind.i64.wrap (1 + (if a1 < (a0.Text.length:Int) then a1 else (a0.Text.length:Int)))) + (if a1 < (a0.Name.Space.length:Int) then a1 else (a0.Name.Space.length:Int)))) + (if a1 < (a0.Name.Local.length:Int) then a1 else (a0.Name.Local.length:Int)))) + (if a1 < (a0.Attrs.length:Int) then a1 else (a0.Attrs.length:Int)))),0,rfl,H⟩ ?_
  rintro m17 σ ⟨y2_0_3,y2_1_4,y2_2_5,y2_3_6,y2_4_7,y2_5_8,x5_1,x6_2,rfl,H⟩
  cases m17 with
  | zero => exact absurd H (by simp [watchbilllaw04_weigh.l0])
  | succ m17 =>
   unfold watchbilllaw04_weigh.l0 at H
   refine Ok.seq ?_
   refine Ok.seq ?_
   refine Ok.region (σ':=⟨[(1,(.v (.int .i64 a1))),(2,(.bref 2 0)),(5,(.v (.int .i64 x5_1))),(6,(.v (.int .i64 x6_2))),(43,(.v (.bool ((decide (x6_2 < (y2_3_6.length:Int))) && (decide (x5_1 ≤ a1))))))],[(2,(.box .ex [(.v (.int .i64 y2_0_3)),(S y2_1_4),(S y2_2_5),(L 3 e_api_Attr y2_3_6),(L 6 e_api_Node y2_4_7),(S y2_5_8)]))]⟩) ?_ ?_
   ·refine .rn 3 ?_
    refine .cv (VOk.lenL (e:=e_api_Attr) (xs:=y2_3_6) rfl Tryz.underlying25 rfl) rfl rfl ?_
    refine .rn 2 ?_
    refine OpsOk.consI rfl rfl rfl (.one rfl) rfl (fun hw18 => (VOk.g (VOk.mv (d:=(.v (.int .i64 x5_1))) rfl rfl))) ?_
    refine OpsOk.consI rfl rfl rfl (.one rfl) rfl (fun hw18 => (VOk.g (VOk.mv (d:=(.v (.int .i64 a1))) rfl rfl))) ?_
    refine OpsOk.consI rfl rfl rfl (.one rfl) rfl (fun hw18 => (GOk.fr (fr':=[(40,(.v (.int .i64 x5_1))),(41,(.v (.int .i64 a1)))]) ⟨DLe.of_eq (cT hw18).symm,DLe.of_eq (cT hw18).symm,trivial⟩ (VOk.g (VOk.arith (op:=.leq) (k:=.i64) (a:=x5_1) (b:=a1) rfl rfl rfl rfl)))) ?_
    refine .cv (VOk.to (VOk.pickI (b:=(decide (x6_2 < (y2_3_6.length:Int)))) (p:=(decide (x5_1 ≤ a1))) (q:=false) rfl rfl (fun hp19 => (cT (t_beq hp19))) (fun hp19 => rfl)) (pickAnd (decide (x6_2 < (y2_3_6.length:Int))) (decide (x5_1 ≤ a1)))) rfl rfl ?_
    exact .dn
   refine Ok.test (b:=((decide (x6_2 < (y2_3_6.length:Int))) && (decide (x5_1 ≤ a1)))) rfl (fun hb46 => ?_) (fun hb46 => ?_)
   ·replace H:=ifT H hb46
    refine Ok.skip ?_
    refine Ok.seq ?_
    refine Ok.block ?_
    obtain⟨c20,H⟩:=assertE H
    obtain⟨c21,H⟩:=assertE H
    obtain⟨c22,H⟩:=assertE H
    refine .dA [(1,(.v (.int .i64 a1))),(2,(.bref 2 0)),(5,(.v (.int .i64 (IntKind.i64.wrap ((IntKind.i64.wrap ((IntKind.i64.wrap (x5_1 + (if a1 < ((((rd y2_3_6 x6_2).Name).Space).length:Int) then a1 else ((((rd y2_3_6 x6_2).Name).Space).length:Int)))) + (if a1 < ((((rd y2_3_6 x6_2).Name).Local).length:Int) then a1 else ((((rd y2_3_6 x6_2).Name).Local).length:Int)))) + (if a1 < (((rd y2_3_6 x6_2).Value).length:Int) then a1 else (((rd y2_3_6 x6_2).Value).length:Int))))))),(6,(.v (.int .i64 x6_2)))] [(2,(.box .ex [(.v (.int .i64 y2_0_3)),(S y2_1_4),(S y2_2_5),(L 3 e_api_Attr y2_3_6),(L 6 e_api_Node y2_4_7),(S y2_5_8)]))] [[],[],[1],[],[2,3],[4],[5],[6],[7],[],[8,9],[0,10],[],[12],[],[13,14],[15],[16],[17],[18],[],[19,20],[11,21],[],[23],[],[24,25],[26],[27],[28],[],[29,30],[22,31],[0,32]] mixed ?_ ?_
    ·refine .tn 4 ?_
     refine .tc (VOk.g (VOk.indexL (sz:=3) (e:=e_api_Attr) (xs:=y2_3_6) (i:=x6_2) rfl Tryz.underlying25 sz41 rfl rfl c20)) ?_
     refine .tn 3 ?_
     refine .tc (VOk.g (VOk.lenStr (s:=((rd y2_3_6 x6_2).Name).Space) rfl Tryz.underlying9 rfl)) ?_
     refine .tn 1 ?_
     refine .tc (VOk.g (VOk.min2 (a:=((((rd y2_3_6 x6_2).Name).Space).length:Int)) (b:=a1) rfl rfl rfl)) ?_
     refine .tn 4 ?_
     refine .tc (VOk.g (VOk.indexL (sz:=3) (e:=e_api_Attr) (xs:=y2_3_6) (i:=x6_2) rfl Tryz.underlying25 sz41 rfl rfl c21)) ?_
     refine .tn 3 ?_
     refine .tc (VOk.g (VOk.lenStr (s:=((rd y2_3_6 x6_2).Name).Local) rfl Tryz.underlying9 rfl)) ?_
     refine .tn 1 ?_
     refine .tc (VOk.g (VOk.min2 (a:=((((rd y2_3_6 x6_2).Name).Local).length:Int)) (b:=a1) rfl rfl rfl)) ?_
     refine .tn 4 ?_
     refine .tc (VOk.g (VOk.indexL (sz:=3) (e:=e_api_Attr) (xs:=y2_3_6) (i:=x6_2) rfl Tryz.underlying25 sz41 rfl rfl c22)) ?_
     refine .tn 2 ?_
     refine .tc (VOk.g (VOk.lenStr (s:=(rd y2_3_6 x6_2).Value) rfl Tryz.underlying9 rfl)) ?_
     refine .tn 1 ?_
     refine .tc (VOk.g (VOk.min2 (a:=(((rd y2_3_6 x6_2).Value).length:Int)) (b:=a1) rfl rfl rfl)) ?_
     refine .tn 2 ?_
     exact .dn
    refine .rg [(1,(.v (.int .i64 a1))),(2,(.bref 2 0)),(5,(.v (.int .i64 (IntKind.i64.wrap ((IntKind.i64.wrap ((IntKind.i64.wrap (x5_1 + (if a1 < ((((rd y2_3_6 x6_2).Name).Space).length:Int) then a1 else ((((rd y2_3_6 x6_2).Name).Space).length:Int)))) + (if a1 < ((((rd y2_3_6 x6_2).Name).Local).length:Int) then a1 else ((((rd y2_3_6 x6_2).Name).Local).length:Int)))) + (if a1 < (((rd y2_3_6 x6_2).Value).length:Int) then a1 else (((rd y2_3_6 x6_2).Value).length:Int))))))),(6,(.v (.int .i64 (IntKind.i64.wrap (x6_2 + 1)))))] [(2,(.box .ex [(.v (.int .i64 y2_0_3)),(S y2_1_4),(S y2_2_5),(L 3 e_api_Attr y2_3_6),(L 6 e_api_Node y2_4_7),(S y2_5_8)]))] ?_
    exact⟨m17,Nat.lt_succ_self m17,y2_0_3,y2_1_4,y2_2_5,y2_3_6,y2_4_7,y2_5_8,(IntKind.i64.wrap ((IntKind.i64.wrap ((IntKind.i64.wrap (x5_1 + (if a1 < ((((rd y2_3_6 x6_2).Name).Space).length:Int) then a1 else ((((rd y2_3_6 x6_2).Name).Space).length:Int)))) + (if a1 < ((((rd y2_3_6 x6_2).Name).Local).length:Int) then a1 else ((((rd y2_3_6 x6_2).Name).Local).length:Int)))) + (if a1 < (((rd y2_3_6 x6_2).Value).length:Int) then a1 else (((rd y2_3_6 x6_2).Value).length:Int)))),(IntKind.i64.wrap (x6_2 + 1)),rfl,H⟩
   ·replace H:=ifF H hb46
    refine Ok.exit ?_
    refine Ok.seq ?_
    refine Ok.seq ?_
    refine .rg [(1,(.v (.int .i64 a1))),(2,(.bref 2 0)),(5,(.v (.int .i64 x5_1))),(7,(.v (.int .i64 0)))] [(2,(.box .ex [(.v (.int .i64 y2_0_3)),(S y2_1_4),(S y2_2_5),(L 3 e_api_Attr y2_3_6),(L 6 e_api_Node y2_4_7),(S y2_5_8)]))] ?_
    refine Ok.block ?_
    refine Ok.loop (fun m39 σ => ∃ (y2_0_25:Int) (y2_1_26:Str) (y2_2_27:Str) (y2_3_28:List T_api_Attr) (y2_4_29:List T_api_Node) (y2_5_30:Str) (x5_23:Int) (x7_24:Int),σ=⟨[(1,(.v (.int .i64 a1))),(2,(.bref 2 0)),(5,(.v (.int .i64 x5_23))),(7,(.v (.int .i64 x7_24)))],[(2,(.box .ex [(.v (.int .i64 y2_0_25)),(S y2_1_26),(S y2_2_27),(L 3 e_api_Attr y2_3_28),(L 6 e_api_Node y2_4_29),(S y2_5_30)]))]⟩ ∧ watchbilllaw04_weigh.l1 k (watchbilllaw04_weigh k) a1 m39 y2_0_25 y2_1_26 y2_2_27 y2_3_28 y2_4_29 y2_5_30 x5_23 x7_24=some r) k ⟨y2_0_3,y2_1_4,y2_2_5,y2_3_6,y2_4_7,y2_5_8,x5_1,0,rfl,H⟩ ?_
    rintro m39 σ ⟨y2_0_25,y2_1_26,y2_2_27,y2_3_28,y2_4_29,y2_5_30,x5_23,x7_24,rfl,H⟩
    cases m39 with
    | zero => exact absurd H (by simp [watchbilllaw04_weigh.l1])
    | succ m39 =>
     unfold watchbilllaw04_weigh.l1 at H
     refine Ok.seq ?_
     refine Ok.seq ?_
     refine Ok.region (σ':=⟨[(1,(.v (.int .i64 a1))),(2,(.bref 2 0)),(5,(.v (.int .i64 x5_23))),(7,(.v (.int .i64 x7_24))),(88,(.v (.bool ((decide (x7_24 < (y2_4_29.length:Int))) && (decide (x5_23 ≤ a1))))))],[(2,(.box .ex [(.v (.int .i64 y2_0_25)),(S y2_1_26),(S y2_2_27),(L 3 e_api_Attr y2_3_28),(L 6 e_api_Node y2_4_29),(S y2_5_30)]))]⟩) ?_ ?_
     ·refine .rn 3 ?_
      refine .cv (VOk.lenL (e:=e_api_Node) (xs:=y2_4_29) rfl Tryz.underlying26 rfl) rfl rfl ?_
      refine .rn 2 ?_
      refine OpsOk.consI rfl rfl rfl (.one rfl) rfl (fun hw40 => (VOk.g (VOk.mv (d:=(.v (.int .i64 x5_23))) rfl rfl))) ?_
      refine OpsOk.consI rfl rfl rfl (.one rfl) rfl (fun hw40 => (VOk.g (VOk.mv (d:=(.v (.int .i64 a1))) rfl rfl))) ?_
      refine OpsOk.consI rfl rfl rfl (.one rfl) rfl (fun hw40 => (GOk.fr (fr':=[(85,(.v (.int .i64 x5_23))),(86,(.v (.int .i64 a1)))]) ⟨DLe.of_eq (cT hw40).symm,DLe.of_eq (cT hw40).symm,trivial⟩ (VOk.g (VOk.arith (op:=.leq) (k:=.i64) (a:=x5_23) (b:=a1) rfl rfl rfl rfl)))) ?_
      refine .cv (VOk.to (VOk.pickI (b:=(decide (x7_24 < (y2_4_29.length:Int)))) (p:=(decide (x5_23 ≤ a1))) (q:=false) rfl rfl (fun hp41 => (cT (t_beq hp41))) (fun hp41 => rfl)) (pickAnd (decide (x7_24 < (y2_4_29.length:Int))) (decide (x5_23 ≤ a1)))) rfl rfl ?_
      exact .dn
     refine Ok.test (b:=((decide (x7_24 < (y2_4_29.length:Int))) && (decide (x5_23 ≤ a1)))) rfl (fun hb45 => ?_) (fun hb45 => ?_)
     ·replace H:=ifT H hb45
      refine Ok.skip ?_
      refine Ok.seq ?_
      refine Ok.block ?_
      obtain⟨c42,H⟩:=assertE H
      obtain⟨t43,h44,H⟩:=bindE H
      refine Ok.region (σ':=⟨[(1,(.v (.int .i64 a1))),(2,(.bref 2 0)),(5,(.v (.int .i64 (IntKind.i64.wrap (x5_23 + t43))))),(7,(.v (.int .i64 x7_24)))],[(2,(.box .ex [(.v (.int .i64 y2_0_25)),(S y2_1_26),(S y2_2_27),(L 3 e_api_Attr y2_3_28),(L 6 e_api_Node y2_4_29),(S y2_5_30)]))]⟩) ?_ ?_
      ·refine .rn 4 ?_
       refine .cv (VOk.indexL (sz:=6) (e:=e_api_Node) (xs:=y2_4_29) (i:=x7_24) rfl Tryz.underlying26 sz28 rfl rfl c42) rfl rfl ?_
       refine .rn 4 ?_
       refine .cg (GOk.call rfl rfl cl23 rfl (@ih _ _ _ h44) rfl) rfl rfl ?_
       refine .rn 2 ?_
       exact .dn
      refine .rg [(1,(.v (.int .i64 a1))),(2,(.bref 2 0)),(5,(.v (.int .i64 (IntKind.i64.wrap (x5_23 + t43))))),(7,(.v (.int .i64 (IntKind.i64.wrap (x7_24 + 1)))))] [(2,(.box .ex [(.v (.int .i64 y2_0_25)),(S y2_1_26),(S y2_2_27),(L 3 e_api_Attr y2_3_28),(L 6 e_api_Node y2_4_29),(S y2_5_30)]))] ?_
      exact⟨m39,Nat.lt_succ_self m39,y2_0_25,y2_1_26,y2_2_27,y2_3_28,y2_4_29,y2_5_30,(IntKind.i64.wrap (x5_23 + t43)),(IntKind.i64.wrap (x7_24 + 1)),rfl,H⟩
     ·replace H:=ifF H hb45
      refine Ok.exit ?_
      refine Ok.seq ?_
      refine .rg [(4,(.v (.int .i64 x5_23)))] [] ?_
      refine Ok.ret ?_
      obtain rfl:=Option.some.inj H
      exact⟨.inl rfl,⟨_,(.cons (.tmp rfl) .nil),rfl⟩,trivial⟩
def watchbilllaw04_Few (k:Nat) (a0:T_api_Node):Option Bool:=((watchbilllaw04_weigh k a0 30000).bind fun (t1:Int) => some (decide (t1 ≤ 30000)))
theorem watchbilllaw04_Few.ok {k:Nat} {a0:T_api_Node} {r:Bool} (H:watchbilllaw04_Few k a0=some r):Vx.Fn Tryz.prog 9 [(.agg (e_api_Node a0))] [] (.v (.bool r)) []:=by
 unfold watchbilllaw04_Few at H
 refine Vx.Fn.of_okR Tryz.func9 rfl (Nat.le_of_ble_eq_true rfl) ?_
 refine Ok.seq ?_
 refine Ok.region (σ':=⟨[(1,(.bref 1 0))],[(1,(bxN a0))]⟩) ?_ ?_
 ·refine OpsOk.cut1 0 (.agg (c_api_Node a0)) (DLe.of_eq (congrArg D.agg (e_api_Node_c _).symm)) ?_
  refine .rn 2 ?_
  exact .dn
 refine Ok.seq ?_
 obtain⟨t1,h2,H⟩:=bindE H
 refine Ok.region (σ':=⟨[(2,(.v (.bool (decide (t1 ≤ 30000)))))],[]⟩) ?_ ?_
 ·refine .cv (VOk.to (d':=(.agg (e_api_Node a0))) (.loadBAgg rfl Tryz.underlying28 rfl sz28 rfl rfl rfl) (congrArg D.agg (e_api_Node_c a0).symm)) rfl rfl ?_
  refine .cg (GOk.call rfl rfl cl23 rfl (watchbilllaw04_weigh.ok h2) rfl) rfl rfl ?_
  refine .rn 2 ?_
  exact .dn
 refine Ok.ret ?_
 obtain rfl:=Option.some.inj H
 exact⟨.inl rfl,⟨_,(.cons (.tmp rfl) .nil),rfl⟩,trivial⟩
def watchbillref16_One (self:List T_api_Entry→List T_api_Entry→Option Bool) (a0:T_api_Entry) (a1:T_api_Entry):Option Bool:=(((if ((((a0.Kind == a1.Kind) && (a0.URI == a1.URI)) && (a0.Name == a1.Name)) == true)=true then self a0.List_ a1.List_ else some default)).bind fun (t6:Bool) => some ((((a0.Kind == a1.Kind) && (a0.URI == a1.URI)) && (a0.Name == a1.Name)) && t6))
theorem watchbillref16_One.ok {self:List T_api_Entry→List T_api_Entry→Option Bool} (ihF:∀ {a0:List T_api_Entry} {a1:List T_api_Entry} {r:Bool},self a0 a1=some r→Vx.Fn Tryz.prog 12 [(L 4 e_api_Entry a0),(L 4 e_api_Entry a1)] [] (.v (.bool r)) []) {a0:T_api_Entry} {a1:T_api_Entry} {r:Bool} (H:watchbillref16_One self a0 a1=some r):Vx.Fn Tryz.prog 15 [(.agg (e_api_Entry a0)),(.agg (e_api_Entry a1))] [] (.v (.bool r)) []:=by
 unfold watchbillref16_One at H
 refine Vx.Fn.of_okR Tryz.func15 rfl (Nat.le_of_ble_eq_true rfl) ?_
 refine Ok.seq ?_
 refine Ok.region (σ':=⟨[(2,(.bref 2 0)),(3,(.bref 3 0))],[(2,(.box .ex (c_api_Entry a0))),(3,(.box .ex (c_api_Entry a1)))]⟩) ?_ ?_
 ·refine OpsOk.cut1 0 (.agg [(.v (.int .i64 a0.Kind)),(S a0.URI),(S a0.Name),(L 4 e_api_Entry a0.List_)]) (DLe.of_eq (congrArg D.agg (e_api_Entry_c _).symm)) ?_
  refine .rn 1 ?_
  refine OpsOk.cut1 1 (.agg [(.v (.int .i64 a1.Kind)),(S a1.URI),(S a1.Name),(L 4 e_api_Entry a1.List_)]) (DLe.of_eq (congrArg D.agg (e_api_Entry_c _).symm)) ?_
  refine .rn 2 ?_
  exact .dn
 refine Ok.seq ?_
 obtain⟨t6,h7,H⟩:=bindE H
 refine Ok.region (σ':=⟨[(4,(.v (.bool ((((a0.Kind == a1.Kind) && (a0.URI == a1.URI)) && (a0.Name == a1.Name)) && t6))))],[]⟩) ?_ ?_
 ·refine .rn 6 ?_
  refine OpsOk.consI rfl rfl rfl (.one rfl) rfl (fun hw1 => (VOk.g (VOk.to (VOk.fieldB rfl Tryz.underlying45 rfl sz9 rfl rfl) rfl))) ?_
  refine OpsOk.consI rfl rfl rfl (.one rfl) rfl (fun hw1 => (GOk.fr (fr':=[(11,(.bref 2 1))]) ⟨DLe.of_eq (cT hw1).symm,trivial⟩ (VOk.g (VOk.loadB (d:=(S a0.URI)) rfl Tryz.underlying9 rfl rfl rfl rfl)))) ?_
  refine OpsOk.consI rfl rfl rfl (.one rfl) rfl (fun hw1 => (VOk.g (VOk.to (VOk.fieldB rfl Tryz.underlying45 rfl sz9 rfl rfl) rfl))) ?_
  refine OpsOk.consI rfl rfl rfl (.one rfl) rfl (fun hw1 => (GOk.fr (fr':=[(13,(.bref 3 1))]) ⟨DLe.of_eq (cT hw1).symm,trivial⟩ (VOk.g (VOk.loadB (d:=(S a1.URI)) rfl Tryz.underlying9 rfl rfl rfl rfl)))) ?_
  refine OpsOk.consI rfl rfl rfl (.one rfl) rfl (fun hw1 => (GOk.fr (fr':=[(12,(S a0.URI)),(14,(S a1.URI))]) ⟨DLe.of_eq (cT hw1).symm,DLe.of_eq (cT hw1).symm,trivial⟩ (VOk.g (VOk.strOp (op:=.eql) (a:=a0.URI) (b:=a1.URI) rfl rfl rfl rfl)))) ?_
  refine .cv (VOk.to (VOk.pickI (b:=(a0.Kind == a1.Kind)) (p:=(a0.URI == a1.URI)) (q:=false) rfl rfl (fun hp2 => (cT (t_beq hp2))) (fun hp2 => rfl)) (pickAnd (a0.Kind == a1.Kind) (a0.URI == a1.URI))) rfl rfl ?_
  refine .rn 1 ?_
  refine OpsOk.consI rfl rfl rfl (.one rfl) rfl (fun hw3 => (VOk.g (VOk.to (VOk.fieldB rfl Tryz.underlying45 rfl sz9 rfl rfl) rfl))) ?_
  refine OpsOk.consI rfl rfl rfl (.one rfl) rfl (fun hw3 => (GOk.fr (fr':=[(18,(.bref 2 2))]) ⟨DLe.of_eq (cT hw3).symm,trivial⟩ (VOk.g (VOk.loadB (d:=(S a0.Name)) rfl Tryz.underlying9 rfl rfl rfl rfl)))) ?_
  refine OpsOk.consI rfl rfl rfl (.one rfl) rfl (fun hw3 => (VOk.g (VOk.to (VOk.fieldB rfl Tryz.underlying45 rfl sz9 rfl rfl) rfl))) ?_
  refine OpsOk.consI rfl rfl rfl (.one rfl) rfl (fun hw3 => (GOk.fr (fr':=[(20,(.bref 3 2))]) ⟨DLe.of_eq (cT hw3).symm,trivial⟩ (VOk.g (VOk.loadB (d:=(S a1.Name)) rfl Tryz.underlying9 rfl rfl rfl rfl)))) ?_
  refine OpsOk.consI rfl rfl rfl (.one rfl) rfl (fun hw3 => (GOk.fr (fr':=[(19,(S a0.Name)),(21,(S a1.Name))]) ⟨DLe.of_eq (cT hw3).symm,DLe.of_eq (cT hw3).symm,trivial⟩ (VOk.g (VOk.strOp (op:=.eql) (a:=a0.Name) (b:=a1.Name) rfl rfl rfl rfl)))) ?_
  refine .cv (VOk.to (VOk.pickI (b:=((a0.Kind == a1.Kind) && (a0.URI == a1.URI))) (p:=(a0.Name == a1.Name)) (q:=false) rfl rfl (fun hp4 => (cT (t_beq hp4))) (fun hp4 => rfl)) (pickAnd ((a0.Kind == a1.Kind) && (a0.URI == a1.URI)) (a0.Name == a1.Name))) rfl rfl ?_
  refine .rn 1 ?_
  refine OpsOk.consI rfl rfl rfl (.one rfl) rfl (fun hw5 => (VOk.g (VOk.to (VOk.fieldB rfl Tryz.underlying45 rfl sz22 rfl rfl) rfl))) ?_
  refine OpsOk.consI rfl rfl rfl (.one rfl) rfl (fun hw5 => (GOk.fr (fr':=[(25,(.bref 2 3))]) ⟨DLe.of_eq (cT hw5).symm,trivial⟩ (VOk.g (VOk.loadB (d:=(L 4 e_api_Entry a0.List_)) rfl Tryz.underlying22 rfl rfl rfl rfl)))) ?_
  refine OpsOk.consI rfl rfl rfl (.one rfl) rfl (fun hw5 => (VOk.g (VOk.to (VOk.fieldB rfl Tryz.underlying45 rfl sz22 rfl rfl) rfl))) ?_
  refine OpsOk.consI rfl rfl rfl (.one rfl) rfl (fun hw5 => (GOk.fr (fr':=[(27,(.bref 3 3))]) ⟨DLe.of_eq (cT hw5).symm,trivial⟩ (VOk.g (VOk.loadB (d:=(L 4 e_api_Entry a1.List_)) rfl Tryz.underlying22 rfl rfl rfl rfl)))) ?_
  refine OpsOk.consI rfl rfl rfl (.one rfl) rfl (fun hw5 => (GOk.fr (fr':=[(26,(L 4 e_api_Entry a0.List_)),(28,(L 4 e_api_Entry a1.List_))]) ⟨DLe.of_eq (cT hw5).symm,DLe.of_eq (cT hw5).symm,trivial⟩ (GOk.call rfl rfl cl12 rfl (@ihF _ _ _ (ifT h7 hw5)) rfl))) ?_
  refine .cv (VOk.to (VOk.pickI (b:=(((a0.Kind == a1.Kind) && (a0.URI == a1.URI)) && (a0.Name == a1.Name))) (p:=t6) (q:=false) rfl rfl (fun hp8 => (cT (t_beq hp8))) (fun hp8 => rfl)) (pickAnd (((a0.Kind == a1.Kind) && (a0.URI == a1.URI)) && (a0.Name == a1.Name)) t6)) rfl rfl ?_
  refine .rn 1 ?_
  exact .dn
 refine Ok.ret ?_
 obtain rfl:=Option.some.inj H
 exact⟨.inl rfl,⟨_,(.cons (.tmp rfl) .nil),rfl⟩,trivial⟩
def watchbillref16_Same.l0 (k:Nat) (self:List T_api_Entry→List T_api_Entry→Option Bool) (a0:List T_api_Entry) (a1:List T_api_Entry):Nat→Int→Option Bool
 | 0,_ => none
 | m3 + 1,x5_1 => (if (decide (x5_1 < (a0.length:Int)))=true then (if (0:Int) ≤ x5_1 ∧ x5_1 < (a0.length:Int) then (if (0:Int) ≤ x5_1 ∧ x5_1 < (a1.length:Int) then ((watchbillref16_One self (rd a0 x5_1) (rd a1 x5_1)).bind fun (t6:Bool) => (if (!t6)=true then some false else watchbillref16_Same.l0 k self a0 a1 m3 (IntKind.i64.wrap (x5_1 + 1)))) else none) else none) else some true)
def watchbillref16_Same:Nat→List T_api_Entry→List T_api_Entry→Option Bool
 | 0,_,_ => none
 | k + 1,a0,a1 => (if ((a0.length:Int) != (a1.length:Int))=true then some false else watchbillref16_Same.l0 k (watchbillref16_Same k) a0 a1 k 0)
theorem watchbillref16_Same.ok {k:Nat} {a0:List T_api_Entry} {a1:List T_api_Entry} {r:Bool} (H:watchbillref16_Same k a0 a1=some r):Vx.Fn Tryz.prog 12 [(L 4 e_api_Entry a0),(L 4 e_api_Entry a1)] [] (.v (.bool r)) []:=by
 induction k generalizing a0 a1 r with
 | zero => exact absurd H (by simp [watchbillref16_Same])
 | succ k ih =>
  unfold watchbillref16_Same at H
  refine Vx.Fn.of_okR Tryz.func12 rfl (Nat.le_of_ble_eq_true rfl) ?_
  refine Ok.seq ?_
  refine .rg [(0,(L 4 e_api_Entry a0)),(1,(L 4 e_api_Entry a1))] [] ?_
  refine Ok.seq ?_
  refine Ok.seq ?_
  refine Ok.region (σ':=⟨[(0,(L 4 e_api_Entry a0)),(1,(L 4 e_api_Entry a1)),(10,(.v (.bool ((a0.length:Int) != (a1.length:Int)))))],[]⟩) ?_ ?_
  ·refine .rn 1 ?_
   refine .cv (VOk.lenL (e:=e_api_Entry) (xs:=a0) rfl Tryz.underlying22 rfl) rfl rfl ?_
   refine .rn 1 ?_
   refine .cv (VOk.lenL (e:=e_api_Entry) (xs:=a1) rfl Tryz.underlying22 rfl) rfl rfl ?_
   refine .rn 1 ?_
   exact .dn
  refine Ok.test (b:=((a0.length:Int) != (a1.length:Int))) rfl (fun hb10 => ?_) (fun hb10 => ?_)
  ·replace H:=ifT H hb10
   refine Ok.seq ?_
   refine .rg [(4,(.v (.bool false)))] [] ?_
   refine Ok.ret ?_
   obtain rfl:=Option.some.inj H
   exact⟨.inl rfl,⟨_,(.cons (.tmp rfl) .nil),rfl⟩,trivial⟩
  ·replace H:=ifF H hb10
   refine Ok.skip ?_
   refine Ok.seq ?_
   refine Ok.seq ?_
   refine .rg [(0,(L 4 e_api_Entry a0)),(1,(L 4 e_api_Entry a1)),(5,(.v (.int .i64 0)))] [] ?_
   refine Ok.block ?_
   refine Ok.loop (fun m3 σ => ∃ (x5_1:Int),σ=⟨[(0,(L 4 e_api_Entry a0)),(1,(L 4 e_api_Entry a1)),(5,(.v (.int .i64 x5_1)))],[]⟩ ∧ watchbillref16_Same.l0 k (watchbillref16_Same k) a0 a1 m3 x5_1=some r) k ⟨0,rfl,H⟩ ?_
   rintro m3 σ ⟨x5_1,rfl,H⟩
   cases m3 with
   | zero => exact absurd H (by simp [watchbillref16_Same.l0])
   | succ m3 =>
    unfold watchbillref16_Same.l0 at H
    refine Ok.seq ?_
    refine Ok.seq ?_
    refine Ok.region (σ':=⟨[(0,(L 4 e_api_Entry a0)),(1,(L 4 e_api_Entry a1)),(5,(.v (.int .i64 x5_1))),(14,(.v (.bool (decide (x5_1 < (a0.length:Int))))))],[]⟩) ?_ ?_
    ·refine .rn 2 ?_
     refine .cv (VOk.lenL (e:=e_api_Entry) (xs:=a0) rfl Tryz.underlying22 rfl) rfl rfl ?_
     refine .rn 1 ?_
     exact .dn
    refine Ok.test (b:=(decide (x5_1 < (a0.length:Int)))) rfl (fun hb9 => ?_) (fun hb9 => ?_)
    ·replace H:=ifT H hb9
     refine Ok.skip ?_
     refine Ok.seq ?_
     refine Ok.block ?_
     refine Ok.seq ?_
     obtain⟨c4,H⟩:=assertE H
     obtain⟨c5,H⟩:=assertE H
     obtain⟨t6,h7,H⟩:=bindE H
     refine .dA [(0,(L 4 e_api_Entry a0)),(1,(L 4 e_api_Entry a1)),(5,(.v (.int .i64 x5_1))),(26,(.v (.bool (!t6))))] [] [[],[],[0,1],[2],[],[],[4,5],[6],[3,7],[8]] mixed ?_ ?_
     ·refine .tn 2 ?_
      refine .tc (VOk.g (VOk.indexL (sz:=4) (e:=e_api_Entry) (xs:=a0) (i:=x5_1) rfl Tryz.underlying22 sz45 rfl rfl c4)) ?_
      refine .tn 3 ?_
      refine .tc (VOk.g (VOk.indexL (sz:=4) (e:=e_api_Entry) (xs:=a1) (i:=x5_1) rfl Tryz.underlying22 sz45 rfl rfl c5)) ?_
      refine .tn 1 ?_
      refine .tc (GOk.call rfl rfl cl15 rfl (watchbillref16_One.ok (fun {a0 a1 r} h => @ih _ _ _ h) h7) rfl) ?_
      refine .tn 1 ?_
      exact .dn
     refine Ok.test (b:=(!t6)) rfl (fun hb8 => ?_) (fun hb8 => ?_)
     ·replace H:=ifT H hb8
      refine Ok.seq ?_
      refine .rg [(4,(.v (.bool false)))] [] ?_
      refine Ok.ret ?_
      obtain rfl:=Option.some.inj H
      exact⟨.inl rfl,⟨_,(.cons (.tmp rfl) .nil),rfl⟩,trivial⟩
     ·replace H:=ifF H hb8
      refine Ok.skip ?_
      refine .rg [(0,(L 4 e_api_Entry a0)),(1,(L 4 e_api_Entry a1)),(5,(.v (.int .i64 (IntKind.i64.wrap (x5_1 + 1)))))] [] ?_
      exact⟨m3,Nat.lt_succ_self m3,(IntKind.i64.wrap (x5_1 + 1)),rfl,H⟩
    ·replace H:=ifF H hb9
     refine Ok.exit ?_
     refine Ok.seq ?_
     refine .rg [(4,(.v (.bool true)))] [] ?_
     refine Ok.ret ?_
     obtain rfl:=Option.some.inj H
     exact⟨.inl rfl,⟨_,(.cons (.tmp rfl) .nil),rfl⟩,trivial⟩
def watchbillref16_One_1 (k:Nat) (a0:T_api_Entry) (a1:T_api_Entry):Option Bool:=(((if ((((a0.Kind == a1.Kind) && (a0.URI == a1.URI)) && (a0.Name == a1.Name)) == true)=true then watchbillref16_Same k a0.List_ a1.List_ else some default)).bind fun (t6:Bool) => some ((((a0.Kind == a1.Kind) && (a0.URI == a1.URI)) && (a0.Name == a1.Name)) && t6))
theorem watchbillref16_One_1.ok {k:Nat} {a0:T_api_Entry} {a1:T_api_Entry} {r:Bool} (H:watchbillref16_One_1 k a0 a1=some r):Vx.Fn Tryz.prog 15 [(.agg (e_api_Entry a0)),(.agg (e_api_Entry a1))] [] (.v (.bool r)) []:=by
 unfold watchbillref16_One_1 at H
 refine Vx.Fn.of_okR Tryz.func15 rfl (Nat.le_of_ble_eq_true rfl) ?_
 refine Ok.seq ?_
 refine Ok.region (σ':=⟨[(2,(.bref 2 0)),(3,(.bref 3 0))],[(2,(.box .ex (c_api_Entry a0))),(3,(.box .ex (c_api_Entry a1)))]⟩) ?_ ?_
 ·refine OpsOk.cut1 0 (.agg [(.v (.int .i64 a0.Kind)),(S a0.URI),(S a0.Name),(L 4 e_api_Entry a0.List_)]) (DLe.of_eq (congrArg D.agg (e_api_Entry_c _).symm)) ?_
  refine .rn 1 ?_
  refine OpsOk.cut1 1 (.agg [(.v (.int .i64 a1.Kind)),(S a1.URI),(S a1.Name),(L 4 e_api_Entry a1.List_)]) (DLe.of_eq (congrArg D.agg (e_api_Entry_c _).symm)) ?_
  refine .rn 2 ?_
  exact .dn
 refine Ok.seq ?_
 obtain⟨t6,h7,H⟩:=bindE H
 refine Ok.region (σ':=⟨[(4,(.v (.bool ((((a0.Kind == a1.Kind) && (a0.URI == a1.URI)) && (a0.Name == a1.Name)) && t6))))],[]⟩) ?_ ?_
 ·refine .rn 6 ?_
  refine OpsOk.consI rfl rfl rfl (.one rfl) rfl (fun hw1 => (VOk.g (VOk.to (VOk.fieldB rfl Tryz.underlying45 rfl sz9 rfl rfl) rfl))) ?_
  refine OpsOk.consI rfl rfl rfl (.one rfl) rfl (fun hw1 => (GOk.fr (fr':=[(11,(.bref 2 1))]) ⟨DLe.of_eq (cT hw1).symm,trivial⟩ (VOk.g (VOk.loadB (d:=(S a0.URI)) rfl Tryz.underlying9 rfl rfl rfl rfl)))) ?_
  refine OpsOk.consI rfl rfl rfl (.one rfl) rfl (fun hw1 => (VOk.g (VOk.to (VOk.fieldB rfl Tryz.underlying45 rfl sz9 rfl rfl) rfl))) ?_
  refine OpsOk.consI rfl rfl rfl (.one rfl) rfl (fun hw1 => (GOk.fr (fr':=[(13,(.bref 3 1))]) ⟨DLe.of_eq (cT hw1).symm,trivial⟩ (VOk.g (VOk.loadB (d:=(S a1.URI)) rfl Tryz.underlying9 rfl rfl rfl rfl)))) ?_
  refine OpsOk.consI rfl rfl rfl (.one rfl) rfl (fun hw1 => (GOk.fr (fr':=[(12,(S a0.URI)),(14,(S a1.URI))]) ⟨DLe.of_eq (cT hw1).symm,DLe.of_eq (cT hw1).symm,trivial⟩ (VOk.g (VOk.strOp (op:=.eql) (a:=a0.URI) (b:=a1.URI) rfl rfl rfl rfl)))) ?_
  refine .cv (VOk.to (VOk.pickI (b:=(a0.Kind == a1.Kind)) (p:=(a0.URI == a1.URI)) (q:=false) rfl rfl (fun hp2 => (cT (t_beq hp2))) (fun hp2 => rfl)) (pickAnd (a0.Kind == a1.Kind) (a0.URI == a1.URI))) rfl rfl ?_
  refine .rn 1 ?_
  refine OpsOk.consI rfl rfl rfl (.one rfl) rfl (fun hw3 => (VOk.g (VOk.to (VOk.fieldB rfl Tryz.underlying45 rfl sz9 rfl rfl) rfl))) ?_
  refine OpsOk.consI rfl rfl rfl (.one rfl) rfl (fun hw3 => (GOk.fr (fr':=[(18,(.bref 2 2))]) ⟨DLe.of_eq (cT hw3).symm,trivial⟩ (VOk.g (VOk.loadB (d:=(S a0.Name)) rfl Tryz.underlying9 rfl rfl rfl rfl)))) ?_
  refine OpsOk.consI rfl rfl rfl (.one rfl) rfl (fun hw3 => (VOk.g (VOk.to (VOk.fieldB rfl Tryz.underlying45 rfl sz9 rfl rfl) rfl))) ?_
  refine OpsOk.consI rfl rfl rfl (.one rfl) rfl (fun hw3 => (GOk.fr (fr':=[(20,(.bref 3 2))]) ⟨DLe.of_eq (cT hw3).symm,trivial⟩ (VOk.g (VOk.loadB (d:=(S a1.Name)) rfl Tryz.underlying9 rfl rfl rfl rfl)))) ?_
  refine OpsOk.consI rfl rfl rfl (.one rfl) rfl (fun hw3 => (GOk.fr (fr':=[(19,(S a0.Name)),(21,(S a1.Name))]) ⟨DLe.of_eq (cT hw3).symm,DLe.of_eq (cT hw3).symm,trivial⟩ (VOk.g (VOk.strOp (op:=.eql) (a:=a0.Name) (b:=a1.Name) rfl rfl rfl rfl)))) ?_
  refine .cv (VOk.to (VOk.pickI (b:=((a0.Kind == a1.Kind) && (a0.URI == a1.URI))) (p:=(a0.Name == a1.Name)) (q:=false) rfl rfl (fun hp4 => (cT (t_beq hp4))) (fun hp4 => rfl)) (pickAnd ((a0.Kind == a1.Kind) && (a0.URI == a1.URI)) (a0.Name == a1.Name))) rfl rfl ?_
  refine .rn 1 ?_
  refine OpsOk.consI rfl rfl rfl (.one rfl) rfl (fun hw5 => (VOk.g (VOk.to (VOk.fieldB rfl Tryz.underlying45 rfl sz22 rfl rfl) rfl))) ?_
  refine OpsOk.consI rfl rfl rfl (.one rfl) rfl (fun hw5 => (GOk.fr (fr':=[(25,(.bref 2 3))]) ⟨DLe.of_eq (cT hw5).symm,trivial⟩ (VOk.g (VOk.loadB (d:=(L 4 e_api_Entry a0.List_)) rfl Tryz.underlying22 rfl rfl rfl rfl)))) ?_
  refine OpsOk.consI rfl rfl rfl (.one rfl) rfl (fun hw5 => (VOk.g (VOk.to (VOk.fieldB rfl Tryz.underlying45 rfl sz22 rfl rfl) rfl))) ?_
  refine OpsOk.consI rfl rfl rfl (.one rfl) rfl (fun hw5 => (GOk.fr (fr':=[(27,(.bref 3 3))]) ⟨DLe.of_eq (cT hw5).symm,trivial⟩ (VOk.g (VOk.loadB (d:=(L 4 e_api_Entry a1.List_)) rfl Tryz.underlying22 rfl rfl rfl rfl)))) ?_
  refine OpsOk.consI rfl rfl rfl (.one rfl) rfl (fun hw5 => (GOk.fr (fr':=[(26,(L 4 e_api_Entry a0.List_)),(28,(L 4 e_api_Entry a1.List_))]) ⟨DLe.of_eq (cT hw5).symm,DLe.of_eq (cT hw5).symm,trivial⟩ (GOk.call rfl rfl cl12 rfl (watchbillref16_Same.ok (ifT h7 hw5)) rfl))) ?_
  refine .cv (VOk.to (VOk.pickI (b:=(((a0.Kind == a1.Kind) && (a0.URI == a1.URI)) && (a0.Name == a1.Name))) (p:=t6) (q:=false) rfl rfl (fun hp8 => (cT (t_beq hp8))) (fun hp8 => rfl)) (pickAnd (((a0.Kind == a1.Kind) && (a0.URI == a1.URI)) && (a0.Name == a1.Name)) t6)) rfl rfl ?_
  refine .rn 1 ?_
  exact .dn
 refine Ok.ret ?_
 obtain rfl:=Option.some.inj H
 exact⟨.inl rfl,⟨_,(.cons (.tmp rfl) .nil),rfl⟩,trivial⟩
end Go.Proofs.YtapbckofgcmgmaaGreatDoor.Sh
