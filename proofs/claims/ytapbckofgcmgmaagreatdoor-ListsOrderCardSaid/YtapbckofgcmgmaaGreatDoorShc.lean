import Derived.Test.YtapbckofgcmgmaaGreatDoorProg
import Derived.Test.YtapbckofgcmgmaaGreatDoorShb
namespace Go.Proofs.YtapbckofgcmgmaaGreatDoor.Sh
open Go Go.RowKit Go.Proofs.Vx
set_option linter.unusedVariables false
set_option maxRecDepth 100000
set_option maxHeartbeats 1000000
def qname_Attrs.l0 (k:Nat) (a0:List T_api_Bind) (a1:List T_api_Raw):Nat→List (T_api_Name × Int)→List T_api_Attr→Int→Option ((List T_api_Attr) × Int)
 | 0,_,_,_ => none
 | m7 + 1,y12_3,y6_2,x15_1 => (if (decide (x15_1 < (a1.length:Int)))=true then (if (0:Int) ≤ x15_1 ∧ x15_1 < (a1.length:Int) then ((qname_Resolve k a0 ((rd a1 x15_1).Name) true).bind fun (t9:T_api_Name × Int) => (if (t9.2 != 0)=true then none else (if (decide ((lkm keq24 0 (ptm (enm keq24 0 y12_3 t9.1) (ixm keq24 y12_3 t9.1) (IntKind.i64.wrap ((lkm keq24 0 y12_3 t9.1) + 1))) t9.1) > 1))=true then none else (if (y6_2.length + ([(T_api_Attr.mk (T_api_Name.mk t9.1.Space t9.1.Local) ((rd a1 x15_1).Value))]:List T_api_Attr).length) * 48 ≤ 140737488355328 then qname_Attrs.l0 k a0 a1 m7 (ptm (enm keq24 0 y12_3 t9.1) (ixm keq24 y12_3 t9.1) (IntKind.i64.wrap ((lkm keq24 0 y12_3 t9.1) + 1))) (y6_2 ++ ([(T_api_Attr.mk (T_api_Name.mk t9.1.Space t9.1.Local) ((rd a1 x15_1).Value))]:List T_api_Attr)) (IntKind.i64.wrap (x15_1 + 1)) else none)))) else none) else some (y6_2,0))
def qname_Attrs (k:Nat) (a0:List T_api_Bind) (a1:List T_api_Raw):Option ((List T_api_Attr) × Int):=qname_Attrs.l0 k a0 a1 k ([]:List (T_api_Name × Int)) ([]:List T_api_Attr) 0
theorem qname_Attrs.ok {k:Nat} {a0:List T_api_Bind} {a1:List T_api_Raw} {r:(List T_api_Attr) × Int} (H:qname_Attrs k a0 a1=some r):Vx.Fn Tryz.prog 75 [(L 2 e_api_Bind a0),(L 2 e_api_Raw a1)] [] (.tup [(L 3 e_api_Attr r.1),(.v (.int .i64 r.2))]) []:=by
 unfold qname_Attrs at H
 refine Vx.Fn.of_okR Tryz.func75 rfl (Nat.le_of_ble_eq_true rfl) ?_
 refine Ok.seq ?_
 refine .rg [(0,(L 2 e_api_Bind a0)),(1,(L 2 e_api_Raw a1))] [] ?_
 refine Ok.seq ?_
 refine Ok.region (σ':=⟨[(0,(L 2 e_api_Bind a0)),(1,(L 2 e_api_Raw a1)),(6,(.sref 6))],[(6,(.rows true 41 3 (([]:List T_api_Attr).map e_api_Attr)))]⟩) ?_ ?_
 ·refine OpsOk.cons rfl (.nilT 6 41 3 (.inl rfl) rfl rfl) ?_
  exact .dn
 refine Ok.seq ?_
 refine Ok.region (σ':=⟨[(0,(L 2 e_api_Bind a0)),(1,(L 2 e_api_Raw a1)),(6,(.sref 6)),(7,(.mref 12))],[(6,(.rows true 41 3 (([]:List T_api_Attr).map e_api_Attr))),(12,(.map (List.map (fun p => ((fun a => D.agg (e_api_Name a)) p.1,D.v ((Value.int .i64) p.2))) ([]:List (T_api_Name × Int)))))]⟩) ?_ ?_
 ·refine OpsOk.cons rfl (OpOk.mapNew 12 rfl rfl) ?_
  refine .rn 1 ?_
  exact .dn
 refine Ok.seq ?_
 refine Ok.seq ?_
 refine Ok.region (σ':=⟨[(0,(L 2 e_api_Bind a0)),(6,(.sref 6)),(7,(.mref 12)),(13,(L 2 e_api_Raw a1)),(14,(.v (.int .i64 (a1.length:Int)))),(15,(.v (.int .i64 0)))],[(6,(.rows true 41 3 (([]:List T_api_Attr).map e_api_Attr))),(12,(.map (List.map (fun p => ((fun a => D.agg (e_api_Name a)) p.1,D.v ((Value.int .i64) p.2))) ([]:List (T_api_Name × Int)))))]⟩) ?_ ?_
 ·refine .rn 1 ?_
  refine .cv (VOk.lenL (e:=e_api_Raw) (xs:=a1) rfl Tryz.underlying76 rfl) rfl rfl ?_
  refine .rn 1 ?_
  exact .dn
 refine Ok.block ?_
 refine Ok.loop (fun m7 σ => ∃ (y12_3:List (T_api_Name × Int)) (y6_2:List T_api_Attr) (x15_1:Int),σ=⟨[(0,(L 2 e_api_Bind a0)),(6,(.sref 6)),(7,(.mref 12)),(13,(L 2 e_api_Raw a1)),(14,(.v (.int .i64 (a1.length:Int)))),(15,(.v (.int .i64 x15_1)))],[(6,(.rows true 41 3 (y6_2.map e_api_Attr))),(12,(.map (List.map (fun p => ((fun a => D.agg (e_api_Name a)) p.1,D.v ((Value.int .i64) p.2))) y12_3)))]⟩ ∧ qname_Attrs.l0 k a0 a1 m7 y12_3 y6_2 x15_1=some r) k ⟨([]:List (T_api_Name × Int)),([]:List T_api_Attr),0,rfl,H⟩ ?_
 rintro m7 σ ⟨y12_3,y6_2,x15_1,rfl,H⟩
 cases m7 with
 | zero => exact absurd H (by simp [qname_Attrs.l0])
 | succ m7 =>
  unfold qname_Attrs.l0 at H
  refine Ok.seq ?_
  refine .rg [(0,(L 2 e_api_Bind a0)),(6,(.sref 6)),(7,(.mref 12)),(13,(L 2 e_api_Raw a1)),(14,(.v (.int .i64 (a1.length:Int)))),(15,(.v (.int .i64 x15_1))),(16,(.v (.bool (decide (x15_1 < (a1.length:Int))))))] [(6,(.rows true 41 3 (y6_2.map e_api_Attr))),(12,(.map (List.map (fun p => ((fun a => D.agg (e_api_Name a)) p.1,D.v ((Value.int .i64) p.2))) y12_3)))] ?_
  refine Ok.seq ?_
  refine Ok.test (b:=(decide (x15_1 < (a1.length:Int)))) rfl (fun hb14 => ?_) (fun hb14 => ?_)
  ·replace H:=ifT H hb14
   refine Ok.skip ?_
   refine Ok.seq ?_
   refine Ok.block ?_
   refine Ok.seq ?_
   obtain⟨c8,H⟩:=assertE H
   refine Ok.region (σ':=⟨[(0,(L 2 e_api_Bind a0)),(6,(.sref 6)),(7,(.mref 12)),(9,(.bref 9 0)),(13,(L 2 e_api_Raw a1)),(14,(.v (.int .i64 (a1.length:Int)))),(15,(.v (.int .i64 x15_1)))],[(6,(.rows true 41 3 (y6_2.map e_api_Attr))),(9,(.box .ex [(S ((rd a1 x15_1).Name)),(S ((rd a1 x15_1).Value))])),(12,(.map (List.map (fun p => ((fun a => D.agg (e_api_Name a)) p.1,D.v ((Value.int .i64) p.2))) y12_3)))]⟩) ?_ ?_
   ·refine .cv (VOk.indexL (sz:=2) (e:=e_api_Raw) (xs:=a1) (i:=x15_1) rfl Tryz.underlying76 sz132 rfl rfl c8) rfl rfl ?_
    refine .rn 3 ?_
    exact .dn
   refine Ok.seq ?_
   obtain⟨t9,h10,H⟩:=bindE H
   refine Ok.region (σ':=⟨[(0,(L 2 e_api_Bind a0)),(6,(.sref 6)),(7,(.mref 12)),(9,(.bref 9 0)),(10,(.bref 10 0)),(11,(.v (.int .i64 t9.2))),(13,(L 2 e_api_Raw a1)),(14,(.v (.int .i64 (a1.length:Int)))),(15,(.v (.int .i64 x15_1)))],[(6,(.rows true 41 3 (y6_2.map e_api_Attr))),(9,(.box .ex [(S ((rd a1 x15_1).Name)),(S ((rd a1 x15_1).Value))])),(10,(.box .ex [(S t9.1.Space),(S t9.1.Local)])),(12,(.map (List.map (fun p => ((fun a => D.agg (e_api_Name a)) p.1,D.v ((Value.int .i64) p.2))) y12_3)))]⟩) ?_ ?_
   ·refine .rn 3 ?_
    refine .cg (GOk.call rfl rfl cl74 rfl (qname_Resolve.ok h10) rfl) rfl rfl ?_
    refine .rn 6 ?_
    exact .dn
   refine Ok.seq ?_
   refine Ok.seq ?_
   refine .rg [(0,(L 2 e_api_Bind a0)),(6,(.sref 6)),(7,(.mref 12)),(9,(.bref 9 0)),(10,(.bref 10 0)),(13,(L 2 e_api_Raw a1)),(14,(.v (.int .i64 (a1.length:Int)))),(15,(.v (.int .i64 x15_1))),(27,(.v (.bool (t9.2 != 0))))] [(6,(.rows true 41 3 (y6_2.map e_api_Attr))),(9,(.box .ex [(S ((rd a1 x15_1).Name)),(S ((rd a1 x15_1).Value))])),(10,(.box .ex [(S t9.1.Space),(S t9.1.Local)])),(12,(.map (List.map (fun p => ((fun a => D.agg (e_api_Name a)) p.1,D.v ((Value.int .i64) p.2))) y12_3)))] ?_
   refine Ok.test (b:=(t9.2 != 0)) rfl (fun hb13 => ?_) (fun hb13 => ?_)
   ·replace H:=ifT H hb13
    cases H
   ·replace H:=ifF H hb13
    refine Ok.skip ?_
    refine Ok.seq ?_
    refine Ok.seq ?_
    refine Ok.le (σ':=⟨[(0,(L 2 e_api_Bind a0)),(6,(.sref 6)),(7,(.mref 12)),(9,(.bref 9 0)),(10,(.bref 10 0)),(13,(L 2 e_api_Raw a1)),(14,(.v (.int .i64 (a1.length:Int)))),(15,(.v (.int .i64 x15_1)))],[(6,(.rows true 41 3 (y6_2.map e_api_Attr))),(9,(.box .ex [(S ((rd a1 x15_1).Name)),(S ((rd a1 x15_1).Value))])),(10,(.box .ex [(S t9.1.Space),(S t9.1.Local)])),(12,(.map (List.map (fun p => ((fun a => D.agg (e_api_Name a)) p.1,D.v ((Value.int .i64) p.2))) y12_3)))]⟩) (.rf rfl rfl) ?_
    refine Ok.drawL (σ':=⟨[(0,(L 2 e_api_Bind a0)),(6,(.sref 6)),(7,(.mref 12)),(9,(.bref 9 0)),(10,(.bref 10 0)),(13,(L 2 e_api_Raw a1)),(14,(.v (.int .i64 (a1.length:Int)))),(15,(.v (.int .i64 x15_1)))],[(6,(.rows true 41 3 (y6_2.map e_api_Attr))),(9,(.box .ex [(S ((rd a1 x15_1).Name)),(S ((rd a1 x15_1).Value))])),(10,(.box .ex [(S t9.1.Space),(S t9.1.Local)])),(12,(.map (List.map (fun p => ((fun a => D.agg (e_api_Name a)) p.1,D.v ((Value.int .i64) p.2))) (ptm (enm keq24 0 y12_3 t9.1) (ixm keq24 y12_3 t9.1) (IntKind.i64.wrap ((lkm keq24 0 y12_3 t9.1) + 1))))))]⟩) [⟨true,[(7,(.mref 12))],[(12,(.map (List.map (fun p => ((fun a => D.agg (e_api_Name a)) p.1,D.v ((Value.int .i64) p.2))) y12_3)))],(.mref 12),[],false,[]⟩,⟨true,[(10,(.bref 10 0))],[(10,(.box .ex [(S t9.1.Space),(S t9.1.Local)]))],(.agg (e_api_Name t9.1)),[],false,[]⟩,⟨true,[(29,(.mref 12)),(30,(.agg (e_api_Name t9.1)))],[],(.v (.int .i64 (lkm keq24 0 y12_3 t9.1))),[],false,[(12,[(.map (List.map (fun p => ((fun a => D.agg (e_api_Name a)) p.1,D.v ((Value.int .i64) p.2))) y12_3)),(.map (List.map (fun p => ((fun a => D.agg (e_api_Name a)) p.1,D.v ((Value.int .i64) p.2))) (enm keq24 0 y12_3 t9.1)))])]⟩,⟨true,[(31,(.v (.int .i64 (lkm keq24 0 y12_3 t9.1))))],[],(.v (.int .i64 (IntKind.i64.wrap ((lkm keq24 0 y12_3 t9.1) + 1)))),[],false,[]⟩,⟨true,[(29,(.mref 12)),(30,(.agg (e_api_Name t9.1)))],[(12,(.map (List.map (fun p => ((fun a => D.agg (e_api_Name a)) p.1,D.v ((Value.int .i64) p.2))) y12_3)))],(.tup [(.v (.int .i64 (lkm keq24 0 y12_3 t9.1))),(.v (.int .i64 (((ixm keq24 y12_3 t9.1):Nat):Int)))]),[(12,(.map (List.map (fun p => ((fun a => D.agg (e_api_Name a)) p.1,D.v ((Value.int .i64) p.2))) (enm keq24 0 y12_3 t9.1))))],false,[]⟩,⟨true,[(33,(.tup [(.v (.int .i64 (lkm keq24 0 y12_3 t9.1))),(.v (.int .i64 (((ixm keq24 y12_3 t9.1):Nat):Int)))]))],[],(.v (.int .i64 (((ixm keq24 y12_3 t9.1):Nat):Int))),[],false,[]⟩,⟨true,[(29,(.mref 12)),(34,(.v (.int .i64 (((ixm keq24 y12_3 t9.1):Nat):Int)))),(32,(.v (.int .i64 (IntKind.i64.wrap ((lkm keq24 0 y12_3 t9.1) + 1)))))],[(12,(.map (List.map (fun p => ((fun a => D.agg (e_api_Name a)) p.1,D.v ((Value.int .i64) p.2))) (enm keq24 0 y12_3 t9.1))))],.junk,[(12,(.map (List.map (fun p => ((fun a => D.agg (e_api_Name a)) p.1,D.v ((Value.int .i64) p.2))) (ptm (enm keq24 0 y12_3 t9.1) (ixm keq24 y12_3 t9.1) (IntKind.i64.wrap ((lkm keq24 0 y12_3 t9.1) + 1))))))],false,[]⟩] [[],[],[0,1],[2],[0,1],[4],[0,2,3,4,5]] mixed (by kernel_rfl) (loose_of ⟨trivial,⟨trivial,⟨⟨.head _,⟨.inl rfl,⟨.inl rfl,⟨.inr (.inr (.inr rfl)),⟨.inl rfl,⟨.inr (.inl ⟨_,rfl,.tail _ (.head _)⟩),⟨.inl rfl,⟨.inr (.inr (.inl rfl)),trivial⟩⟩⟩⟩⟩⟩⟩⟩,⟨trivial,⟨trivial,⟨trivial,⟨trivial,trivial⟩⟩⟩⟩⟩⟩⟩) ?_ ?_
    ·refine TxtE2.cons ⟨.same _,trivial⟩ ⟨rfl,trivial⟩ (It2.val rfl rfl (fun T hT => (VOk.g (VOk.mv (d:=(.mref 12)) rfl rfl)))) ?_
     refine TxtE2.cons ⟨.same _,trivial⟩ ⟨rfl,trivial⟩ (It2.val rfl rfl (fun T hT => (VOk.g (VOk.to (d':=(.agg (e_api_Name t9.1))) (.loadBAgg rfl Tryz.underlying24 rfl sz24 rfl hT.1 rfl) rfl)))) ?_
     refine TxtE2.cons ⟨.same _,.same _,trivial⟩ trivial (It2.mapGetL (vv:=(Value.int .i64)) (m:=y12_3) (k:=t9.1) 0 rfl rfl Tryz.underlying147 kt24 zo3 rfl rfl rfl) ?_
     refine TxtE2.cons ⟨.same _,trivial⟩ trivial (It2.val rfl rfl (fun T hT => (VOk.g (VOk.arith (op:=.add) (k:=.i64) (a:=(lkm keq24 0 y12_3 t9.1)) (b:=1) rfl rfl rfl rfl)))) ?_
     refine TxtE2.cons ⟨.same _,.same _,trivial⟩ ⟨rfl,trivial⟩ (It2.mapEnt (vv:=(Value.int .i64)) (m:=y12_3) (k:=t9.1) 0 rfl rfl Tryz.underlying147 kt24 zo3 rfl rfl rfl rfl rfl) ?_
     refine TxtE2.cons ⟨.same _,trivial⟩ trivial (It2.val rfl rfl (fun T hT => (VOk.g (VOk.extract (d:=(.v (.int .i64 (((ixm keq24 y12_3 t9.1):Nat):Int)))) rfl rfl rfl)))) ?_
     refine TxtE2.cons ⟨.same _,.same _,.same _,trivial⟩ ⟨rfl,trivial⟩ (It2.mapPut (vv:=(Value.int .i64)) (m:=(enm keq24 0 y12_3 t9.1)) (i:=(ixm keq24 y12_3 t9.1)) (v:=(IntKind.i64.wrap ((lkm keq24 0 y12_3 t9.1) + 1))) (kt:=24) rfl rfl kt24 rfl rfl rfl rfl rfl (ixm_lt 0 y12_3 t9.1) rfl) ?_
     exact .done (.rf rfl rfl)
    refine Ok.seq ?_
    refine Ok.region (σ':=⟨[(0,(L 2 e_api_Bind a0)),(6,(.sref 6)),(7,(.mref 12)),(9,(.bref 9 0)),(10,(.bref 10 0)),(13,(L 2 e_api_Raw a1)),(14,(.v (.int .i64 (a1.length:Int)))),(15,(.v (.int .i64 x15_1))),(38,(.v (.bool (decide ((lkm keq24 0 (ptm (enm keq24 0 y12_3 t9.1) (ixm keq24 y12_3 t9.1) (IntKind.i64.wrap ((lkm keq24 0 y12_3 t9.1) + 1))) t9.1) > 1)))))],[(6,(.rows true 41 3 (y6_2.map e_api_Attr))),(9,(.box .ex [(S ((rd a1 x15_1).Name)),(S ((rd a1 x15_1).Value))])),(10,(.box .ex [(S t9.1.Space),(S t9.1.Local)])),(12,(.map (List.map (fun p => ((fun a => D.agg (e_api_Name a)) p.1,D.v ((Value.int .i64) p.2))) (ptm (enm keq24 0 y12_3 t9.1) (ixm keq24 y12_3 t9.1) (IntKind.i64.wrap ((lkm keq24 0 y12_3 t9.1) + 1))))))]⟩) ?_ ?_
    ·refine .rn 2 ?_
     refine .cv (VOk.mapGet (vv:=(Value.int .i64)) (m:=(ptm (enm keq24 0 y12_3 t9.1) (ixm keq24 y12_3 t9.1) (IntKind.i64.wrap ((lkm keq24 0 y12_3 t9.1) + 1)))) (k:=t9.1) 0 rfl Tryz.underlying147 kt24 zo3 rfl rfl rfl) rfl rfl ?_
     refine .rn 1 ?_
     exact .dn
    refine Ok.test (b:=(decide ((lkm keq24 0 (ptm (enm keq24 0 y12_3 t9.1) (ixm keq24 y12_3 t9.1) (IntKind.i64.wrap ((lkm keq24 0 y12_3 t9.1) + 1))) t9.1) > 1))) rfl (fun hb12 => ?_) (fun hb12 => ?_)
    ·replace H:=ifT H hb12
     cases H
    ·replace H:=ifF H hb12
     refine Ok.skip ?_
     obtain⟨c11,H⟩:=assertE H
     refine Ok.region (σ':=⟨[(0,(L 2 e_api_Bind a0)),(6,(.sref 6)),(7,(.mref 12)),(13,(L 2 e_api_Raw a1)),(14,(.v (.int .i64 (a1.length:Int)))),(15,(.v (.int .i64 x15_1)))],[(6,(.rows true 41 3 ((y6_2 ++ ([(T_api_Attr.mk (T_api_Name.mk t9.1.Space t9.1.Local) ((rd a1 x15_1).Value))]:List T_api_Attr)).map e_api_Attr))),(12,(.map (List.map (fun p => ((fun a => D.agg (e_api_Name a)) p.1,D.v ((Value.int .i64) p.2))) (ptm (enm keq24 0 y12_3 t9.1) (ixm keq24 y12_3 t9.1) (IntKind.i64.wrap ((lkm keq24 0 y12_3 t9.1) + 1))))))]⟩) ?_ ?_
     ·refine .rn 4 ?_
      refine .cv (VOk.to (d':=(.agg (e_api_Attr (T_api_Attr.mk (T_api_Name.mk t9.1.Space t9.1.Local) ((rd a1 x15_1).Value))))) (.build [none,none,none] [(0,2),(2,1)] rfl Tryz.underlying41 (fa41 Tryz.underlying41) zo41 rfl rfl) rfl) rfl rfl ?_
      refine .cg (GOk.to (d':=(L 3 e_api_Attr ([(T_api_Attr.mk (T_api_Name.mk t9.1.Space t9.1.Local) ((rd a1 x15_1).Value))]:List T_api_Attr))) (GOk.lit rfl Tryz.underlying25 sz41 zs41 rfl rfl rfl rfl) rfl) rfl rfl ?_
      refine OpsOk.cons rfl (OpOk.appendL (e:=e_api_Attr) (xs:=y6_2) (ys:=([(T_api_Attr.mk (T_api_Name.mk t9.1.Space t9.1.Local) ((rd a1 x15_1).Value))]:List T_api_Attr)) rfl Tryz.underlying25 elt41 rfl rfl rfl c11 rfl) ?_
      refine .rn 1 ?_
      exact .dn
     refine .rg [(0,(L 2 e_api_Bind a0)),(6,(.sref 6)),(7,(.mref 12)),(13,(L 2 e_api_Raw a1)),(14,(.v (.int .i64 (a1.length:Int)))),(15,(.v (.int .i64 (IntKind.i64.wrap (x15_1 + 1)))))] [(6,(.rows true 41 3 ((y6_2 ++ ([(T_api_Attr.mk (T_api_Name.mk t9.1.Space t9.1.Local) ((rd a1 x15_1).Value))]:List T_api_Attr)).map e_api_Attr))),(12,(.map (List.map (fun p => ((fun a => D.agg (e_api_Name a)) p.1,D.v ((Value.int .i64) p.2))) (ptm (enm keq24 0 y12_3 t9.1) (ixm keq24 y12_3 t9.1) (IntKind.i64.wrap ((lkm keq24 0 y12_3 t9.1) + 1))))))] ?_
     exact⟨m7,Nat.lt_succ_self m7,(ptm (enm keq24 0 y12_3 t9.1) (ixm keq24 y12_3 t9.1) (IntKind.i64.wrap ((lkm keq24 0 y12_3 t9.1) + 1))),(y6_2 ++ ([(T_api_Attr.mk (T_api_Name.mk t9.1.Space t9.1.Local) ((rd a1 x15_1).Value))]:List T_api_Attr)),(IntKind.i64.wrap (x15_1 + 1)),rfl,H⟩
  ·replace H:=ifF H hb14
   refine Ok.exit ?_
   refine Ok.seq ?_
   refine .rg [(4,(.sref 6)),(5,(.v (.int .i64 0)))] [(6,(.rows true 41 3 (y6_2.map e_api_Attr)))] ?_
   refine Ok.frzL 6 (e:=e_api_Attr) (xs:=y6_2) rfl ?_
   refine Ok.ret ?_
   obtain rfl:=Option.some.inj H
   exact⟨.inl rfl,⟨_,(.cons (.tmp rfl) (.cons (.tmp rfl) .nil)),rfl⟩,trivial⟩
def utf_Trim.l1 (k:Nat):Nat→Str→Option Str
 | 0,_ => none
 | m12 + 1,x0_10 => (if (((!(x0_10 == ([]:Str))) == true)=true→(0:Int) ≤ (IntKind.i64.wrap ((x0_10.length:Int) - 1)) ∧ (IntKind.i64.wrap ((x0_10.length:Int) - 1)) < (x0_10.length:Int)) then (((if ((!(x0_10 == ([]:Str))) == true)=true then utf_Blank (bt x0_10 (IntKind.i64.wrap ((x0_10.length:Int) - 1))) else some default)).bind fun (t15:Bool) => (if ((!(x0_10 == ([]:Str))) && t15)=true then (if (0:Int) ≤ 0 ∧ (0:Int) ≤ (IntKind.i64.wrap ((x0_10.length:Int) - 1)) ∧ (IntKind.i64.wrap ((x0_10.length:Int) - 1)) ≤ (x0_10.length:Int) then utf_Trim.l1 k m12 (sl x0_10 0 (IntKind.i64.wrap ((x0_10.length:Int) - 1))) else none) else some x0_10)) else none)
def utf_Trim.l0 (k:Nat):Nat→Str→Option Str
 | 0,_ => none
 | m3 + 1,x0_1 => (if (((!(x0_1 == ([]:Str))) == true)=true→(0:Int) ≤ 0 ∧ 0 < (x0_1.length:Int)) then (((if ((!(x0_1 == ([]:Str))) == true)=true then utf_Blank (bt x0_1 0) else some default)).bind fun (t6:Bool) => (if ((!(x0_1 == ([]:Str))) && t6)=true then (if (0:Int) ≤ 1 ∧ (1:Int) ≤ (x0_1.length:Int) ∧ (x0_1.length:Int) ≤ (x0_1.length:Int) then utf_Trim.l0 k m3 (sl x0_1 1 (x0_1.length:Int)) else none) else utf_Trim.l1 k k x0_1)) else none)
def utf_Trim (k:Nat) (a0:Str):Option Str:=utf_Trim.l0 k k a0
theorem utf_Trim.ok {k:Nat} {a0:Str} {r:Str} (H:utf_Trim k a0=some r):Vx.Fn Tryz.prog 39 [(S a0)] [] (S r) []:=by
 unfold utf_Trim at H
 refine Vx.Fn.of_okR Tryz.func39 rfl (Nat.le_of_ble_eq_true rfl) ?_
 refine Ok.seq ?_
 refine .rg [(0,(S a0))] [] ?_
 refine Ok.seq ?_
 refine Ok.block ?_
 refine Ok.loop (fun m3 σ => ∃ (x0_1:Str),σ=⟨[(0,(S x0_1))],[]⟩ ∧ utf_Trim.l0 k m3 x0_1=some r) k ⟨a0,rfl,H⟩ ?_
 rintro m3 σ ⟨x0_1,rfl,H⟩
 cases m3 with
 | zero => exact absurd H (by simp [utf_Trim.l0])
 | succ m3 =>
  unfold utf_Trim.l0 at H
  refine Ok.seq ?_
  refine Ok.seq ?_
  obtain⟨c5,H⟩:=assertE H
  obtain⟨t6,h7,H⟩:=bindE H
  refine Ok.region (σ':=⟨[(0,(S x0_1)),(9,(.v (.bool ((!(x0_1 == ([]:Str))) && t6))))],[]⟩) ?_ ?_
  ·refine .rn 3 ?_
   refine OpsOk.consI rfl rfl rfl (.one rfl) rfl (fun hw4 => (VOk.g (VOk.mv (d:=(S x0_1)) rfl rfl))) ?_
   refine OpsOk.consI rfl rfl rfl (.one rfl) rfl (fun hw4 => (GOk.fr (fr':=[(6,(S x0_1))]) ⟨DLe.of_eq (cT hw4).symm,trivial⟩ (VOk.g (VOk.indexStr (s:=x0_1) (i:=0) rfl Tryz.underlying9 rfl rfl (c5 hw4))))) ?_
   refine OpsOk.consI rfl rfl rfl (.one rfl) rfl (fun hw4 => (GOk.fr (fr':=[(7,(.v (.int .u8 (bt x0_1 0))))]) ⟨DLe.of_eq (cT hw4).symm,trivial⟩ (GOk.call rfl rfl cl49 rfl (utf_Blank.ok (ifT h7 hw4)) rfl))) ?_
   refine .cv (VOk.to (VOk.pickI (b:=(!(x0_1 == ([]:Str)))) (p:=t6) (q:=false) rfl rfl (fun hp8 => (cT (t_beq hp8))) (fun hp8 => rfl)) (pickAnd (!(x0_1 == ([]:Str))) t6)) rfl rfl ?_
   exact .dn
  refine Ok.test (b:=((!(x0_1 == ([]:Str))) && t6)) rfl (fun hb20 => ?_) (fun hb20 => ?_)
  ·replace H:=ifT H hb20
   refine Ok.skip ?_
   refine Ok.block ?_
   obtain⟨c9,H⟩:=assertE H
   refine Ok.region (σ':=⟨[(0,(S (sl x0_1 1 (x0_1.length:Int))))],[]⟩) ?_ ?_
   ·refine .rn 1 ?_
    refine .cv (VOk.sliceStr (s:=x0_1) (l:=1) (h:=(x0_1.length:Int)) rfl Tryz.underlying9 rfl rfl rfl c9) rfl rfl ?_
    refine .rn 1 ?_
    exact .dn
   exact⟨m3,Nat.lt_succ_self m3,(sl x0_1 1 (x0_1.length:Int)),rfl,H⟩
  ·replace H:=ifF H hb20
   refine Ok.exit ?_
   refine Ok.seq ?_
   refine Ok.block ?_
   refine Ok.le (σ':=⟨[(0,(S x0_1))],[]⟩) (.rf rfl rfl) ?_
   refine Ok.loop (fun m12 σ => ∃ (x0_10:Str),σ=⟨[(0,(S x0_10))],[]⟩ ∧ utf_Trim.l1 k m12 x0_10=some r) k ⟨x0_1,rfl,H⟩ ?_
   rintro m12 σ ⟨x0_10,rfl,H⟩
   cases m12 with
   | zero => exact absurd H (by simp [utf_Trim.l1])
   | succ m12 =>
    unfold utf_Trim.l1 at H
    refine Ok.seq ?_
    refine Ok.seq ?_
    obtain⟨c14,H⟩:=assertE H
    obtain⟨t15,h16,H⟩:=bindE H
    refine Ok.region (σ':=⟨[(0,(S x0_10)),(21,(.v (.bool ((!(x0_10 == ([]:Str))) && t15))))],[]⟩) ?_ ?_
    ·refine .rn 3 ?_
     refine OpsOk.consI rfl rfl rfl (.one rfl) rfl (fun hw13 => (VOk.g (VOk.mv (d:=(S x0_10)) rfl rfl))) ?_
     refine OpsOk.consI rfl rfl rfl (.one rfl) rfl (fun hw13 => (VOk.g (VOk.mv (d:=(S x0_10)) rfl rfl))) ?_
     refine OpsOk.consI rfl rfl rfl (.one rfl) rfl (fun hw13 => (GOk.fr (fr':=[(16,(S x0_10))]) ⟨DLe.of_eq (cT hw13).symm,trivial⟩ (VOk.g (VOk.lenStr (s:=x0_10) rfl Tryz.underlying9 rfl)))) ?_
     refine OpsOk.consI rfl rfl rfl (.one rfl) rfl (fun hw13 => (GOk.fr (fr':=[(17,(.v (.int .i64 (x0_10.length:Int))))]) ⟨DLe.of_eq (cT hw13).symm,trivial⟩ (VOk.g (VOk.arith (op:=.sub) (k:=.i64) (a:=(x0_10.length:Int)) (b:=1) rfl rfl rfl rfl)))) ?_
     refine OpsOk.consI rfl rfl rfl (.one rfl) rfl (fun hw13 => (GOk.fr (fr':=[(15,(S x0_10)),(18,(.v (.int .i64 (IntKind.i64.wrap ((x0_10.length:Int) - 1)))))]) ⟨DLe.of_eq (cT hw13).symm,DLe.of_eq (cT hw13).symm,trivial⟩ (VOk.g (VOk.indexStr (s:=x0_10) (i:=(IntKind.i64.wrap ((x0_10.length:Int) - 1))) rfl Tryz.underlying9 rfl rfl (c14 hw13))))) ?_
     refine OpsOk.consI rfl rfl rfl (.one rfl) rfl (fun hw13 => (GOk.fr (fr':=[(19,(.v (.int .u8 (bt x0_10 (IntKind.i64.wrap ((x0_10.length:Int) - 1))))))]) ⟨DLe.of_eq (cT hw13).symm,trivial⟩ (GOk.call rfl rfl cl49 rfl (utf_Blank.ok (ifT h16 hw13)) rfl))) ?_
     refine .cv (VOk.to (VOk.pickI (b:=(!(x0_10 == ([]:Str)))) (p:=t15) (q:=false) rfl rfl (fun hp17 => (cT (t_beq hp17))) (fun hp17 => rfl)) (pickAnd (!(x0_10 == ([]:Str))) t15)) rfl rfl ?_
     exact .dn
    refine Ok.test (b:=((!(x0_10 == ([]:Str))) && t15)) rfl (fun hb19 => ?_) (fun hb19 => ?_)
    ·replace H:=ifT H hb19
     refine Ok.skip ?_
     refine Ok.block ?_
     obtain⟨c18,H⟩:=assertE H
     refine Ok.region (σ':=⟨[(0,(S (sl x0_10 0 (IntKind.i64.wrap ((x0_10.length:Int) - 1)))))],[]⟩) ?_ ?_
     ·refine .rn 4 ?_
      refine .cv (VOk.sliceStr (s:=x0_10) (l:=0) (h:=(IntKind.i64.wrap ((x0_10.length:Int) - 1))) rfl Tryz.underlying9 rfl rfl rfl c18) rfl rfl ?_
      refine .rn 1 ?_
      exact .dn
     exact⟨m12,Nat.lt_succ_self m12,(sl x0_10 0 (IntKind.i64.wrap ((x0_10.length:Int) - 1))),rfl,H⟩
    ·replace H:=ifF H hb19
     refine Ok.exit ?_
     refine Ok.seq ?_
     refine .rg [(2,(S x0_10))] [] ?_
     refine Ok.ret ?_
     obtain rfl:=Option.some.inj H
     exact⟨.inl rfl,⟨_,(.cons (.tmp rfl) .nil),rfl⟩,trivial⟩
def uri_Space (a0:Str):Option Str:=(if (a0 == ([114,101,115,111,117,114,99,101,45,108,105,115,116,115]:Str))=true then (if (a0 == ([114,101,115,111,117,114,99,101,45,108,105,115,116,115]:Str))=true then (if ([117,114,110,58,105,101,116,102,58,112,97,114,97,109,115,58,120,109,108,58,110,115,58]:Str).length + a0.length ≤ 9223372036854775807 then some (([117,114,110,58,105,101,116,102,58,112,97,114,97,109,115,58,120,109,108,58,110,115,58]:Str) ++ a0) else none) else some ([]:Str)) else (if (a0 == ([114,108,115,45,115,101,114,118,105,99,101,115]:Str))=true then (if (a0 == ([114,108,115,45,115,101,114,118,105,99,101,115]:Str))=true then (if ([117,114,110,58,105,101,116,102,58,112,97,114,97,109,115,58,120,109,108,58,110,115,58]:Str).length + a0.length ≤ 9223372036854775807 then some (([117,114,110,58,105,101,116,102,58,112,97,114,97,109,115,58,120,109,108,58,110,115,58]:Str) ++ a0) else none) else some ([]:Str)) else (if (a0 == ([112,114,101,115,45,114,117,108,101,115]:Str))=true then (if (a0 == ([112,114,101,115,45,114,117,108,101,115]:Str))=true then (if ([117,114,110,58,105,101,116,102,58,112,97,114,97,109,115,58,120,109,108,58,110,115,58]:Str).length + a0.length ≤ 9223372036854775807 then some (([117,114,110,58,105,101,116,102,58,112,97,114,97,109,115,58,120,109,108,58,110,115,58]:Str) ++ a0) else none) else some ([]:Str)) else (if (a0 == ([120,99,97,112,45,99,97,112,115]:Str))=true then (if ([117,114,110,58,105,101,116,102,58,112,97,114,97,109,115,58,120,109,108,58,110,115,58]:Str).length + a0.length ≤ 9223372036854775807 then some (([117,114,110,58,105,101,116,102,58,112,97,114,97,109,115,58,120,109,108,58,110,115,58]:Str) ++ a0) else none) else some ([]:Str)))))
theorem uri_Space.ok {a0:Str} {r:Str} (H:uri_Space a0=some r):Vx.Fn Tryz.prog 55 [(S a0)] [] (S r) []:=by
 unfold uri_Space at H
 refine Vx.Fn.of_okR Tryz.func55 rfl (Nat.le_of_ble_eq_true rfl) ?_
 refine Ok.seq ?_
 refine .rg [(0,(S a0))] [] ?_
 refine Ok.seq ?_
 refine Ok.seq ?_
 refine .rg [(0,(S a0)),(3,(S a0))] [] ?_
 refine Ok.block ?_
 refine Ok.seq ?_
 refine Ok.seq ?_
 refine .rg [(0,(S a0)),(3,(S a0)),(4,(.v (.bool (a0 == ([114,101,115,111,117,114,99,101,45,108,105,115,116,115]:Str)))))] [] ?_
 refine Ok.test (b:=(a0 == ([114,101,115,111,117,114,99,101,45,108,105,115,116,115]:Str))) rfl (fun hb11 => ?_) (fun hb11 => ?_)
 ·replace H:=ifT H hb11
  refine Ok.skip ?_
  refine Ok.test (b:=(a0 == ([114,101,115,111,117,114,99,101,45,108,105,115,116,115]:Str))) rfl (fun hb2 => ?_) (fun hb2 => ?_)
  ·replace H:=ifT H hb2
   refine Ok.seq ?_
   obtain⟨c1,H⟩:=assertE H
   refine Ok.region (σ':=⟨[(2,(S (([117,114,110,58,105,101,116,102,58,112,97,114,97,109,115,58,120,109,108,58,110,115,58]:Str) ++ a0)))],[]⟩) ?_ ?_
   ·refine .rn 1 ?_
    refine .cv (VOk.cat (a:=([117,114,110,58,105,101,116,102,58,112,97,114,97,109,115,58,120,109,108,58,110,115,58]:Str)) (b:=a0) rfl rfl rfl c1) rfl rfl ?_
    refine .rn 1 ?_
    exact .dn
   refine Ok.ret ?_
   obtain rfl:=Option.some.inj H
   exact⟨.inl rfl,⟨_,(.cons (.tmp rfl) .nil),rfl⟩,trivial⟩
  ·replace H:=ifF H hb2
   refine Ok.skip ?_
   refine Ok.seq ?_
   refine .rg [(2,S0)] [] ?_
   refine Ok.ret ?_
   obtain rfl:=Option.some.inj H
   exact⟨.inl rfl,⟨_,(.cons (.tmp rfl) .nil),rfl⟩,trivial⟩
 ·replace H:=ifF H hb11
  refine Ok.seq ?_
  refine .rg [(0,(S a0)),(3,(S a0)),(4,(.v (.bool (a0 == ([114,108,115,45,115,101,114,118,105,99,101,115]:Str)))))] [] ?_
  refine Ok.test (b:=(a0 == ([114,108,115,45,115,101,114,118,105,99,101,115]:Str))) rfl (fun hb10 => ?_) (fun hb10 => ?_)
  ·replace H:=ifT H hb10
   refine Ok.skip ?_
   refine Ok.test (b:=(a0 == ([114,108,115,45,115,101,114,118,105,99,101,115]:Str))) rfl (fun hb4 => ?_) (fun hb4 => ?_)
   ·replace H:=ifT H hb4
    refine Ok.seq ?_
    obtain⟨c3,H⟩:=assertE H
    refine Ok.region (σ':=⟨[(2,(S (([117,114,110,58,105,101,116,102,58,112,97,114,97,109,115,58,120,109,108,58,110,115,58]:Str) ++ a0)))],[]⟩) ?_ ?_
    ·refine .rn 1 ?_
     refine .cv (VOk.cat (a:=([117,114,110,58,105,101,116,102,58,112,97,114,97,109,115,58,120,109,108,58,110,115,58]:Str)) (b:=a0) rfl rfl rfl c3) rfl rfl ?_
     refine .rn 1 ?_
     exact .dn
    refine Ok.ret ?_
    obtain rfl:=Option.some.inj H
    exact⟨.inl rfl,⟨_,(.cons (.tmp rfl) .nil),rfl⟩,trivial⟩
   ·replace H:=ifF H hb4
    refine Ok.skip ?_
    refine Ok.seq ?_
    refine .rg [(2,S0)] [] ?_
    refine Ok.ret ?_
    obtain rfl:=Option.some.inj H
    exact⟨.inl rfl,⟨_,(.cons (.tmp rfl) .nil),rfl⟩,trivial⟩
  ·replace H:=ifF H hb10
   refine Ok.seq ?_
   refine .rg [(0,(S a0)),(3,(S a0)),(4,(.v (.bool (a0 == ([112,114,101,115,45,114,117,108,101,115]:Str)))))] [] ?_
   refine Ok.test (b:=(a0 == ([112,114,101,115,45,114,117,108,101,115]:Str))) rfl (fun hb9 => ?_) (fun hb9 => ?_)
   ·replace H:=ifT H hb9
    refine Ok.skip ?_
    refine Ok.test (b:=(a0 == ([112,114,101,115,45,114,117,108,101,115]:Str))) rfl (fun hb6 => ?_) (fun hb6 => ?_)
    ·replace H:=ifT H hb6
     refine Ok.seq ?_
     obtain⟨c5,H⟩:=assertE H
     refine Ok.region (σ':=⟨[(2,(S (([117,114,110,58,105,101,116,102,58,112,97,114,97,109,115,58,120,109,108,58,110,115,58]:Str) ++ a0)))],[]⟩) ?_ ?_
     ·refine .rn 1 ?_
      refine .cv (VOk.cat (a:=([117,114,110,58,105,101,116,102,58,112,97,114,97,109,115,58,120,109,108,58,110,115,58]:Str)) (b:=a0) rfl rfl rfl c5) rfl rfl ?_
      refine .rn 1 ?_
      exact .dn
     refine Ok.ret ?_
     obtain rfl:=Option.some.inj H
     exact⟨.inl rfl,⟨_,(.cons (.tmp rfl) .nil),rfl⟩,trivial⟩
    ·replace H:=ifF H hb6
     refine Ok.skip ?_
     refine Ok.seq ?_
     refine .rg [(2,S0)] [] ?_
     refine Ok.ret ?_
     obtain rfl:=Option.some.inj H
     exact⟨.inl rfl,⟨_,(.cons (.tmp rfl) .nil),rfl⟩,trivial⟩
   ·replace H:=ifF H hb9
    refine .rg [(0,(S a0)),(4,(.v (.bool (a0 == ([120,99,97,112,45,99,97,112,115]:Str)))))] [] ?_
    refine Ok.test (b:=(a0 == ([120,99,97,112,45,99,97,112,115]:Str))) rfl (fun hb8 => ?_) (fun hb8 => ?_)
    ·replace H:=ifT H hb8
     refine Ok.seq ?_
     obtain⟨c7,H⟩:=assertE H
     refine Ok.region (σ':=⟨[(2,(S (([117,114,110,58,105,101,116,102,58,112,97,114,97,109,115,58,120,109,108,58,110,115,58]:Str) ++ a0)))],[]⟩) ?_ ?_
     ·refine .rn 1 ?_
      refine .cv (VOk.cat (a:=([117,114,110,58,105,101,116,102,58,112,97,114,97,109,115,58,120,109,108,58,110,115,58]:Str)) (b:=a0) rfl rfl rfl c7) rfl rfl ?_
      refine .rn 1 ?_
      exact .dn
     refine Ok.ret ?_
     obtain rfl:=Option.some.inj H
     exact⟨.inl rfl,⟨_,(.cons (.tmp rfl) .nil),rfl⟩,trivial⟩
    ·replace H:=ifF H hb8
     refine Ok.skip ?_
     refine Ok.seq ?_
     refine .rg [(2,S0)] [] ?_
     refine Ok.ret ?_
     obtain rfl:=Option.some.inj H
     exact⟨.inl rfl,⟨_,(.cons (.tmp rfl) .nil),rfl⟩,trivial⟩
def lists_own (a0:Str):Option T_api_Name:=((uri_Space ([114,101,115,111,117,114,99,101,45,108,105,115,116,115]:Str)).bind fun (t1:Str) => some (T_api_Name.mk t1 a0))
theorem lists_own.ok {a0:Str} {r:T_api_Name} (H:lists_own a0=some r):Vx.Fn Tryz.prog 40 [(S a0)] [] (.agg (e_api_Name r)) []:=by
 unfold lists_own at H
 refine Vx.Fn.of_okR Tryz.func40 rfl (Nat.le_of_ble_eq_true rfl) ?_
 refine Ok.seq ?_
 refine .rg [(0,(S a0)),(2,(.bref 2 0))] [(2,(.box .ex [S0,S0]))] ?_
 refine Ok.seq ?_
 obtain⟨t1,h2,H⟩:=bindE H
 refine Ok.region (σ':=⟨[(2,(.bref 2 0))],[(2,(.box .ex [(S ((T_api_Name.mk t1 a0).Space)),(S ((T_api_Name.mk t1 a0).Local))]))]⟩) ?_ ?_
 ·refine .cg (GOk.call rfl rfl cl55 rfl (uri_Space.ok h2) rfl) rfl rfl ?_
  refine .rn 1 ?_
  refine .cv (VOk.to (d':=(.agg (e_api_Name (T_api_Name.mk t1 a0)))) (.build [none,none] [(0,1),(1,1)] rfl Tryz.underlying24 (fa24 Tryz.underlying24) zo24 rfl rfl) rfl) rfl rfl ?_
  refine .rn 1 ?_
  exact .dn
 refine Ok.ret ?_
 obtain rfl:=Option.some.inj H
 exact⟨.inl rfl,⟨_,(.cons (.cell (VOk.to (d':=(.agg (e_api_Name (T_api_Name.mk t1 a0)))) (.loadBAgg rfl Tryz.underlying24 rfl sz24 rfl rfl rfl) rfl)) .nil),rfl⟩,trivial⟩
def lists_kids.l0 (k:Nat) (a0:T_api_Node):Nat→List T_api_Node→Int→Option ((List T_api_Node) × Bool)
 | 0,_,_ => none
 | m5 + 1,y4_2,x10_1 => (if (decide (x10_1 < (a0.Kids.length:Int)))=true then (if (0:Int) ≤ x10_1 ∧ x10_1 < (a0.Kids.length:Int) then (((if ((((rd a0.Kids x10_1).Kind) == 2) == true)=true then utf_Trim k ((rd a0.Kids x10_1).Text) else some default)).bind fun (t8:Str) => (if ((((rd a0.Kids x10_1).Kind) == 2) && (!(t8 == ([]:Str))))=true then some (([]:List T_api_Node),false) else (((if ((((rd a0.Kids x10_1).Kind) == 1) == true)=true then lists_own ([]:Str) else some default)).bind fun (t12:T_api_Name) => (if ((((rd a0.Kids x10_1).Kind) == 1) && (((rd a0.Kids x10_1).Name.Space) == t12.Space))=true then (if (y4_2.length + ([(rd a0.Kids x10_1)]:List T_api_Node).length) * 104 ≤ 140737488355328 then lists_kids.l0 k a0 m5 (y4_2 ++ ([(rd a0.Kids x10_1)]:List T_api_Node)) (IntKind.i64.wrap (x10_1 + 1)) else none) else lists_kids.l0 k a0 m5 y4_2 (IntKind.i64.wrap (x10_1 + 1)))))) else none) else some (y4_2,true))
def lists_kids (k:Nat) (a0:T_api_Node):Option ((List T_api_Node) × Bool):=lists_kids.l0 k a0 k ([]:List T_api_Node) 0
theorem lists_kids.ok {k:Nat} {a0:T_api_Node} {r:(List T_api_Node) × Bool} (H:lists_kids k a0=some r):Vx.Fn Tryz.prog 24 [(.agg (e_api_Node a0))] [] (.tup [(L 6 e_api_Node r.1),(.v (.bool r.2))]) []:=by
 unfold lists_kids at H
 refine Vx.Fn.of_okR Tryz.func24 rfl (Nat.le_of_ble_eq_true rfl) ?_
 refine Ok.seq ?_
 refine Ok.region (σ':=⟨[(1,(.bref 1 0))],[(1,(bxN a0))]⟩) ?_ ?_
 ·refine OpsOk.cut1 0 (.agg (c_api_Node a0)) (DLe.of_eq (congrArg D.agg (e_api_Node_c _).symm)) ?_
  refine .rn 3 ?_
  exact .dn
 refine Ok.seq ?_
 refine Ok.region (σ':=⟨[(1,(.bref 1 0)),(4,(.sref 4))],[(1,(bxN a0)),(4,(.rows true 28 6 (([]:List T_api_Node).map e_api_Node)))]⟩) ?_ ?_
 ·refine OpsOk.cons rfl (.nilT 4 28 6 (.inl rfl) rfl rfl) ?_
  exact .dn
 refine Ok.seq ?_
 refine Ok.seq ?_
 refine Ok.region (σ':=⟨[(4,(.sref 4)),(8,(L 6 e_api_Node a0.Kids)),(9,(.v (.int .i64 (a0.Kids.length:Int)))),(10,(.v (.int .i64 0)))],[(4,(.rows true 28 6 (([]:List T_api_Node).map e_api_Node)))]⟩) ?_ ?_
 ·refine .rn 2 ?_
  refine .cv (VOk.lenL (e:=e_api_Node) (xs:=a0.Kids) rfl Tryz.underlying26 rfl) rfl rfl ?_
  refine .rn 1 ?_
  exact .dn
 refine Ok.block ?_
 refine Ok.loop (fun m5 σ => ∃ (y4_2:List T_api_Node) (x10_1:Int),σ=⟨[(4,(.sref 4)),(8,(L 6 e_api_Node a0.Kids)),(9,(.v (.int .i64 (a0.Kids.length:Int)))),(10,(.v (.int .i64 x10_1)))],[(4,(.rows true 28 6 (y4_2.map e_api_Node)))]⟩ ∧ lists_kids.l0 k a0 m5 y4_2 x10_1=some r) k ⟨([]:List T_api_Node),0,rfl,H⟩ ?_
 rintro m5 σ ⟨y4_2,x10_1,rfl,H⟩
 cases m5 with
 | zero => exact absurd H (by simp [lists_kids.l0])
 | succ m5 =>
  unfold lists_kids.l0 at H
  refine Ok.seq ?_
  refine .rg [(4,(.sref 4)),(8,(L 6 e_api_Node a0.Kids)),(9,(.v (.int .i64 (a0.Kids.length:Int)))),(10,(.v (.int .i64 x10_1))),(11,(.v (.bool (decide (x10_1 < (a0.Kids.length:Int))))))] [(4,(.rows true 28 6 (y4_2.map e_api_Node)))] ?_
  refine Ok.seq ?_
  refine Ok.test (b:=(decide (x10_1 < (a0.Kids.length:Int)))) rfl (fun hb18 => ?_) (fun hb18 => ?_)
  ·replace H:=ifT H hb18
   refine Ok.skip ?_
   refine Ok.seq ?_
   refine Ok.block ?_
   refine Ok.seq ?_
   obtain⟨c6,H⟩:=assertE H
   refine Ok.region (σ':=⟨[(4,(.sref 4)),(6,(.bref 6 0)),(8,(L 6 e_api_Node a0.Kids)),(9,(.v (.int .i64 (a0.Kids.length:Int)))),(10,(.v (.int .i64 x10_1)))],[(4,(.rows true 28 6 (y4_2.map e_api_Node))),(6,(.box .ex (c_api_Node (rd a0.Kids x10_1))))]⟩) ?_ ?_
   ·refine .cv (VOk.indexL (sz:=6) (e:=e_api_Node) (xs:=a0.Kids) (i:=x10_1) rfl Tryz.underlying26 sz28 rfl rfl c6) rfl rfl ?_
    refine .rn 2 ?_
    refine OpsOk.cut1 13 (.agg [(.v (.int .i64 ((rd a0.Kids x10_1).Kind))),(S ((rd a0.Kids x10_1).Name.Space)),(S ((rd a0.Kids x10_1).Name.Local)),(L 3 e_api_Attr ((rd a0.Kids x10_1).Attrs)),(L 6 e_api_Node ((rd a0.Kids x10_1).Kids)),(S ((rd a0.Kids x10_1).Text))]) (DLe.of_eq (congrArg D.agg (e_api_Node_c _).symm)) ?_
    refine .rn 1 ?_
    exact .dn
   refine Ok.block ?_
   refine Ok.seq ?_
   obtain⟨t8,h9,H⟩:=bindE H
   refine Ok.region (σ':=⟨[(4,(.sref 4)),(6,(.bref 6 0)),(8,(L 6 e_api_Node a0.Kids)),(9,(.v (.int .i64 (a0.Kids.length:Int)))),(10,(.v (.int .i64 x10_1))),(14,(.v (.bool ((((rd a0.Kids x10_1).Kind) == 2) && (!(t8 == ([]:Str)))))))],[(4,(.rows true 28 6 (y4_2.map e_api_Node))),(6,(.box .ex (c_api_Node (rd a0.Kids x10_1))))]⟩) ?_ ?_
   ·refine .rn 4 ?_
    refine OpsOk.consI rfl rfl rfl (.one rfl) rfl (fun hw7 => (VOk.g (VOk.to (VOk.fieldB rfl Tryz.underlying28 rfl sz9 rfl rfl) rfl))) ?_
    refine OpsOk.consI rfl rfl rfl (.one rfl) rfl (fun hw7 => (GOk.fr (fr':=[(19,(.bref 6 5))]) ⟨DLe.of_eq (cT hw7).symm,trivial⟩ (VOk.g (VOk.loadB (d:=(S ((rd a0.Kids x10_1).Text))) rfl Tryz.underlying9 rfl rfl rfl rfl)))) ?_
    refine OpsOk.consI rfl rfl rfl (.one rfl) rfl (fun hw7 => (GOk.fr (fr':=[(20,(S ((rd a0.Kids x10_1).Text)))]) ⟨DLe.of_eq (cT hw7).symm,trivial⟩ (GOk.call rfl rfl cl39 rfl (utf_Trim.ok (ifT h9 hw7)) rfl))) ?_
    refine OpsOk.consI rfl rfl rfl (.one rfl) rfl (fun hw7 => (GOk.fr (fr':=[(21,(S t8))]) ⟨DLe.of_eq (cT hw7).symm,trivial⟩ (VOk.g (VOk.strOp (op:=.neq) (a:=t8) (b:=([]:Str)) rfl rfl rfl rfl)))) ?_
    refine .cv (VOk.to (VOk.pickI (b:=(((rd a0.Kids x10_1).Kind) == 2)) (p:=(!(t8 == ([]:Str)))) (q:=false) rfl rfl (fun hp10 => (cT (t_beq hp10))) (fun hp10 => rfl)) (pickAnd (((rd a0.Kids x10_1).Kind) == 2) (!(t8 == ([]:Str))))) rfl rfl ?_
    refine .rn 1 ?_
    exact .dn
   refine Ok.test (b:=((((rd a0.Kids x10_1).Kind) == 2) && (!(t8 == ([]:Str))))) rfl (fun hb17 => ?_) (fun hb17 => ?_)
   ·replace H:=ifT H hb17
    refine Ok.seq ?_
    refine .rg [(2,(.v (.slice none 0 0))),(3,(.v (.bool false)))] [] ?_
    refine Ok.le (σ':=⟨[(2,(L 6 e_api_Node ([]:List T_api_Node))),(3,(.v (.bool false)))],[]⟩) (.mk ⟨.nil _,.same _,trivial⟩ trivial) ?_
    refine Ok.ret ?_
    obtain rfl:=Option.some.inj H
    exact⟨.inl rfl,⟨_,(.cons (.tmp rfl) (.cons (.tmp rfl) .nil)),rfl⟩,trivial⟩
   ·replace H:=ifF H hb17
    refine Ok.seq ?_
    obtain⟨t12,h13,H⟩:=bindE H
    refine Ok.drawE (σ':=⟨[(4,(.sref 4)),(6,(.bref 6 0)),(8,(L 6 e_api_Node a0.Kids)),(9,(.v (.int .i64 (a0.Kids.length:Int)))),(10,(.v (.int .i64 x10_1))),(24,(.v (.bool ((((rd a0.Kids x10_1).Kind) == 1) && (((rd a0.Kids x10_1).Name.Space) == t12.Space)))))],[(4,(.rows true 28 6 (y4_2.map e_api_Node))),(6,(.box .ex (c_api_Node (rd a0.Kids x10_1))))]⟩) [⟨true,[(6,(.bref 6 0))],(.bref 6 0)⟩,⟨true,[(25,(.bref 6 0))],(.v (.int .i64 ((rd a0.Kids x10_1).Kind)))⟩,⟨true,[(26,(.v (.int .i64 ((rd a0.Kids x10_1).Kind))))],(.v (.bool (((rd a0.Kids x10_1).Kind) == 1)))⟩,⟨true,[(27,(.v (.bool (((rd a0.Kids x10_1).Kind) == 1))))],(.v (.bool (((rd a0.Kids x10_1).Kind) == 1)))⟩,It.I ((((rd a0.Kids x10_1).Kind) == 1) == true) [(6,(.bref 6 0)),(28,(.v (.bool (((rd a0.Kids x10_1).Kind) == 1))))] (.bref 6 1),It.I ((((rd a0.Kids x10_1).Kind) == 1) == true) [(29,(bif ((((rd a0.Kids x10_1).Kind) == 1) == true) then (.bref 6 1) else .v undef)),(28,(.v (.bool (((rd a0.Kids x10_1).Kind) == 1))))] (.bref 6 1),It.I ((((rd a0.Kids x10_1).Kind) == 1) == true) [(30,(bif ((((rd a0.Kids x10_1).Kind) == 1) == true) then (.bref 6 1) else .v undef)),(28,(.v (.bool (((rd a0.Kids x10_1).Kind) == 1))))] (S ((rd a0.Kids x10_1).Name.Space)),It.I ((((rd a0.Kids x10_1).Kind) == 1) == true) [(28,(.v (.bool (((rd a0.Kids x10_1).Kind) == 1))))] (.agg (e_api_Name t12)),It.I ((((rd a0.Kids x10_1).Kind) == 1) == true) [(32,(bif ((((rd a0.Kids x10_1).Kind) == 1) == true) then (.agg (e_api_Name t12)) else .v undef)),(28,(.v (.bool (((rd a0.Kids x10_1).Kind) == 1))))] (S t12.Space),It.I ((((rd a0.Kids x10_1).Kind) == 1) == true) [(31,(bif ((((rd a0.Kids x10_1).Kind) == 1) == true) then (S ((rd a0.Kids x10_1).Name.Space)) else .v undef)),(33,(bif ((((rd a0.Kids x10_1).Kind) == 1) == true) then (S t12.Space) else .v undef)),(28,(.v (.bool (((rd a0.Kids x10_1).Kind) == 1))))] (.v (.bool (((rd a0.Kids x10_1).Name.Space) == t12.Space))),⟨true,[(28,(.v (.bool (((rd a0.Kids x10_1).Kind) == 1)))),(34,(bif ((((rd a0.Kids x10_1).Kind) == 1) == true) then (.v (.bool (((rd a0.Kids x10_1).Name.Space) == t12.Space))) else .v undef))],(.v (.bool ((((rd a0.Kids x10_1).Kind) == 1) && (((rd a0.Kids x10_1).Name.Space) == t12.Space))))⟩,⟨true,[(35,(.v (.bool ((((rd a0.Kids x10_1).Kind) == 1) && (((rd a0.Kids x10_1).Name.Space) == t12.Space)))))],(.v (.bool ((((rd a0.Kids x10_1).Kind) == 1) && (((rd a0.Kids x10_1).Name.Space) == t12.Space))))⟩] [[],[0],[1],[2],[3],[3,4],[3,5],[3],[3,7],[3,6,8],[3,9],[10]] mixed (by kernel_rfl) ?_ ?_
    ·refine TxtE.cons rfl ⟨.same _,trivial⟩ rfl (VOk.g (VOk.to (VOk.fieldB rfl Tryz.underlying28 rfl sz3 rfl rfl) rfl)) ?_
     refine TxtE.cons rfl ⟨.same _,trivial⟩ rfl (VOk.g (VOk.loadB (d:=(.v (.int .i64 ((rd a0.Kids x10_1).Kind)))) rfl Tryz.underlying3 rfl rfl rfl rfl)) ?_
     refine TxtE.cons rfl ⟨.same _,trivial⟩ rfl (VOk.g (VOk.arith (op:=.eql) (k:=.i64) (a:=(rd a0.Kids x10_1).Kind) (b:=1) rfl rfl rfl rfl)) ?_
     refine TxtE.cons rfl ⟨.same _,trivial⟩ rfl (VOk.g (VOk.mv (d:=(.v (.bool (((rd a0.Kids x10_1).Kind) == 1)))) rfl rfl)) ?_
     refine TxtE.consI rfl ⟨.same _,.same _,trivial⟩ rfl rfl (.one rfl) (fun hw11 => (VOk.g (VOk.to (VOk.fieldB rfl Tryz.underlying28 rfl sz24 rfl rfl) rfl))) ?_
     refine TxtE.consI rfl ⟨.same _,.same _,trivial⟩ rfl rfl (.one rfl) (fun hw11 => (GOk.fr (fr':=[(29,(.bref 6 1))]) ⟨DLe.of_eq (cT hw11).symm,trivial⟩ (VOk.g (VOk.to (VOk.fieldB rfl Tryz.underlying24 rfl sz9 rfl rfl) rfl)))) ?_
     refine TxtE.consI rfl ⟨.same _,.same _,trivial⟩ rfl rfl (.one rfl) (fun hw11 => (GOk.fr (fr':=[(30,(.bref 6 1))]) ⟨DLe.of_eq (cT hw11).symm,trivial⟩ (VOk.g (VOk.loadB (d:=(S ((rd a0.Kids x10_1).Name.Space))) rfl Tryz.underlying9 rfl rfl rfl rfl)))) ?_
     refine TxtE.consI rfl ⟨.same _,trivial⟩ rfl rfl (.one rfl) (fun hw11 => (GOk.call rfl rfl cl40 rfl (lists_own.ok (ifT h13 hw11)) rfl)) ?_
     refine TxtE.consI rfl ⟨.same _,.same _,trivial⟩ rfl rfl (.one rfl) (fun hw11 => (GOk.fr (fr':=[(32,(.agg (e_api_Name t12)))]) ⟨DLe.of_eq (cT hw11).symm,trivial⟩ (VOk.g (VOk.field (d:=(S t12.Space)) rfl Tryz.underlying24 rfl Tryz.underlying9 rfl rfl rfl)))) ?_
     refine TxtE.consI rfl ⟨.same _,.same _,.same _,trivial⟩ rfl rfl (.one rfl) (fun hw11 => (GOk.fr (fr':=[(31,(S ((rd a0.Kids x10_1).Name.Space))),(33,(S t12.Space))]) ⟨DLe.of_eq (cT hw11).symm,DLe.of_eq (cT hw11).symm,trivial⟩ (VOk.g (VOk.strOp (op:=.eql) (a:=(rd a0.Kids x10_1).Name.Space) (b:=t12.Space) rfl rfl rfl rfl)))) ?_
     refine TxtE.cons rfl ⟨.same _,.same _,trivial⟩ rfl (VOk.g (VOk.to (VOk.pickI (b:=(((rd a0.Kids x10_1).Kind) == 1)) (p:=(((rd a0.Kids x10_1).Name.Space) == t12.Space)) (q:=false) rfl rfl (fun hp14 => (cT (t_beq hp14))) (fun hp14 => rfl)) (pickAnd (((rd a0.Kids x10_1).Kind) == 1) (((rd a0.Kids x10_1).Name.Space) == t12.Space)))) ?_
     refine TxtE.cons rfl ⟨.same _,trivial⟩ rfl (VOk.g (VOk.asg (d:=(.v (.bool ((((rd a0.Kids x10_1).Kind) == 1) && (((rd a0.Kids x10_1).Name.Space) == t12.Space))))) rfl rfl)) ?_
     exact .done (.rf rfl rfl)
    refine Ok.test (b:=((((rd a0.Kids x10_1).Kind) == 1) && (((rd a0.Kids x10_1).Name.Space) == t12.Space))) rfl (fun hb16 => ?_) (fun hb16 => ?_)
    ·replace H:=ifT H hb16
     obtain⟨c15,H⟩:=assertE H
     refine Ok.region (σ':=⟨[(4,(.sref 4)),(8,(L 6 e_api_Node a0.Kids)),(9,(.v (.int .i64 (a0.Kids.length:Int)))),(10,(.v (.int .i64 x10_1)))],[(4,(.rows true 28 6 ((y4_2 ++ ([(rd a0.Kids x10_1)]:List T_api_Node)).map e_api_Node)))]⟩) ?_ ?_
     ·refine .rn 1 ?_
      refine .cv (VOk.to (d':=(.agg (e_api_Node (rd a0.Kids x10_1)))) (.loadBAgg rfl Tryz.underlying28 rfl sz28 rfl rfl rfl) (congrArg D.agg (e_api_Node_c (rd a0.Kids x10_1)).symm)) rfl rfl ?_
      refine .cg (GOk.to (d':=(L 6 e_api_Node ([(rd a0.Kids x10_1)]:List T_api_Node))) (GOk.lit rfl Tryz.underlying26 sz28 zs28 rfl rfl rfl rfl) rfl) rfl rfl ?_
      refine OpsOk.cons rfl (OpOk.appendL (e:=e_api_Node) (xs:=y4_2) (ys:=([(rd a0.Kids x10_1)]:List T_api_Node)) rfl Tryz.underlying26 elt28 rfl rfl rfl c15 rfl) ?_
      refine .rn 1 ?_
      exact .dn
     refine .rg [(4,(.sref 4)),(8,(L 6 e_api_Node a0.Kids)),(9,(.v (.int .i64 (a0.Kids.length:Int)))),(10,(.v (.int .i64 (IntKind.i64.wrap (x10_1 + 1)))))] [(4,(.rows true 28 6 ((y4_2 ++ ([(rd a0.Kids x10_1)]:List T_api_Node)).map e_api_Node)))] ?_
     exact⟨m5,Nat.lt_succ_self m5,(y4_2 ++ ([(rd a0.Kids x10_1)]:List T_api_Node)),(IntKind.i64.wrap (x10_1 + 1)),rfl,H⟩
    ·replace H:=ifF H hb16
     refine Ok.skip ?_
     refine .rg [(4,(.sref 4)),(8,(L 6 e_api_Node a0.Kids)),(9,(.v (.int .i64 (a0.Kids.length:Int)))),(10,(.v (.int .i64 (IntKind.i64.wrap (x10_1 + 1)))))] [(4,(.rows true 28 6 (y4_2.map e_api_Node)))] ?_
     exact⟨m5,Nat.lt_succ_self m5,y4_2,(IntKind.i64.wrap (x10_1 + 1)),rfl,H⟩
  ·replace H:=ifF H hb18
   refine Ok.exit ?_
   refine Ok.seq ?_
   refine .rg [(2,(.sref 4)),(3,(.v (.bool true)))] [(4,(.rows true 28 6 (y4_2.map e_api_Node)))] ?_
   refine Ok.frzL 4 (e:=e_api_Node) (xs:=y4_2) rfl ?_
   refine Ok.ret ?_
   obtain rfl:=Option.some.inj H
   exact⟨.inl rfl,⟨_,(.cons (.tmp rfl) (.cons (.tmp rfl) .nil)),rfl⟩,trivial⟩
def lists_is (a0:T_api_Node) (a1:Str):Option Bool:=(((if ((a0.Kind == 1) == true)=true then lists_own a1 else some default)).bind fun (t2:T_api_Name) => some ((a0.Kind == 1) && (a0.Name.Space == t2.Space && (a0.Name.Local == t2.Local && true))))
theorem lists_is.ok {a0:T_api_Node} {a1:Str} {r:Bool} (H:lists_is a0 a1=some r):Vx.Fn Tryz.prog 25 [(.agg (e_api_Node a0)),(S a1)] [] (.v (.bool r)) []:=by
 unfold lists_is at H
 refine Vx.Fn.of_okR Tryz.func25 rfl (Nat.le_of_ble_eq_true rfl) ?_
 refine Ok.seq ?_
 refine Ok.region (σ':=⟨[(1,(S a1)),(2,(.bref 2 0))],[(2,(bxN a0))]⟩) ?_ ?_
 ·refine OpsOk.cut1 0 (.agg (c_api_Node a0)) (DLe.of_eq (congrArg D.agg (e_api_Node_c _).symm)) ?_
  refine .rn 2 ?_
  exact .dn
 refine Ok.seq ?_
 obtain⟨t2,h3,H⟩:=bindE H
 refine Ok.drawE (σ':=⟨[(4,(.v (.bool ((a0.Kind == 1) && (a0.Name.Space == t2.Space && (a0.Name.Local == t2.Local && true))))))],[]⟩) [⟨true,[(2,(.bref 2 0))],(.bref 2 0)⟩,⟨true,[(5,(.bref 2 0))],(.v (.int .i64 a0.Kind))⟩,⟨true,[(6,(.v (.int .i64 a0.Kind)))],(.v (.bool (a0.Kind == 1)))⟩,⟨true,[(7,(.v (.bool (a0.Kind == 1))))],(.v (.bool (a0.Kind == 1)))⟩,It.I ((a0.Kind == 1) == true) [(2,(.bref 2 0)),(8,(.v (.bool (a0.Kind == 1))))] (.bref 2 1),It.I ((a0.Kind == 1) == true) [(9,(bif ((a0.Kind == 1) == true) then (.bref 2 1) else .v undef)),(8,(.v (.bool (a0.Kind == 1))))] (.agg (e_api_Name a0.Name)),It.I ((a0.Kind == 1) == true) [(1,(S a1)),(8,(.v (.bool (a0.Kind == 1))))] (S a1),It.I ((a0.Kind == 1) == true) [(11,(bif ((a0.Kind == 1) == true) then (S a1) else .v undef)),(8,(.v (.bool (a0.Kind == 1))))] (.agg (e_api_Name t2)),It.I ((a0.Kind == 1) == true) [(10,(bif ((a0.Kind == 1) == true) then (.agg (e_api_Name a0.Name)) else .v undef)),(12,(bif ((a0.Kind == 1) == true) then (.agg (e_api_Name t2)) else .v undef)),(8,(.v (.bool (a0.Kind == 1))))] (.v (.bool (a0.Name.Space == t2.Space && (a0.Name.Local == t2.Local && true)))),⟨true,[(8,(.v (.bool (a0.Kind == 1)))),(13,(bif ((a0.Kind == 1) == true) then (.v (.bool (a0.Name.Space == t2.Space && (a0.Name.Local == t2.Local && true)))) else .v undef))],(.v (.bool ((a0.Kind == 1) && (a0.Name.Space == t2.Space && (a0.Name.Local == t2.Local && true)))))⟩,⟨true,[(14,(.v (.bool ((a0.Kind == 1) && (a0.Name.Space == t2.Space && (a0.Name.Local == t2.Local && true))))))],(.v (.bool ((a0.Kind == 1) && (a0.Name.Space == t2.Space && (a0.Name.Local == t2.Local && true)))))⟩] [[],[0],[1],[2],[3],[3,4],[3],[3,6],[3,5,7],[3,8],[9]] mixed (by kernel_rfl) ?_ ?_
 ·refine TxtE.cons rfl ⟨.same _,trivial⟩ rfl (VOk.g (VOk.to (VOk.fieldB rfl Tryz.underlying28 rfl sz3 rfl rfl) rfl)) ?_
  refine TxtE.cons rfl ⟨.same _,trivial⟩ rfl (VOk.g (VOk.loadB (d:=(.v (.int .i64 a0.Kind))) rfl Tryz.underlying3 rfl rfl rfl rfl)) ?_
  refine TxtE.cons rfl ⟨.same _,trivial⟩ rfl (VOk.g (VOk.arith (op:=.eql) (k:=.i64) (a:=a0.Kind) (b:=1) rfl rfl rfl rfl)) ?_
  refine TxtE.cons rfl ⟨.same _,trivial⟩ rfl (VOk.g (VOk.mv (d:=(.v (.bool (a0.Kind == 1)))) rfl rfl)) ?_
  refine TxtE.consI rfl ⟨.same _,.same _,trivial⟩ rfl rfl (.one rfl) (fun hw1 => (VOk.g (VOk.to (VOk.fieldB rfl Tryz.underlying28 rfl sz24 rfl rfl) rfl))) ?_
  refine TxtE.consI rfl ⟨.same _,.same _,trivial⟩ rfl rfl (.one rfl) (fun hw1 => (GOk.fr (fr':=[(9,(.bref 2 1))]) ⟨DLe.of_eq (cT hw1).symm,trivial⟩ (VOk.g (VOk.to (d':=(.agg (e_api_Name a0.Name))) (.loadBAgg rfl Tryz.underlying24 rfl sz24 rfl rfl rfl) rfl)))) ?_
  refine TxtE.consI rfl ⟨.same _,.same _,trivial⟩ rfl rfl (.one rfl) (fun hw1 => (VOk.g (VOk.mv (d:=(S a1)) rfl rfl))) ?_
  refine TxtE.consI rfl ⟨.same _,.same _,trivial⟩ rfl rfl (.one rfl) (fun hw1 => (GOk.fr (fr':=[(11,(S a1))]) ⟨DLe.of_eq (cT hw1).symm,trivial⟩ (GOk.call rfl rfl cl40 rfl (lists_own.ok (ifT h3 hw1)) rfl))) ?_
  refine TxtE.consI rfl ⟨.same _,.same _,.same _,trivial⟩ rfl rfl (.one rfl) (fun hw1 => (GOk.fr (fr':=[(10,(.agg (e_api_Name a0.Name))),(12,(.agg (e_api_Name t2)))]) ⟨DLe.of_eq (cT hw1).symm,DLe.of_eq (cT hw1).symm,trivial⟩ (VOk.g (VOk.eqS' (op:=.eql) (d:=(.v (.bool (a0.Name.Space == t2.Space && (a0.Name.Local == t2.Local && true))))) rfl (.inl rfl) (eqt24 9998) ag24 eg24 rfl rfl rfl rfl)))) ?_
  refine TxtE.cons rfl ⟨.same _,.same _,trivial⟩ rfl (VOk.g (VOk.to (VOk.pickI (b:=(a0.Kind == 1)) (p:=(a0.Name.Space == t2.Space && (a0.Name.Local == t2.Local && true))) (q:=false) rfl rfl (fun hp4 => (cT (t_beq hp4))) (fun hp4 => rfl)) (pickAnd (a0.Kind == 1) (a0.Name.Space == t2.Space && (a0.Name.Local == t2.Local && true))))) ?_
  refine TxtE.cons rfl ⟨.same _,trivial⟩ rfl (VOk.g (VOk.asg (d:=(.v (.bool ((a0.Kind == 1) && (a0.Name.Space == t2.Space && (a0.Name.Local == t2.Local && true)))))) rfl rfl)) ?_
  exact .done (.rf rfl rfl)
 refine Ok.ret ?_
 obtain rfl:=Option.some.inj H
 exact⟨.inl rfl,⟨_,(.cons (.tmp rfl) .nil),rfl⟩,trivial⟩
def tree_Get.l0 (k:Nat) (a0:T_api_Node):Nat→Str→Str→Int→Option (Str × Bool)
 | 0,_,_,_ => none
 | m7 + 1,y3_0_2,y3_1_3,x11_1 => (if (decide (x11_1 < (a0.Attrs.length:Int)))=true then (if (0:Int) ≤ x11_1 ∧ x11_1 < (a0.Attrs.length:Int) then (if (((rd a0.Attrs x11_1).Name).Space == (T_api_Name.mk y3_0_2 y3_1_3).Space && (((rd a0.Attrs x11_1).Name).Local == (T_api_Name.mk y3_0_2 y3_1_3).Local && true))=true then some ((rd a0.Attrs x11_1).Value,true) else tree_Get.l0 k a0 m7 y3_0_2 y3_1_3 (IntKind.i64.wrap (x11_1 + 1))) else none) else some (([]:Str),false))
def tree_Get (k:Nat) (a0:T_api_Node) (a1:T_api_Name):Option (Str × Bool):=tree_Get.l0 k a0 k a1.Space a1.Local 0
theorem tree_Get.ok {k:Nat} {a0:T_api_Node} {a1:T_api_Name} {r:Str × Bool} (H:tree_Get k a0 a1=some r):Vx.Fn Tryz.prog 41 [(.agg (e_api_Node a0)),(.agg (e_api_Name a1))] [] (.tup [(S r.1),(.v (.bool r.2))]) []:=by
 unfold tree_Get at H
 refine Vx.Fn.of_okR Tryz.func41 rfl (Nat.le_of_ble_eq_true rfl) ?_
 refine Ok.seq ?_
 refine Ok.region (σ':=⟨[(2,(.bref 2 0)),(3,(.bref 3 0))],[(2,(bxN a0)),(3,(.box .ex [(S a1.Space),(S a1.Local)]))]⟩) ?_ ?_
 ·refine OpsOk.cut1 0 (.agg (c_api_Node a0)) (DLe.of_eq (congrArg D.agg (e_api_Node_c _).symm)) ?_
  refine .rn 4 ?_
  exact .dn
 refine Ok.seq ?_
 refine Ok.seq ?_
 refine Ok.region (σ':=⟨[(3,(.bref 3 0)),(9,(L 3 e_api_Attr a0.Attrs)),(10,(.v (.int .i64 (a0.Attrs.length:Int)))),(11,(.v (.int .i64 0)))],[(3,(.box .ex [(S a1.Space),(S a1.Local)]))]⟩) ?_ ?_
 ·refine .rn 2 ?_
  refine .cv (VOk.lenL (e:=e_api_Attr) (xs:=a0.Attrs) rfl Tryz.underlying25 rfl) rfl rfl ?_
  refine .rn 1 ?_
  exact .dn
 refine Ok.block ?_
 refine Ok.loop (fun m7 σ => ∃ (y3_0_2:Str) (y3_1_3:Str) (x11_1:Int),σ=⟨[(3,(.bref 3 0)),(9,(L 3 e_api_Attr a0.Attrs)),(10,(.v (.int .i64 (a0.Attrs.length:Int)))),(11,(.v (.int .i64 x11_1)))],[(3,(.box .ex [(S y3_0_2),(S y3_1_3)]))]⟩ ∧ tree_Get.l0 k a0 m7 y3_0_2 y3_1_3 x11_1=some r) k ⟨a1.Space,a1.Local,0,rfl,H⟩ ?_
 rintro m7 σ ⟨y3_0_2,y3_1_3,x11_1,rfl,H⟩
 cases m7 with
 | zero => exact absurd H (by simp [tree_Get.l0])
 | succ m7 =>
  unfold tree_Get.l0 at H
  refine Ok.seq ?_
  refine .rg [(3,(.bref 3 0)),(9,(L 3 e_api_Attr a0.Attrs)),(10,(.v (.int .i64 (a0.Attrs.length:Int)))),(11,(.v (.int .i64 x11_1))),(12,(.v (.bool (decide (x11_1 < (a0.Attrs.length:Int))))))] [(3,(.box .ex [(S y3_0_2),(S y3_1_3)]))] ?_
  refine Ok.seq ?_
  refine Ok.test (b:=(decide (x11_1 < (a0.Attrs.length:Int)))) rfl (fun hb10 => ?_) (fun hb10 => ?_)
  ·replace H:=ifT H hb10
   refine Ok.skip ?_
   refine Ok.seq ?_
   refine Ok.block ?_
   refine Ok.seq ?_
   obtain⟨c8,H⟩:=assertE H
   refine Ok.region (σ':=⟨[(3,(.bref 3 0)),(7,(.bref 7 0)),(9,(L 3 e_api_Attr a0.Attrs)),(10,(.v (.int .i64 (a0.Attrs.length:Int)))),(11,(.v (.int .i64 x11_1)))],[(3,(.box .ex [(S y3_0_2),(S y3_1_3)])),(7,(.box .ex (c_api_Attr (rd a0.Attrs x11_1))))]⟩) ?_ ?_
   ·refine .cv (VOk.indexL (sz:=3) (e:=e_api_Attr) (xs:=a0.Attrs) (i:=x11_1) rfl Tryz.underlying25 sz41 rfl rfl c8) rfl rfl ?_
    refine .rn 3 ?_
    exact .dn
   refine Ok.seq ?_
   refine Ok.region (σ':=⟨[(3,(.bref 3 0)),(7,(.bref 7 0)),(9,(L 3 e_api_Attr a0.Attrs)),(10,(.v (.int .i64 (a0.Attrs.length:Int)))),(11,(.v (.int .i64 x11_1))),(18,(.v (.bool (((rd a0.Attrs x11_1).Name).Space == (T_api_Name.mk y3_0_2 y3_1_3).Space && (((rd a0.Attrs x11_1).Name).Local == (T_api_Name.mk y3_0_2 y3_1_3).Local && true)))))],[(3,(.box .ex [(S y3_0_2),(S y3_1_3)])),(7,(.box .ex (c_api_Attr (rd a0.Attrs x11_1))))]⟩) ?_ ?_
   ·refine .rn 3 ?_
    refine .cv (VOk.eqS' (op:=.eql) (d:=(.v (.bool (((rd a0.Attrs x11_1).Name).Space == (T_api_Name.mk y3_0_2 y3_1_3).Space && (((rd a0.Attrs x11_1).Name).Local == (T_api_Name.mk y3_0_2 y3_1_3).Local && true))))) rfl (.inl rfl) (eqt24 9998) ag24 eg24 rfl rfl rfl rfl) rfl rfl ?_
    exact .dn
   refine Ok.test (b:=(((rd a0.Attrs x11_1).Name).Space == (T_api_Name.mk y3_0_2 y3_1_3).Space && (((rd a0.Attrs x11_1).Name).Local == (T_api_Name.mk y3_0_2 y3_1_3).Local && true))) rfl (fun hb9 => ?_) (fun hb9 => ?_)
   ·replace H:=ifT H hb9
    refine Ok.seq ?_
    refine .rg [(4,(S ((rd a0.Attrs x11_1).Value))),(5,(.v (.bool true)))] [] ?_
    refine Ok.ret ?_
    obtain rfl:=Option.some.inj H
    exact⟨.inl rfl,⟨_,(.cons (.tmp rfl) (.cons (.tmp rfl) .nil)),rfl⟩,trivial⟩
   ·replace H:=ifF H hb9
    refine Ok.skip ?_
    refine .rg [(3,(.bref 3 0)),(9,(L 3 e_api_Attr a0.Attrs)),(10,(.v (.int .i64 (a0.Attrs.length:Int)))),(11,(.v (.int .i64 (IntKind.i64.wrap (x11_1 + 1)))))] [(3,(.box .ex [(S y3_0_2),(S y3_1_3)]))] ?_
    exact⟨m7,Nat.lt_succ_self m7,y3_0_2,y3_1_3,(IntKind.i64.wrap (x11_1 + 1)),rfl,H⟩
  ·replace H:=ifF H hb10
   refine Ok.exit ?_
   refine Ok.seq ?_
   refine .rg [(4,S0),(5,(.v (.bool false)))] [] ?_
   refine Ok.ret ?_
   obtain rfl:=Option.some.inj H
   exact⟨.inl rfl,⟨_,(.cons (.tmp rfl) (.cons (.tmp rfl) .nil)),rfl⟩,trivial⟩
def tree_Value.l0 (k:Nat) (a0:T_api_Node):Nat→Int→Str→Option Str
 | 0,_,_ => none
 | m5 + 1,x14_2,x3_1 => (if (decide (x14_2 < (a0.Kids.length:Int)))=true then (if (0:Int) ≤ x14_2 ∧ x14_2 < (a0.Kids.length:Int) then (if (((rd a0.Kids x14_2).Kind) == 2)=true then (if x3_1.length + ((rd a0.Kids x14_2).Text).length ≤ 9223372036854775807 then tree_Value.l0 k a0 m5 (IntKind.i64.wrap (x14_2 + 1)) (x3_1 ++ ((rd a0.Kids x14_2).Text)) else none) else tree_Value.l0 k a0 m5 (IntKind.i64.wrap (x14_2 + 1)) x3_1) else none) else some x3_1)
def tree_Value (k:Nat) (a0:T_api_Node):Option Str:=(if (a0.Kind == 2)=true then some a0.Text else tree_Value.l0 k a0 k 0 ([]:Str))
theorem tree_Value.ok {k:Nat} {a0:T_api_Node} {r:Str} (H:tree_Value k a0=some r):Vx.Fn Tryz.prog 56 [(.agg (e_api_Node a0))] [] (S r) []:=by
 unfold tree_Value at H
 refine Vx.Fn.of_okR Tryz.func56 rfl (Nat.le_of_ble_eq_true rfl) ?_
 refine Ok.seq ?_
 refine Ok.region (σ':=⟨[(1,(.bref 1 0))],[(1,(bxN a0))]⟩) ?_ ?_
 ·refine OpsOk.cut1 0 (.agg (c_api_Node a0)) (DLe.of_eq (congrArg D.agg (e_api_Node_c _).symm)) ?_
  refine .rn 2 ?_
  exact .dn
 refine Ok.seq ?_
 refine Ok.seq ?_
 refine .rg [(1,(.bref 1 0)),(8,(.v (.bool (a0.Kind == 2))))] [(1,(bxN a0))] ?_
 refine Ok.test (b:=(a0.Kind == 2)) rfl (fun hb10 => ?_) (fun hb10 => ?_)
 ·replace H:=ifT H hb10
  refine Ok.seq ?_
  refine .rg [(2,(S a0.Text))] [] ?_
  refine Ok.ret ?_
  obtain rfl:=Option.some.inj H
  exact⟨.inl rfl,⟨_,(.cons (.tmp rfl) .nil),rfl⟩,trivial⟩
 ·replace H:=ifF H hb10
  refine Ok.skip ?_
  refine Ok.seq ?_
  refine .rg [(1,(.bref 1 0)),(3,S0)] [(1,(bxN a0))] ?_
  refine Ok.seq ?_
  refine Ok.seq ?_
  refine Ok.region (σ':=⟨[(3,S0),(12,(L 6 e_api_Node a0.Kids)),(13,(.v (.int .i64 (a0.Kids.length:Int)))),(14,(.v (.int .i64 0)))],[]⟩) ?_ ?_
  ·refine .rn 2 ?_
   refine .cv (VOk.lenL (e:=e_api_Node) (xs:=a0.Kids) rfl Tryz.underlying26 rfl) rfl rfl ?_
   refine .rn 1 ?_
   exact .dn
  refine Ok.block ?_
  refine Ok.loop (fun m5 σ => ∃ (x14_2:Int) (x3_1:Str),σ=⟨[(3,(S x3_1)),(12,(L 6 e_api_Node a0.Kids)),(13,(.v (.int .i64 (a0.Kids.length:Int)))),(14,(.v (.int .i64 x14_2)))],[]⟩ ∧ tree_Value.l0 k a0 m5 x14_2 x3_1=some r) k ⟨0,([]:Str),rfl,H⟩ ?_
  rintro m5 σ ⟨x14_2,x3_1,rfl,H⟩
  cases m5 with
  | zero => exact absurd H (by simp [tree_Value.l0])
  | succ m5 =>
   unfold tree_Value.l0 at H
   refine Ok.seq ?_
   refine .rg [(3,(S x3_1)),(12,(L 6 e_api_Node a0.Kids)),(13,(.v (.int .i64 (a0.Kids.length:Int)))),(14,(.v (.int .i64 x14_2))),(15,(.v (.bool (decide (x14_2 < (a0.Kids.length:Int))))))] [] ?_
   refine Ok.seq ?_
   refine Ok.test (b:=(decide (x14_2 < (a0.Kids.length:Int)))) rfl (fun hb9 => ?_) (fun hb9 => ?_)
   ·replace H:=ifT H hb9
    refine Ok.skip ?_
    refine Ok.seq ?_
    refine Ok.block ?_
    refine Ok.seq ?_
    obtain⟨c6,H⟩:=assertE H
    refine Ok.region (σ':=⟨[(3,(S x3_1)),(5,(.bref 5 0)),(12,(L 6 e_api_Node a0.Kids)),(13,(.v (.int .i64 (a0.Kids.length:Int)))),(14,(.v (.int .i64 x14_2)))],[(5,(.box .ex (c_api_Node (rd a0.Kids x14_2))))]⟩) ?_ ?_
    ·refine .cv (VOk.indexL (sz:=6) (e:=e_api_Node) (xs:=a0.Kids) (i:=x14_2) rfl Tryz.underlying26 sz28 rfl rfl c6) rfl rfl ?_
     refine .rn 2 ?_
     refine OpsOk.cut1 17 (.agg [(.v (.int .i64 ((rd a0.Kids x14_2).Kind))),(S ((rd a0.Kids x14_2).Name.Space)),(S ((rd a0.Kids x14_2).Name.Local)),(L 3 e_api_Attr ((rd a0.Kids x14_2).Attrs)),(L 6 e_api_Node ((rd a0.Kids x14_2).Kids)),(S ((rd a0.Kids x14_2).Text))]) (DLe.of_eq (congrArg D.agg (e_api_Node_c _).symm)) ?_
     refine .rn 1 ?_
     exact .dn
    refine Ok.seq ?_
    refine .rg [(3,(S x3_1)),(5,(.bref 5 0)),(12,(L 6 e_api_Node a0.Kids)),(13,(.v (.int .i64 (a0.Kids.length:Int)))),(14,(.v (.int .i64 x14_2))),(20,(.v (.bool (((rd a0.Kids x14_2).Kind) == 2))))] [(5,(.box .ex (c_api_Node (rd a0.Kids x14_2))))] ?_
    refine Ok.test (b:=(((rd a0.Kids x14_2).Kind) == 2)) rfl (fun hb8 => ?_) (fun hb8 => ?_)
    ·replace H:=ifT H hb8
     obtain⟨c7,H⟩:=assertE H
     refine Ok.region (σ':=⟨[(3,(S (x3_1 ++ ((rd a0.Kids x14_2).Text)))),(12,(L 6 e_api_Node a0.Kids)),(13,(.v (.int .i64 (a0.Kids.length:Int)))),(14,(.v (.int .i64 x14_2)))],[]⟩) ?_ ?_
     ·refine .rn 3 ?_
      refine .cv (VOk.cat (a:=x3_1) (b:=(rd a0.Kids x14_2).Text) rfl rfl rfl c7) rfl rfl ?_
      refine .rn 1 ?_
      exact .dn
     refine .rg [(3,(S (x3_1 ++ ((rd a0.Kids x14_2).Text)))),(12,(L 6 e_api_Node a0.Kids)),(13,(.v (.int .i64 (a0.Kids.length:Int)))),(14,(.v (.int .i64 (IntKind.i64.wrap (x14_2 + 1)))))] [] ?_
     exact⟨m5,Nat.lt_succ_self m5,(IntKind.i64.wrap (x14_2 + 1)),(x3_1 ++ ((rd a0.Kids x14_2).Text)),rfl,H⟩
    ·replace H:=ifF H hb8
     refine Ok.skip ?_
     refine .rg [(3,(S x3_1)),(12,(L 6 e_api_Node a0.Kids)),(13,(.v (.int .i64 (a0.Kids.length:Int)))),(14,(.v (.int .i64 (IntKind.i64.wrap (x14_2 + 1)))))] [] ?_
     exact⟨m5,Nat.lt_succ_self m5,(IntKind.i64.wrap (x14_2 + 1)),x3_1,rfl,H⟩
   ·replace H:=ifF H hb9
    refine Ok.exit ?_
    refine Ok.seq ?_
    refine .rg [(2,(S x3_1))] [] ?_
    refine Ok.ret ?_
    obtain rfl:=Option.some.inj H
    exact⟨.inl rfl,⟨_,(.cons (.tmp rfl) .nil),rfl⟩,trivial⟩
def lists_display.l0 (k:Nat) (a0:T_api_Node):Nat→Int→Str→Str→List T_api_Attr→List T_api_Node→Str→Int→Option (Str × Bool)
 | 0,_,_,_,_,_,_,_ => none
 | m15 + 1,y1_0_2,y1_1_3,y1_2_4,y1_3_5,y1_4_6,y1_5_7,x9_1 => (if (decide (x9_1 < (a0.Kids.length:Int)))=true then (if (0:Int) ≤ x9_1 ∧ x9_1 < (a0.Kids.length:Int) then (((if ((((rd a0.Kids x9_1).Kind) == 1) == true)=true then lists_own ([]:Str) else some default)).bind fun (t18:T_api_Name) => (if ((((rd a0.Kids x9_1).Kind) == 1) && (((rd a0.Kids x9_1).Name.Space) == t18.Space))=true then some (([]:Str),false) else lists_display.l0 k a0 m15 y1_0_2 y1_1_3 y1_2_4 y1_3_5 y1_4_6 y1_5_7 (IntKind.i64.wrap (x9_1 + 1)))) else none) else ((tree_Value k (T_api_Node.mk y1_0_2 (T_api_Name.mk y1_1_3 y1_2_4) y1_3_5 y1_4_6 y1_5_7)).bind fun (t22:Str) => ((utf_Trim k t22).bind fun (t24:Str) => ((lists_is (T_api_Node.mk y1_0_2 (T_api_Name.mk y1_1_3 y1_2_4) y1_3_5 y1_4_6 y1_5_7) ([100,105,115,112,108,97,121,45,110,97,109,101]:Str)).bind fun (t26:Bool) => some (t24,t26)))))
def lists_display (k:Nat) (a0:T_api_Node):Option (Str × Bool):=lists_display.l0 k a0 k a0.Kind a0.Name.Space a0.Name.Local a0.Attrs a0.Kids a0.Text 0
theorem lists_display.ok {k:Nat} {a0:T_api_Node} {r:Str × Bool} (H:lists_display k a0=some r):Vx.Fn Tryz.prog 42 [(.agg (e_api_Node a0))] [] (.tup [(S r.1),(.v (.bool r.2))]) []:=by
 unfold lists_display at H
 refine Vx.Fn.of_okR Tryz.func42 rfl (Nat.le_of_ble_eq_true rfl) ?_
 refine Ok.seq ?_
 refine Ok.region (σ':=⟨[(1,(.bref 1 0))],[(1,(bxN a0))]⟩) ?_ ?_
 ·refine OpsOk.cut1 0 (.agg (c_api_Node a0)) (DLe.of_eq (congrArg D.agg (e_api_Node_c _).symm)) ?_
  refine .rn 3 ?_
  exact .dn
 refine Ok.seq ?_
 refine Ok.seq ?_
 refine Ok.region (σ':=⟨[(1,(.bref 1 0)),(7,(L 6 e_api_Node a0.Kids)),(8,(.v (.int .i64 (a0.Kids.length:Int)))),(9,(.v (.int .i64 0)))],[(1,(bxN a0))]⟩) ?_ ?_
 ·refine .rn 2 ?_
  refine .cv (VOk.lenL (e:=e_api_Node) (xs:=a0.Kids) rfl Tryz.underlying26 rfl) rfl rfl ?_
  refine .rn 1 ?_
  exact .dn
 refine Ok.block ?_
 refine Ok.loop (fun m15 σ => ∃ (y1_0_2:Int) (y1_1_3:Str) (y1_2_4:Str) (y1_3_5:List T_api_Attr) (y1_4_6:List T_api_Node) (y1_5_7:Str) (x9_1:Int),σ=⟨[(1,(.bref 1 0)),(7,(L 6 e_api_Node a0.Kids)),(8,(.v (.int .i64 (a0.Kids.length:Int)))),(9,(.v (.int .i64 x9_1)))],[(1,(.box .ex [(.v (.int .i64 y1_0_2)),(S y1_1_3),(S y1_2_4),(L 3 e_api_Attr y1_3_5),(L 6 e_api_Node y1_4_6),(S y1_5_7)]))]⟩ ∧ lists_display.l0 k a0 m15 y1_0_2 y1_1_3 y1_2_4 y1_3_5 y1_4_6 y1_5_7 x9_1=some r) k ⟨a0.Kind,a0.Name.Space,a0.Name.Local,a0.Attrs,a0.Kids,a0.Text,0,rfl,H⟩ ?_
 rintro m15 σ ⟨y1_0_2,y1_1_3,y1_2_4,y1_3_5,y1_4_6,y1_5_7,x9_1,rfl,H⟩
 cases m15 with
 | zero => exact absurd H (by simp [lists_display.l0])
 | succ m15 =>
  unfold lists_display.l0 at H
  refine Ok.seq ?_
  refine .rg [(1,(.bref 1 0)),(7,(L 6 e_api_Node a0.Kids)),(8,(.v (.int .i64 (a0.Kids.length:Int)))),(9,(.v (.int .i64 x9_1))),(10,(.v (.bool (decide (x9_1 < (a0.Kids.length:Int))))))] [(1,(.box .ex [(.v (.int .i64 y1_0_2)),(S y1_1_3),(S y1_2_4),(L 3 e_api_Attr y1_3_5),(L 6 e_api_Node y1_4_6),(S y1_5_7)]))] ?_
  refine Ok.seq ?_
  refine Ok.test (b:=(decide (x9_1 < (a0.Kids.length:Int)))) rfl (fun hb28 => ?_) (fun hb28 => ?_)
  ·replace H:=ifT H hb28
   refine Ok.skip ?_
   refine Ok.seq ?_
   refine Ok.block ?_
   refine Ok.seq ?_
   obtain⟨c16,H⟩:=assertE H
   refine Ok.region (σ':=⟨[(1,(.bref 1 0)),(5,(.bref 5 0)),(7,(L 6 e_api_Node a0.Kids)),(8,(.v (.int .i64 (a0.Kids.length:Int)))),(9,(.v (.int .i64 x9_1)))],[(1,(.box .ex [(.v (.int .i64 y1_0_2)),(S y1_1_3),(S y1_2_4),(L 3 e_api_Attr y1_3_5),(L 6 e_api_Node y1_4_6),(S y1_5_7)])),(5,(.box .ex (c_api_Node (rd a0.Kids x9_1))))]⟩) ?_ ?_
   ·refine .cv (VOk.indexL (sz:=6) (e:=e_api_Node) (xs:=a0.Kids) (i:=x9_1) rfl Tryz.underlying26 sz28 rfl rfl c16) rfl rfl ?_
    refine .rn 2 ?_
    refine OpsOk.cut1 12 (.agg [(.v (.int .i64 ((rd a0.Kids x9_1).Kind))),(S ((rd a0.Kids x9_1).Name.Space)),(S ((rd a0.Kids x9_1).Name.Local)),(L 3 e_api_Attr ((rd a0.Kids x9_1).Attrs)),(L 6 e_api_Node ((rd a0.Kids x9_1).Kids)),(S ((rd a0.Kids x9_1).Text))]) (DLe.of_eq (congrArg D.agg (e_api_Node_c _).symm)) ?_
    refine .rn 1 ?_
    exact .dn
   refine Ok.seq ?_
   obtain⟨t18,h19,H⟩:=bindE H
   refine Ok.drawE (σ':=⟨[(1,(.bref 1 0)),(7,(L 6 e_api_Node a0.Kids)),(8,(.v (.int .i64 (a0.Kids.length:Int)))),(9,(.v (.int .i64 x9_1))),(23,(.v (.bool ((((rd a0.Kids x9_1).Kind) == 1) && (((rd a0.Kids x9_1).Name.Space) == t18.Space)))))],[(1,(.box .ex [(.v (.int .i64 y1_0_2)),(S y1_1_3),(S y1_2_4),(L 3 e_api_Attr y1_3_5),(L 6 e_api_Node y1_4_6),(S y1_5_7)]))]⟩) [⟨true,[(5,(.bref 5 0))],(.bref 5 0)⟩,⟨true,[(13,(.bref 5 0))],(.v (.int .i64 ((rd a0.Kids x9_1).Kind)))⟩,⟨true,[(14,(.v (.int .i64 ((rd a0.Kids x9_1).Kind))))],(.v (.bool (((rd a0.Kids x9_1).Kind) == 1)))⟩,⟨true,[(15,(.v (.bool (((rd a0.Kids x9_1).Kind) == 1))))],(.v (.bool (((rd a0.Kids x9_1).Kind) == 1)))⟩,It.I ((((rd a0.Kids x9_1).Kind) == 1) == true) [(5,(.bref 5 0)),(16,(.v (.bool (((rd a0.Kids x9_1).Kind) == 1))))] (.bref 5 1),It.I ((((rd a0.Kids x9_1).Kind) == 1) == true) [(17,(bif ((((rd a0.Kids x9_1).Kind) == 1) == true) then (.bref 5 1) else .v undef)),(16,(.v (.bool (((rd a0.Kids x9_1).Kind) == 1))))] (.bref 5 1),It.I ((((rd a0.Kids x9_1).Kind) == 1) == true) [(18,(bif ((((rd a0.Kids x9_1).Kind) == 1) == true) then (.bref 5 1) else .v undef)),(16,(.v (.bool (((rd a0.Kids x9_1).Kind) == 1))))] (S ((rd a0.Kids x9_1).Name.Space)),It.I ((((rd a0.Kids x9_1).Kind) == 1) == true) [(16,(.v (.bool (((rd a0.Kids x9_1).Kind) == 1))))] (.agg (e_api_Name t18)),It.I ((((rd a0.Kids x9_1).Kind) == 1) == true) [(20,(bif ((((rd a0.Kids x9_1).Kind) == 1) == true) then (.agg (e_api_Name t18)) else .v undef)),(16,(.v (.bool (((rd a0.Kids x9_1).Kind) == 1))))] (S t18.Space),It.I ((((rd a0.Kids x9_1).Kind) == 1) == true) [(19,(bif ((((rd a0.Kids x9_1).Kind) == 1) == true) then (S ((rd a0.Kids x9_1).Name.Space)) else .v undef)),(21,(bif ((((rd a0.Kids x9_1).Kind) == 1) == true) then (S t18.Space) else .v undef)),(16,(.v (.bool (((rd a0.Kids x9_1).Kind) == 1))))] (.v (.bool (((rd a0.Kids x9_1).Name.Space) == t18.Space))),⟨true,[(16,(.v (.bool (((rd a0.Kids x9_1).Kind) == 1)))),(22,(bif ((((rd a0.Kids x9_1).Kind) == 1) == true) then (.v (.bool (((rd a0.Kids x9_1).Name.Space) == t18.Space))) else .v undef))],(.v (.bool ((((rd a0.Kids x9_1).Kind) == 1) && (((rd a0.Kids x9_1).Name.Space) == t18.Space))))⟩] [[],[0],[1],[2],[3],[3,4],[3,5],[3],[3,7],[3,6,8],[3,9]] mixed (by kernel_rfl) ?_ ?_
   ·refine TxtE.cons rfl ⟨.same _,trivial⟩ rfl (VOk.g (VOk.to (VOk.fieldB rfl Tryz.underlying28 rfl sz3 rfl rfl) rfl)) ?_
    refine TxtE.cons rfl ⟨.same _,trivial⟩ rfl (VOk.g (VOk.loadB (d:=(.v (.int .i64 ((rd a0.Kids x9_1).Kind)))) rfl Tryz.underlying3 rfl rfl rfl rfl)) ?_
    refine TxtE.cons rfl ⟨.same _,trivial⟩ rfl (VOk.g (VOk.arith (op:=.eql) (k:=.i64) (a:=(rd a0.Kids x9_1).Kind) (b:=1) rfl rfl rfl rfl)) ?_
    refine TxtE.cons rfl ⟨.same _,trivial⟩ rfl (VOk.g (VOk.mv (d:=(.v (.bool (((rd a0.Kids x9_1).Kind) == 1)))) rfl rfl)) ?_
    refine TxtE.consI rfl ⟨.same _,.same _,trivial⟩ rfl rfl (.one rfl) (fun hw17 => (VOk.g (VOk.to (VOk.fieldB rfl Tryz.underlying28 rfl sz24 rfl rfl) rfl))) ?_
    refine TxtE.consI rfl ⟨.same _,.same _,trivial⟩ rfl rfl (.one rfl) (fun hw17 => (GOk.fr (fr':=[(17,(.bref 5 1))]) ⟨DLe.of_eq (cT hw17).symm,trivial⟩ (VOk.g (VOk.to (VOk.fieldB rfl Tryz.underlying24 rfl sz9 rfl rfl) rfl)))) ?_
    refine TxtE.consI rfl ⟨.same _,.same _,trivial⟩ rfl rfl (.one rfl) (fun hw17 => (GOk.fr (fr':=[(18,(.bref 5 1))]) ⟨DLe.of_eq (cT hw17).symm,trivial⟩ (VOk.g (VOk.loadB (d:=(S ((rd a0.Kids x9_1).Name.Space))) rfl Tryz.underlying9 rfl rfl rfl rfl)))) ?_
    refine TxtE.consI rfl ⟨.same _,trivial⟩ rfl rfl (.one rfl) (fun hw17 => (GOk.call rfl rfl cl40 rfl (lists_own.ok (ifT h19 hw17)) rfl)) ?_
    refine TxtE.consI rfl ⟨.same _,.same _,trivial⟩ rfl rfl (.one rfl) (fun hw17 => (GOk.fr (fr':=[(20,(.agg (e_api_Name t18)))]) ⟨DLe.of_eq (cT hw17).symm,trivial⟩ (VOk.g (VOk.field (d:=(S t18.Space)) rfl Tryz.underlying24 rfl Tryz.underlying9 rfl rfl rfl)))) ?_
    refine TxtE.consI rfl ⟨.same _,.same _,.same _,trivial⟩ rfl rfl (.one rfl) (fun hw17 => (GOk.fr (fr':=[(19,(S ((rd a0.Kids x9_1).Name.Space))),(21,(S t18.Space))]) ⟨DLe.of_eq (cT hw17).symm,DLe.of_eq (cT hw17).symm,trivial⟩ (VOk.g (VOk.strOp (op:=.eql) (a:=(rd a0.Kids x9_1).Name.Space) (b:=t18.Space) rfl rfl rfl rfl)))) ?_
    refine TxtE.cons rfl ⟨.same _,.same _,trivial⟩ rfl (VOk.g (VOk.to (VOk.pickI (b:=(((rd a0.Kids x9_1).Kind) == 1)) (p:=(((rd a0.Kids x9_1).Name.Space) == t18.Space)) (q:=false) rfl rfl (fun hp20 => (cT (t_beq hp20))) (fun hp20 => rfl)) (pickAnd (((rd a0.Kids x9_1).Kind) == 1) (((rd a0.Kids x9_1).Name.Space) == t18.Space)))) ?_
    exact .done (.rf rfl rfl)
   refine Ok.test (b:=((((rd a0.Kids x9_1).Kind) == 1) && (((rd a0.Kids x9_1).Name.Space) == t18.Space))) rfl (fun hb21 => ?_) (fun hb21 => ?_)
   ·replace H:=ifT H hb21
    refine Ok.seq ?_
    refine .rg [(2,S0),(3,(.v (.bool false)))] [] ?_
    refine Ok.ret ?_
    obtain rfl:=Option.some.inj H
    exact⟨.inl rfl,⟨_,(.cons (.tmp rfl) (.cons (.tmp rfl) .nil)),rfl⟩,trivial⟩
   ·replace H:=ifF H hb21
    refine Ok.skip ?_
    refine .rg [(1,(.bref 1 0)),(7,(L 6 e_api_Node a0.Kids)),(8,(.v (.int .i64 (a0.Kids.length:Int)))),(9,(.v (.int .i64 (IntKind.i64.wrap (x9_1 + 1)))))] [(1,(.box .ex [(.v (.int .i64 y1_0_2)),(S y1_1_3),(S y1_2_4),(L 3 e_api_Attr y1_3_5),(L 6 e_api_Node y1_4_6),(S y1_5_7)]))] ?_
    exact⟨m15,Nat.lt_succ_self m15,y1_0_2,y1_1_3,y1_2_4,y1_3_5,y1_4_6,y1_5_7,(IntKind.i64.wrap (x9_1 + 1)),rfl,H⟩
  ·replace H:=ifF H hb28
   refine Ok.exit ?_
   refine Ok.seq ?_
   obtain⟨t22,h23,H⟩:=bindE H
   obtain⟨t24,h25,H⟩:=bindE H
   obtain⟨t26,h27,H⟩:=bindE H
   refine .dA [(2,(S t24)),(3,(.v (.bool t26)))] [] [[],[0],[1],[],[3],[2],[4]] mixed ?_ ?_
   ·refine .tc (VOk.g (VOk.to (d':=(.agg (e_api_Node (T_api_Node.mk y1_0_2 (T_api_Name.mk y1_1_3 y1_2_4) y1_3_5 y1_4_6 y1_5_7)))) (.loadBAgg rfl Tryz.underlying28 rfl sz28 rfl rfl rfl) (congrArg D.agg (e_api_Node_c (T_api_Node.mk y1_0_2 (T_api_Name.mk y1_1_3 y1_2_4) y1_3_5 y1_4_6 y1_5_7)).symm))) ?_
    refine .tc (GOk.call rfl rfl cl56 rfl (tree_Value.ok h23) rfl) ?_
    refine .tc (GOk.call rfl rfl cl39 rfl (utf_Trim.ok h25) rfl) ?_
    refine .tc (VOk.g (VOk.to (d':=(.agg (e_api_Node (T_api_Node.mk y1_0_2 (T_api_Name.mk y1_1_3 y1_2_4) y1_3_5 y1_4_6 y1_5_7)))) (.loadBAgg rfl Tryz.underlying28 rfl sz28 rfl rfl rfl) (congrArg D.agg (e_api_Node_c (T_api_Node.mk y1_0_2 (T_api_Name.mk y1_1_3 y1_2_4) y1_3_5 y1_4_6 y1_5_7)).symm))) ?_
    refine .tc (GOk.call rfl rfl cl25 rfl (lists_is.ok h27) rfl) ?_
    refine .tn 2 ?_
    exact .dn
   refine Ok.ret ?_
   obtain rfl:=Option.some.inj H
   exact⟨.inl rfl,⟨_,(.cons (.tmp rfl) (.cons (.tmp rfl) .nil)),rfl⟩,trivial⟩
def lists_attr (a0:T_api_Node):Option (Str × Int):=((lists_is a0 ([101,110,116,114,121]:Str)).bind fun (t1:Bool) => (if t1=true then some (([117,114,105]:Str),1) else ((lists_is a0 ([101,120,116,101,114,110,97,108]:Str)).bind fun (t3:Bool) => (if t3=true then some (([97,110,99,104,111,114]:Str),3) else ((lists_is a0 ([101,110,116,114,121,45,114,101,102]:Str)).bind fun (t5:Bool) => (if t5=true then some (([114,101,102]:Str),4) else some (([]:Str),0)))))))
theorem lists_attr.ok {a0:T_api_Node} {r:Str × Int} (H:lists_attr a0=some r):Vx.Fn Tryz.prog 57 [(.agg (e_api_Node a0))] [] (.tup [(S r.1),(.v (.int .i64 r.2))]) []:=by
 unfold lists_attr at H
 refine Vx.Fn.of_okR Tryz.func57 rfl (Nat.le_of_ble_eq_true rfl) ?_
 refine Ok.seq ?_
 refine Ok.region (σ':=⟨[(1,(.bref 1 0))],[(1,(bxN a0))]⟩) ?_ ?_
 ·refine OpsOk.cut1 0 (.agg (c_api_Node a0)) (DLe.of_eq (congrArg D.agg (e_api_Node_c _).symm)) ?_
  refine .rn 3 ?_
  exact .dn
 refine Ok.seq ?_
 refine Ok.block ?_
 refine Ok.seq ?_
 obtain⟨t1,h2,H⟩:=bindE H
 refine Ok.region (σ':=⟨[(1,(.bref 1 0)),(4,(.v (.bool t1)))],[(1,(bxN a0))]⟩) ?_ ?_
 ·refine .cv (VOk.to (d':=(.agg (e_api_Node a0))) (.loadBAgg rfl Tryz.underlying28 rfl sz28 rfl rfl rfl) (congrArg D.agg (e_api_Node_c a0).symm)) rfl rfl ?_
  refine .cg (GOk.call rfl rfl cl25 rfl (lists_is.ok h2) rfl) rfl rfl ?_
  refine .rn 1 ?_
  exact .dn
 refine Ok.test (b:=t1) rfl (fun hb9 => ?_) (fun hb9 => ?_)
 ·replace H:=ifT H hb9
  refine Ok.seq ?_
  refine .rg [(2,(S ([117,114,105]:Str))),(3,(.v (.int .i64 1)))] [] ?_
  refine Ok.ret ?_
  obtain rfl:=Option.some.inj H
  exact⟨.inl rfl,⟨_,(.cons (.tmp rfl) (.cons (.tmp rfl) .nil)),rfl⟩,trivial⟩
 ·replace H:=ifF H hb9
  refine Ok.seq ?_
  obtain⟨t3,h4,H⟩:=bindE H
  refine Ok.region (σ':=⟨[(1,(.bref 1 0)),(7,(.v (.bool t3)))],[(1,(bxN a0))]⟩) ?_ ?_
  ·refine .cv (VOk.to (d':=(.agg (e_api_Node a0))) (.loadBAgg rfl Tryz.underlying28 rfl sz28 rfl rfl rfl) (congrArg D.agg (e_api_Node_c a0).symm)) rfl rfl ?_
   refine .cg (GOk.call rfl rfl cl25 rfl (lists_is.ok h4) rfl) rfl rfl ?_
   refine .rn 1 ?_
   exact .dn
  refine Ok.test (b:=t3) rfl (fun hb8 => ?_) (fun hb8 => ?_)
  ·replace H:=ifT H hb8
   refine Ok.seq ?_
   refine .rg [(2,(S ([97,110,99,104,111,114]:Str))),(3,(.v (.int .i64 3)))] [] ?_
   refine Ok.ret ?_
   obtain rfl:=Option.some.inj H
   exact⟨.inl rfl,⟨_,(.cons (.tmp rfl) (.cons (.tmp rfl) .nil)),rfl⟩,trivial⟩
  ·replace H:=ifF H hb8
   refine Ok.seq ?_
   obtain⟨t5,h6,H⟩:=bindE H
   refine Ok.region (σ':=⟨[(10,(.v (.bool t5)))],[]⟩) ?_ ?_
   ·refine .cv (VOk.to (d':=(.agg (e_api_Node a0))) (.loadBAgg rfl Tryz.underlying28 rfl sz28 rfl rfl rfl) (congrArg D.agg (e_api_Node_c a0).symm)) rfl rfl ?_
    refine .cg (GOk.call rfl rfl cl25 rfl (lists_is.ok h6) rfl) rfl rfl ?_
    refine .rn 1 ?_
    exact .dn
   refine Ok.test (b:=t5) rfl (fun hb7 => ?_) (fun hb7 => ?_)
   ·replace H:=ifT H hb7
    refine Ok.seq ?_
    refine .rg [(2,(S ([114,101,102]:Str))),(3,(.v (.int .i64 4)))] [] ?_
    refine Ok.ret ?_
    obtain rfl:=Option.some.inj H
    exact⟨.inl rfl,⟨_,(.cons (.tmp rfl) (.cons (.tmp rfl) .nil)),rfl⟩,trivial⟩
   ·replace H:=ifF H hb7
    refine Ok.skip ?_
    refine Ok.seq ?_
    refine .rg [(2,S0),(3,(.v (.int .i64 0)))] [] ?_
    refine Ok.ret ?_
    obtain rfl:=Option.some.inj H
    exact⟨.inl rfl,⟨_,(.cons (.tmp rfl) (.cons (.tmp rfl) .nil)),rfl⟩,trivial⟩
def lists_plain (k:Nat) (a0:T_api_Node):Option (T_api_Entry × Bool):=((lists_attr a0).bind fun (t1:Str × Int) => ((tree_Get k a0 (T_api_Name.mk ([]:Str) t1.1)).bind fun (t3:Str × Bool) => ((lists_kids k a0).bind fun (t5:(List T_api_Node) × Bool) => (if ((((t1.2 == 0) || (t3.1 == ([]:Str))) || (!t5.2)) || (decide ((t5.1.length:Int) > 1)))=true then some ((T_api_Entry.mk 0 ([]:Str) ([]:Str) ([]:List T_api_Entry)),false) else (if ((t5.1.length:Int) == 1)=true then (if (0:Int) ≤ 0 ∧ 0 < (t5.1.length:Int) then ((lists_display k (rd t5.1 0)).bind fun (t14:Str × Bool) => (if (!t14.2)=true then some ((T_api_Entry.mk 0 ([]:Str) ([]:Str) ([]:List T_api_Entry)),false) else (if (t1.2 == 1)=true then some ((T_api_Entry.mk ((T_api_Entry.mk t1.2 t3.1 ([]:Str) ([]:List T_api_Entry)).Kind) ((T_api_Entry.mk t1.2 t3.1 ([]:Str) ([]:List T_api_Entry)).URI) t14.1 ((T_api_Entry.mk t1.2 t3.1 ([]:Str) ([]:List T_api_Entry)).List_)),true) else some ((T_api_Entry.mk t1.2 t3.1 ([]:Str) ([]:List T_api_Entry)),true)))) else none) else some ((T_api_Entry.mk t1.2 t3.1 ([]:Str) ([]:List T_api_Entry)),true))))))
theorem lists_plain.ok {k:Nat} {a0:T_api_Node} {r:T_api_Entry × Bool} (H:lists_plain k a0=some r):Vx.Fn Tryz.prog 43 [(.agg (e_api_Node a0))] [] (.tup [(.agg (e_api_Entry r.1)),(.v (.bool r.2))]) []:=by
 unfold lists_plain at H
 refine Vx.Fn.of_okR Tryz.func43 rfl (Nat.le_of_ble_eq_true rfl) ?_
 refine Ok.seq ?_
 refine Ok.region (σ':=⟨[(1,(.bref 1 0)),(2,(.bref 2 0))],[(1,(bxN a0)),(2,(.box .ex [(.v (.int .i64 0)),S0,S0,(L 4 e_api_Entry ([]:List T_api_Entry))]))]⟩) ?_ ?_
 ·refine OpsOk.cut1 0 (.agg (c_api_Node a0)) (DLe.of_eq (congrArg D.agg (e_api_Node_c _).symm)) ?_
  refine .rn 3 ?_
  exact .dn
 refine Ok.seq ?_
 obtain⟨t1,h2,H⟩:=bindE H
 refine Ok.region (σ':=⟨[(1,(.bref 1 0)),(2,(.bref 2 0)),(4,(S t1.1)),(5,(.v (.int .i64 t1.2)))],[(1,(bxN a0)),(2,(.box .ex [(.v (.int .i64 0)),S0,S0,(L 4 e_api_Entry ([]:List T_api_Entry))]))]⟩) ?_ ?_
 ·refine .cv (VOk.to (d':=(.agg (e_api_Node a0))) (.loadBAgg rfl Tryz.underlying28 rfl sz28 rfl rfl rfl) (congrArg D.agg (e_api_Node_c a0).symm)) rfl rfl ?_
  refine .cg (GOk.call rfl rfl cl57 rfl (lists_attr.ok h2) rfl) rfl rfl ?_
  refine .rn 5 ?_
  exact .dn
 refine Ok.seq ?_
 obtain⟨t3,h4,H⟩:=bindE H
 refine Ok.region (σ':=⟨[(1,(.bref 1 0)),(2,(.bref 2 0)),(5,(.v (.int .i64 t1.2))),(6,(S t3.1))],[(1,(bxN a0)),(2,(.box .ex [(.v (.int .i64 0)),S0,S0,(L 4 e_api_Entry ([]:List T_api_Entry))]))]⟩) ?_ ?_
 ·refine .cv (VOk.to (d':=(.agg (e_api_Node a0))) (.loadBAgg rfl Tryz.underlying28 rfl sz28 rfl rfl rfl) (congrArg D.agg (e_api_Node_c a0).symm)) rfl rfl ?_
  refine .rn 1 ?_
  refine .cv (VOk.to (d':=(.agg (e_api_Name (T_api_Name.mk ([]:Str) t1.1)))) (.build [none,none] [(0,1),(1,1)] rfl Tryz.underlying24 (fa24 Tryz.underlying24) zo24 rfl rfl) rfl) rfl rfl ?_
  refine .cg (GOk.call rfl rfl cl41 rfl (tree_Get.ok h4) rfl) rfl rfl ?_
  refine .rn 5 ?_
  exact .dn
 refine Ok.seq ?_
 obtain⟨t5,h6,H⟩:=bindE H
 refine Ok.region (σ':=⟨[(2,(.bref 2 0)),(5,(.v (.int .i64 t1.2))),(6,(S t3.1)),(8,(L 6 e_api_Node t5.1)),(9,(.v (.bool t5.2)))],[(2,(.box .ex [(.v (.int .i64 0)),S0,S0,(L 4 e_api_Entry ([]:List T_api_Entry))]))]⟩) ?_ ?_
 ·refine .cv (VOk.to (d':=(.agg (e_api_Node a0))) (.loadBAgg rfl Tryz.underlying28 rfl sz28 rfl rfl rfl) (congrArg D.agg (e_api_Node_c a0).symm)) rfl rfl ?_
  refine .cg (GOk.call rfl rfl cl24 rfl (lists_kids.ok h6) rfl) rfl rfl ?_
  refine .rn 5 ?_
  exact .dn
 refine Ok.seq ?_
 refine Ok.seq ?_
 refine Ok.region (σ':=⟨[(2,(.bref 2 0)),(5,(.v (.int .i64 t1.2))),(6,(S t3.1)),(8,(L 6 e_api_Node t5.1)),(44,(.v (.bool ((((t1.2 == 0) || (t3.1 == ([]:Str))) || (!t5.2)) || (decide ((t5.1.length:Int) > 1))))))],[(2,(.box .ex [(.v (.int .i64 0)),S0,S0,(L 4 e_api_Entry ([]:List T_api_Entry))]))]⟩) ?_ ?_
 ·refine .rn 3 ?_
  refine OpsOk.consI rfl rfl rfl (.one rfl) rfl (fun hw7 => (VOk.g (VOk.mv (d:=(S t3.1)) rfl rfl))) ?_
  refine OpsOk.consI rfl rfl rfl (.one rfl) rfl (fun hw7 => (GOk.fr (fr':=[(33,(S t3.1))]) ⟨DLe.of_eq (cT hw7).symm,trivial⟩ (VOk.g (VOk.strOp (op:=.eql) (a:=t3.1) (b:=([]:Str)) rfl rfl rfl rfl)))) ?_
  refine .cv (VOk.to (VOk.pickI (b:=(t1.2 == 0)) (p:=true) (q:=(t3.1 == ([]:Str))) rfl rfl (fun hp8 => rfl) (fun hp8 => (cT (f_beq hp8)))) (pickOr (t1.2 == 0) (t3.1 == ([]:Str)))) rfl rfl ?_
  refine .rn 1 ?_
  refine OpsOk.consI rfl rfl rfl (.one rfl) rfl (fun hw9 => (VOk.g (VOk.mv (d:=(.v (.bool t5.2))) rfl rfl))) ?_
  refine OpsOk.consI rfl rfl rfl (.one rfl) rfl (fun hw9 => (GOk.fr (fr':=[(37,(.v (.bool t5.2)))]) ⟨DLe.of_eq (cT hw9).symm,trivial⟩ (VOk.g (VOk.not (b:=t5.2) rfl rfl)))) ?_
  refine .cv (VOk.to (VOk.pickI (b:=((t1.2 == 0) || (t3.1 == ([]:Str)))) (p:=true) (q:=(!t5.2)) rfl rfl (fun hp10 => rfl) (fun hp10 => (cT (f_beq hp10)))) (pickOr ((t1.2 == 0) || (t3.1 == ([]:Str))) (!t5.2))) rfl rfl ?_
  refine .rn 1 ?_
  refine OpsOk.consI rfl rfl rfl (.one rfl) rfl (fun hw11 => (VOk.g (VOk.mv (d:=(L 6 e_api_Node t5.1)) rfl rfl))) ?_
  refine OpsOk.consI rfl rfl rfl (.one rfl) rfl (fun hw11 => (GOk.fr (fr':=[(41,(L 6 e_api_Node t5.1))]) ⟨DLe.of_eq (cT hw11).symm,trivial⟩ (VOk.g (VOk.lenL (e:=e_api_Node) (xs:=t5.1) rfl Tryz.underlying26 rfl)))) ?_
  refine OpsOk.consI rfl rfl rfl (.one rfl) rfl (fun hw11 => (GOk.fr (fr':=[(42,(.v (.int .i64 (t5.1.length:Int))))]) ⟨DLe.of_eq (cT hw11).symm,trivial⟩ (VOk.g (VOk.arith (op:=.gtr) (k:=.i64) (a:=(t5.1.length:Int)) (b:=1) rfl rfl rfl rfl)))) ?_
  refine .cv (VOk.to (VOk.pickI (b:=(((t1.2 == 0) || (t3.1 == ([]:Str))) || (!t5.2))) (p:=true) (q:=(decide ((t5.1.length:Int) > 1))) rfl rfl (fun hp12 => rfl) (fun hp12 => (cT (f_beq hp12)))) (pickOr (((t1.2 == 0) || (t3.1 == ([]:Str))) || (!t5.2)) (decide ((t5.1.length:Int) > 1)))) rfl rfl ?_
  exact .dn
 refine Ok.test (b:=((((t1.2 == 0) || (t3.1 == ([]:Str))) || (!t5.2)) || (decide ((t5.1.length:Int) > 1)))) rfl (fun hb19 => ?_) (fun hb19 => ?_)
 ·replace H:=ifT H hb19
  refine Ok.seq ?_
  refine Ok.region (σ':=⟨[(2,(.bref 2 0)),(3,(.v (.bool false)))],[(2,(.box .ex (c_api_Entry nE0)))]⟩) ?_ ?_
  ·refine .cv (VOk.to (d':=(.agg (e_api_Entry nE0))) (.build [none,none,none,some 4] [(0,1),(1,1),(2,1),(3,1)] rfl Tryz.underlying45 (fa45 Tryz.underlying45) zo45 rfl rfl) (congrArg D.agg (e_api_Entry_c nE0).symm)) rfl rfl ?_
   refine OpsOk.cut1 45 (.agg [(.v (.int .i64 (nE0.Kind))),(S (nE0.URI)),(S (nE0.Name)),(L 4 e_api_Entry (nE0.List_))]) (DLe.of_eq (congrArg D.agg (e_api_Entry_c _).symm)) ?_
   refine .rn 2 ?_
   exact .dn
  refine Ok.ret ?_
  obtain rfl:=Option.some.inj H
  exact⟨.inl rfl,⟨_,(.cons (.cell (VOk.to (d':=(.agg (e_api_Entry nE0))) (.loadBAgg rfl Tryz.underlying45 rfl sz45 rfl rfl rfl) (congrArg D.agg (e_api_Entry_c nE0).symm))) (.cons (.tmp rfl) .nil)),rfl⟩,trivial⟩
 ·replace H:=ifF H hb19
  refine Ok.skip ?_
  refine Ok.seq ?_
  refine Ok.region (σ':=⟨[(2,(.bref 2 0)),(5,(.v (.int .i64 t1.2))),(8,(L 6 e_api_Node t5.1)),(10,(.bref 10 0))],[(2,(.box .ex [(.v (.int .i64 0)),S0,S0,(L 4 e_api_Entry ([]:List T_api_Entry))])),(10,(.box .ex (c_api_Entry (T_api_Entry.mk t1.2 t3.1 ([]:Str) ([]:List T_api_Entry)))))]⟩) ?_ ?_
  ·refine .rn 2 ?_
   refine .cv (VOk.to (d':=(.agg (e_api_Entry (T_api_Entry.mk t1.2 t3.1 ([]:Str) ([]:List T_api_Entry))))) (.build [none,none,none,some 4] [(0,1),(1,1),(2,1),(3,1)] rfl Tryz.underlying45 (fa45 Tryz.underlying45) zo45 rfl rfl) (congrArg D.agg (e_api_Entry_c (T_api_Entry.mk t1.2 t3.1 ([]:Str) ([]:List T_api_Entry))).symm)) rfl rfl ?_
   refine .rn 1 ?_
   refine OpsOk.cut1 48 (.agg [(.v (.int .i64 ((T_api_Entry.mk t1.2 t3.1 ([]:Str) ([]:List T_api_Entry)).Kind))),(S ((T_api_Entry.mk t1.2 t3.1 ([]:Str) ([]:List T_api_Entry)).URI)),(S ((T_api_Entry.mk t1.2 t3.1 ([]:Str) ([]:List T_api_Entry)).Name)),(L 4 e_api_Entry ((T_api_Entry.mk t1.2 t3.1 ([]:Str) ([]:List T_api_Entry)).List_))]) (DLe.of_eq (congrArg D.agg (e_api_Entry_c _).symm)) ?_
   refine .rn 1 ?_
   exact .dn
  refine Ok.seq ?_
  refine Ok.seq ?_
  refine Ok.region (σ':=⟨[(2,(.bref 2 0)),(5,(.v (.int .i64 t1.2))),(8,(L 6 e_api_Node t5.1)),(10,(.bref 10 0)),(51,(.v (.bool ((t5.1.length:Int) == 1))))],[(2,(.box .ex [(.v (.int .i64 0)),S0,S0,(L 4 e_api_Entry ([]:List T_api_Entry))])),(10,(.box .ex (c_api_Entry (T_api_Entry.mk t1.2 t3.1 ([]:Str) ([]:List T_api_Entry)))))]⟩) ?_ ?_
  ·refine .rn 1 ?_
   refine .cv (VOk.lenL (e:=e_api_Node) (xs:=t5.1) rfl Tryz.underlying26 rfl) rfl rfl ?_
   refine .rn 1 ?_
   exact .dn
  refine Ok.test (b:=((t5.1.length:Int) == 1)) rfl (fun hb18 => ?_) (fun hb18 => ?_)
  ·replace H:=ifT H hb18
   refine Ok.seq ?_
   obtain⟨c13,H⟩:=assertE H
   obtain⟨t14,h15,H⟩:=bindE H
   refine Ok.region (σ':=⟨[(2,(.bref 2 0)),(5,(.v (.int .i64 t1.2))),(10,(.bref 10 0)),(11,(S t14.1)),(12,(.v (.bool t14.2)))],[(2,(.box .ex [(.v (.int .i64 0)),S0,S0,(L 4 e_api_Entry ([]:List T_api_Entry))])),(10,(.box .ex (c_api_Entry (T_api_Entry.mk t1.2 t3.1 ([]:Str) ([]:List T_api_Entry)))))]⟩) ?_ ?_
   ·refine .rn 1 ?_
    refine .cv (VOk.indexL (sz:=6) (e:=e_api_Node) (xs:=t5.1) (i:=0) rfl Tryz.underlying26 sz28 rfl rfl c13) rfl rfl ?_
    refine .rn 1 ?_
    refine .cg (GOk.call rfl rfl cl42 rfl (lists_display.ok h15) rfl) rfl rfl ?_
    refine .rn 5 ?_
    exact .dn
   refine Ok.seq ?_
   refine Ok.seq ?_
   refine .rg [(2,(.bref 2 0)),(5,(.v (.int .i64 t1.2))),(10,(.bref 10 0)),(11,(S t14.1)),(60,(.v (.bool (!t14.2))))] [(2,(.box .ex [(.v (.int .i64 0)),S0,S0,(L 4 e_api_Entry ([]:List T_api_Entry))])),(10,(.box .ex (c_api_Entry (T_api_Entry.mk t1.2 t3.1 ([]:Str) ([]:List T_api_Entry)))))] ?_
   refine Ok.test (b:=(!t14.2)) rfl (fun hb17 => ?_) (fun hb17 => ?_)
   ·replace H:=ifT H hb17
    refine Ok.seq ?_
    refine Ok.region (σ':=⟨[(2,(.bref 2 0)),(3,(.v (.bool false)))],[(2,(.box .ex (c_api_Entry nE0)))]⟩) ?_ ?_
    ·refine .cv (VOk.to (d':=(.agg (e_api_Entry nE0))) (.build [none,none,none,some 4] [(0,1),(1,1),(2,1),(3,1)] rfl Tryz.underlying45 (fa45 Tryz.underlying45) zo45 rfl rfl) (congrArg D.agg (e_api_Entry_c nE0).symm)) rfl rfl ?_
     refine OpsOk.cut1 61 (.agg [(.v (.int .i64 (nE0.Kind))),(S (nE0.URI)),(S (nE0.Name)),(L 4 e_api_Entry (nE0.List_))]) (DLe.of_eq (congrArg D.agg (e_api_Entry_c _).symm)) ?_
     refine .rn 2 ?_
     exact .dn
    refine Ok.ret ?_
    obtain rfl:=Option.some.inj H
    exact⟨.inl rfl,⟨_,(.cons (.cell (VOk.to (d':=(.agg (e_api_Entry nE0))) (.loadBAgg rfl Tryz.underlying45 rfl sz45 rfl rfl rfl) (congrArg D.agg (e_api_Entry_c nE0).symm))) (.cons (.tmp rfl) .nil)),rfl⟩,trivial⟩
   ·replace H:=ifF H hb17
    refine Ok.skip ?_
    refine Ok.seq ?_
    refine .rg [(2,(.bref 2 0)),(10,(.bref 10 0)),(11,(S t14.1)),(63,(.v (.bool (t1.2 == 1))))] [(2,(.box .ex [(.v (.int .i64 0)),S0,S0,(L 4 e_api_Entry ([]:List T_api_Entry))])),(10,(.box .ex (c_api_Entry (T_api_Entry.mk t1.2 t3.1 ([]:Str) ([]:List T_api_Entry)))))] ?_
    refine Ok.test (b:=(t1.2 == 1)) rfl (fun hb16 => ?_) (fun hb16 => ?_)
    ·replace H:=ifT H hb16
     refine .rg [(2,(.bref 2 0)),(10,(.bref 10 0))] [(2,(.box .ex [(.v (.int .i64 0)),S0,S0,(L 4 e_api_Entry ([]:List T_api_Entry))])),(10,(.box .ex [(.v (.int .i64 ((T_api_Entry.mk t1.2 t3.1 ([]:Str) ([]:List T_api_Entry)).Kind))),(S ((T_api_Entry.mk t1.2 t3.1 ([]:Str) ([]:List T_api_Entry)).URI)),(S t14.1),(L 4 e_api_Entry ((T_api_Entry.mk t1.2 t3.1 ([]:Str) ([]:List T_api_Entry)).List_))]))] ?_
     refine Ok.seq ?_
     refine Ok.region (σ':=⟨[(2,(.bref 2 0)),(3,(.v (.bool true)))],[(2,(.box .ex (c_api_Entry (T_api_Entry.mk ((T_api_Entry.mk t1.2 t3.1 ([]:Str) ([]:List T_api_Entry)).Kind) ((T_api_Entry.mk t1.2 t3.1 ([]:Str) ([]:List T_api_Entry)).URI) t14.1 ((T_api_Entry.mk t1.2 t3.1 ([]:Str) ([]:List T_api_Entry)).List_)))))]⟩) ?_ ?_
     ·refine .cv (VOk.to (d':=(.agg (e_api_Entry (T_api_Entry.mk ((T_api_Entry.mk t1.2 t3.1 ([]:Str) ([]:List T_api_Entry)).Kind) ((T_api_Entry.mk t1.2 t3.1 ([]:Str) ([]:List T_api_Entry)).URI) t14.1 ((T_api_Entry.mk t1.2 t3.1 ([]:Str) ([]:List T_api_Entry)).List_))))) (.loadBAgg rfl Tryz.underlying45 rfl sz45 rfl rfl rfl) (congrArg D.agg (e_api_Entry_c (T_api_Entry.mk ((T_api_Entry.mk t1.2 t3.1 ([]:Str) ([]:List T_api_Entry)).Kind) ((T_api_Entry.mk t1.2 t3.1 ([]:Str) ([]:List T_api_Entry)).URI) t14.1 ((T_api_Entry.mk t1.2 t3.1 ([]:Str) ([]:List T_api_Entry)).List_))).symm)) rfl rfl ?_
      refine OpsOk.cut1 66 (.agg [(.v (.int .i64 ((T_api_Entry.mk ((T_api_Entry.mk t1.2 t3.1 ([]:Str) ([]:List T_api_Entry)).Kind) ((T_api_Entry.mk t1.2 t3.1 ([]:Str) ([]:List T_api_Entry)).URI) t14.1 ((T_api_Entry.mk t1.2 t3.1 ([]:Str) ([]:List T_api_Entry)).List_)).Kind))),(S ((T_api_Entry.mk ((T_api_Entry.mk t1.2 t3.1 ([]:Str) ([]:List T_api_Entry)).Kind) ((T_api_Entry.mk t1.2 t3.1 ([]:Str) ([]:List T_api_Entry)).URI) t14.1 ((T_api_Entry.mk t1.2 t3.1 ([]:Str) ([]:List T_api_Entry)).List_)).URI)),(S ((T_api_Entry.mk ((T_api_Entry.mk t1.2 t3.1 ([]:Str) ([]:List T_api_Entry)).Kind) ((T_api_Entry.mk t1.2 t3.1 ([]:Str) ([]:List T_api_Entry)).URI) t14.1 ((T_api_Entry.mk t1.2 t3.1 ([]:Str) ([]:List T_api_Entry)).List_)).Name)),(L 4 e_api_Entry ((T_api_Entry.mk ((T_api_Entry.mk t1.2 t3.1 ([]:Str) ([]:List T_api_Entry)).Kind) ((T_api_Entry.mk t1.2 t3.1 ([]:Str) ([]:List T_api_Entry)).URI) t14.1 ((T_api_Entry.mk t1.2 t3.1 ([]:Str) ([]:List T_api_Entry)).List_)).List_))]) (DLe.of_eq (congrArg D.agg (e_api_Entry_c _).symm)) ?_
      refine .rn 2 ?_
      exact .dn
     refine Ok.ret ?_
     obtain rfl:=Option.some.inj H
     exact⟨.inl rfl,⟨_,(.cons (.cell (VOk.to (d':=(.agg (e_api_Entry (T_api_Entry.mk ((T_api_Entry.mk t1.2 t3.1 ([]:Str) ([]:List T_api_Entry)).Kind) ((T_api_Entry.mk t1.2 t3.1 ([]:Str) ([]:List T_api_Entry)).URI) t14.1 ((T_api_Entry.mk t1.2 t3.1 ([]:Str) ([]:List T_api_Entry)).List_))))) (.loadBAgg rfl Tryz.underlying45 rfl sz45 rfl rfl rfl) (congrArg D.agg (e_api_Entry_c (T_api_Entry.mk ((T_api_Entry.mk t1.2 t3.1 ([]:Str) ([]:List T_api_Entry)).Kind) ((T_api_Entry.mk t1.2 t3.1 ([]:Str) ([]:List T_api_Entry)).URI) t14.1 ((T_api_Entry.mk t1.2 t3.1 ([]:Str) ([]:List T_api_Entry)).List_))).symm))) (.cons (.tmp rfl) .nil)),rfl⟩,trivial⟩
    ·replace H:=ifF H hb16
     refine Ok.skip ?_
     refine Ok.seq ?_
     refine Ok.region (σ':=⟨[(2,(.bref 2 0)),(3,(.v (.bool true)))],[(2,(.box .ex (c_api_Entry (T_api_Entry.mk t1.2 t3.1 ([]:Str) ([]:List T_api_Entry)))))]⟩) ?_ ?_
     ·refine .cv (VOk.to (d':=(.agg (e_api_Entry (T_api_Entry.mk t1.2 t3.1 ([]:Str) ([]:List T_api_Entry))))) (.loadBAgg rfl Tryz.underlying45 rfl sz45 rfl rfl rfl) (congrArg D.agg (e_api_Entry_c (T_api_Entry.mk t1.2 t3.1 ([]:Str) ([]:List T_api_Entry))).symm)) rfl rfl ?_
      refine OpsOk.cut1 66 (.agg [(.v (.int .i64 ((T_api_Entry.mk t1.2 t3.1 ([]:Str) ([]:List T_api_Entry)).Kind))),(S ((T_api_Entry.mk t1.2 t3.1 ([]:Str) ([]:List T_api_Entry)).URI)),(S ((T_api_Entry.mk t1.2 t3.1 ([]:Str) ([]:List T_api_Entry)).Name)),(L 4 e_api_Entry ((T_api_Entry.mk t1.2 t3.1 ([]:Str) ([]:List T_api_Entry)).List_))]) (DLe.of_eq (congrArg D.agg (e_api_Entry_c _).symm)) ?_
      refine .rn 2 ?_
      exact .dn
     refine Ok.ret ?_
     obtain rfl:=Option.some.inj H
     exact⟨.inl rfl,⟨_,(.cons (.cell (VOk.to (d':=(.agg (e_api_Entry (T_api_Entry.mk t1.2 t3.1 ([]:Str) ([]:List T_api_Entry))))) (.loadBAgg rfl Tryz.underlying45 rfl sz45 rfl rfl rfl) (congrArg D.agg (e_api_Entry_c (T_api_Entry.mk t1.2 t3.1 ([]:Str) ([]:List T_api_Entry))).symm))) (.cons (.tmp rfl) .nil)),rfl⟩,trivial⟩
  ·replace H:=ifF H hb18
   refine Ok.skip ?_
   refine Ok.seq ?_
   refine Ok.region (σ':=⟨[(2,(.bref 2 0)),(3,(.v (.bool true)))],[(2,(.box .ex (c_api_Entry (T_api_Entry.mk t1.2 t3.1 ([]:Str) ([]:List T_api_Entry)))))]⟩) ?_ ?_
   ·refine .cv (VOk.to (d':=(.agg (e_api_Entry (T_api_Entry.mk t1.2 t3.1 ([]:Str) ([]:List T_api_Entry))))) (.loadBAgg rfl Tryz.underlying45 rfl sz45 rfl rfl rfl) (congrArg D.agg (e_api_Entry_c (T_api_Entry.mk t1.2 t3.1 ([]:Str) ([]:List T_api_Entry))).symm)) rfl rfl ?_
    refine OpsOk.cut1 66 (.agg [(.v (.int .i64 ((T_api_Entry.mk t1.2 t3.1 ([]:Str) ([]:List T_api_Entry)).Kind))),(S ((T_api_Entry.mk t1.2 t3.1 ([]:Str) ([]:List T_api_Entry)).URI)),(S ((T_api_Entry.mk t1.2 t3.1 ([]:Str) ([]:List T_api_Entry)).Name)),(L 4 e_api_Entry ((T_api_Entry.mk t1.2 t3.1 ([]:Str) ([]:List T_api_Entry)).List_))]) (DLe.of_eq (congrArg D.agg (e_api_Entry_c _).symm)) ?_
    refine .rn 2 ?_
    exact .dn
   refine Ok.ret ?_
   obtain rfl:=Option.some.inj H
   exact⟨.inl rfl,⟨_,(.cons (.cell (VOk.to (d':=(.agg (e_api_Entry (T_api_Entry.mk t1.2 t3.1 ([]:Str) ([]:List T_api_Entry))))) (.loadBAgg rfl Tryz.underlying45 rfl sz45 rfl rfl rfl) (congrArg D.agg (e_api_Entry_c (T_api_Entry.mk t1.2 t3.1 ([]:Str) ([]:List T_api_Entry))).symm))) (.cons (.tmp rfl) .nil)),rfl⟩,trivial⟩
def lists_list.j1 (k:Nat) (self:T_api_Node→Option (T_api_Entry × Bool)) (c0:Int→Str→Str→List T_api_Entry→Int→Str→Str→List T_api_Entry→Int→Option (T_api_Entry × Bool)) (x4_9:List T_api_Node) (y2_0_11:Int) (y2_1_12:Str) (y2_2_13:Str) (y2_3_14:List T_api_Entry) (y6_0_15:Int) (y6_1_16:Str) (y6_2_17:Str) (y1123_18:List T_api_Entry) (x58_10:Int) (x11_30:Nat):Option (T_api_Entry × Bool):=(((if x11_30=26 then self (rd x4_9 x58_10) else (if x11_30=43 then lists_plain k (rd x4_9 x58_10) else none))).bind fun (t31:T_api_Entry × Bool) => (if (!t31.2)=true then some ((T_api_Entry.mk 0 ([]:Str) ([]:Str) ([]:List T_api_Entry)),false) else (if (y1123_18.length + ([t31.1]:List T_api_Entry).length) * 64 ≤ 140737488355328 then c0 y2_0_11 y2_1_12 y2_2_13 y2_3_14 y6_0_15 y6_1_16 y6_2_17 (y1123_18 ++ ([t31.1]:List T_api_Entry)) (IntKind.i64.wrap (x58_10 + 1)) else none)))
def lists_list.l0 (k:Nat) (self:T_api_Node→Option (T_api_Entry × Bool)) (x4_9:List T_api_Node):Nat→Int→Str→Str→List T_api_Entry→Int→Str→Str→List T_api_Entry→Int→Option (T_api_Entry × Bool)
 | 0,_,_,_,_,_,_,_,_,_ => none
 | m28 + 1,y2_0_11,y2_1_12,y2_2_13,y2_3_14,y6_0_15,y6_1_16,y6_2_17,y1123_18,x58_10 => (if (decide (x58_10 < (x4_9.length:Int)))=true then (if (0:Int) ≤ x58_10 ∧ x58_10 < (x4_9.length:Int) then ((lists_is (rd x4_9 x58_10) ([108,105,115,116]:Str)).bind fun (t35:Bool) => (if t35=true then lists_list.j1 k self (lists_list.l0 k self x4_9 m28) x4_9 y2_0_11 y2_1_12 y2_2_13 y2_3_14 y6_0_15 y6_1_16 y6_2_17 y1123_18 x58_10 26 else lists_list.j1 k self (lists_list.l0 k self x4_9 m28) x4_9 y2_0_11 y2_1_12 y2_2_13 y2_3_14 y6_0_15 y6_1_16 y6_2_17 y1123_18 x58_10 43)) else none) else some ((T_api_Entry.mk y6_0_15 y6_1_16 y6_2_17 y1123_18),true))
def lists_list.j2 (k:Nat) (self:T_api_Node→Option (T_api_Entry × Bool)) (t7:Str × Bool) (x4_9:List T_api_Node):Option (T_api_Entry × Bool):=lists_list.l0 k self x4_9 k 0 ([]:Str) ([]:Str) ([]:List T_api_Entry) 2 ([]:Str) t7.1 ([]:List T_api_Entry) 0
def lists_list:Nat→T_api_Node→Option (T_api_Entry × Bool)
 | 0,_ => none
 | k + 1,a0 => ((lists_kids k a0).bind fun (t1:(List T_api_Node) × Bool) => (((if ((!t1.2) == false)=true then lists_is a0 ([108,105,115,116]:Str) else some default)).bind fun (t4:Bool) => (if ((!t1.2) || (!t4))=true then some ((T_api_Entry.mk 0 ([]:Str) ([]:Str) ([]:List T_api_Entry)),false) else ((tree_Get k a0 (T_api_Name.mk ([]:Str) ([110,97,109,101]:Str))).bind fun (t7:Str × Bool) => (if (((decide ((t1.1.length:Int) > 0)) == true)=true→(0:Int) ≤ 0 ∧ 0 < (t1.1.length:Int)) then (((if ((decide ((t1.1.length:Int) > 0)) == true)=true then lists_is (rd t1.1 0) ([100,105,115,112,108,97,121,45,110,97,109,101]:Str) else some default)).bind fun (t41:Bool) => (if ((decide ((t1.1.length:Int) > 0)) && t41)=true then (if (0:Int) ≤ 0 ∧ 0 < (t1.1.length:Int) then ((lists_display k (rd t1.1 0)).bind fun (t45:Str × Bool) => (if (!t45.2)=true then some ((T_api_Entry.mk 0 ([]:Str) ([]:Str) ([]:List T_api_Entry)),false) else (if (0:Int) ≤ 1 ∧ (1:Int) ≤ (t1.1.length:Int) ∧ (t1.1.length:Int) ≤ (t1.1.length:Int) then lists_list.j2 k (lists_list k) t7 (sl t1.1 1 (t1.1.length:Int)) else none))) else none) else lists_list.j2 k (lists_list k) t7 t1.1)) else none)))))
theorem lists_list.ok {k:Nat} {a0:T_api_Node} {r:T_api_Entry × Bool} (H:lists_list k a0=some r):Vx.Fn Tryz.prog 26 [(.agg (e_api_Node a0))] [] (.tup [(.agg (e_api_Entry r.1)),(.v (.bool r.2))]) []:=by
 induction k generalizing a0 r with
 | zero => exact absurd H (by simp [lists_list])
 | succ k ih =>
  unfold lists_list at H
  refine Vx.Fn.of_okR Tryz.func26 rfl (Nat.le_of_ble_eq_true rfl) ?_
  refine Ok.seq ?_
  refine Ok.region (σ':=⟨[(1,(.bref 1 0)),(2,(.bref 2 0))],[(1,(bxN a0)),(2,(.box .ex [(.v (.int .i64 0)),S0,S0,(L 4 e_api_Entry ([]:List T_api_Entry))]))]⟩) ?_ ?_
  ·refine OpsOk.cut1 0 (.agg (c_api_Node a0)) (DLe.of_eq (congrArg D.agg (e_api_Node_c _).symm)) ?_
   refine .rn 3 ?_
   exact .dn
  refine Ok.seq ?_
  obtain⟨t1,h2,H⟩:=bindE H
  refine Ok.region (σ':=⟨[(1,(.bref 1 0)),(2,(.bref 2 0)),(4,(L 6 e_api_Node t1.1)),(5,(.v (.bool t1.2)))],[(1,(bxN a0)),(2,(.box .ex [(.v (.int .i64 0)),S0,S0,(L 4 e_api_Entry ([]:List T_api_Entry))]))]⟩) ?_ ?_
  ·refine .cv (VOk.to (d':=(.agg (e_api_Node a0))) (.loadBAgg rfl Tryz.underlying28 rfl sz28 rfl rfl rfl) (congrArg D.agg (e_api_Node_c a0).symm)) rfl rfl ?_
   refine .cg (GOk.call rfl rfl cl24 rfl (lists_kids.ok h2) rfl) rfl rfl ?_
   refine .rn 5 ?_
   exact .dn
  refine Ok.seq ?_
  refine Ok.seq ?_
  obtain⟨t4,h5,H⟩:=bindE H
  refine Ok.region (σ':=⟨[(1,(.bref 1 0)),(2,(.bref 2 0)),(4,(L 6 e_api_Node t1.1)),(25,(.v (.bool ((!t1.2) || (!t4)))))],[(1,(bxN a0)),(2,(.box .ex [(.v (.int .i64 0)),S0,S0,(L 4 e_api_Entry ([]:List T_api_Entry))]))]⟩) ?_ ?_
  ·refine .rn 3 ?_
   refine OpsOk.consI rfl rfl rfl (.one rfl) rfl (fun hw3 => (VOk.g (VOk.to (d':=(.agg (e_api_Node a0))) (.loadBAgg rfl Tryz.underlying28 rfl sz28 rfl rfl rfl) (congrArg D.agg (e_api_Node_c a0).symm)))) ?_
   refine OpsOk.consI rfl rfl rfl (.one rfl) rfl (fun hw3 => (GOk.fr (fr':=[(22,(.agg (e_api_Node a0)))]) ⟨DLe.of_eq (cT hw3).symm,trivial⟩ (GOk.call rfl rfl cl25 rfl (lists_is.ok (ifT h5 hw3)) rfl))) ?_
   refine OpsOk.consI rfl rfl rfl (.one rfl) rfl (fun hw3 => (GOk.fr (fr':=[(23,(.v (.bool t4)))]) ⟨DLe.of_eq (cT hw3).symm,trivial⟩ (VOk.g (VOk.not (b:=t4) rfl rfl)))) ?_
   refine .cv (VOk.to (VOk.pickI (b:=(!t1.2)) (p:=true) (q:=(!t4)) rfl rfl (fun hp6 => rfl) (fun hp6 => (cT (f_beq hp6)))) (pickOr (!t1.2) (!t4))) rfl rfl ?_
   exact .dn
  refine Ok.test (b:=((!t1.2) || (!t4))) rfl (fun hb50 => ?_) (fun hb50 => ?_)
  ·replace H:=ifT H hb50
   refine Ok.seq ?_
   refine Ok.region (σ':=⟨[(2,(.bref 2 0)),(3,(.v (.bool false)))],[(2,(.box .ex (c_api_Entry nE0)))]⟩) ?_ ?_
   ·refine .cv (VOk.to (d':=(.agg (e_api_Entry nE0))) (.build [none,none,none,some 4] [(0,1),(1,1),(2,1),(3,1)] rfl Tryz.underlying45 (fa45 Tryz.underlying45) zo45 rfl rfl) (congrArg D.agg (e_api_Entry_c nE0).symm)) rfl rfl ?_
    refine OpsOk.cut1 26 (.agg [(.v (.int .i64 (nE0.Kind))),(S (nE0.URI)),(S (nE0.Name)),(L 4 e_api_Entry (nE0.List_))]) (DLe.of_eq (congrArg D.agg (e_api_Entry_c _).symm)) ?_
    refine .rn 2 ?_
    exact .dn
   refine Ok.ret ?_
   obtain rfl:=Option.some.inj H
   exact⟨.inl rfl,⟨_,(.cons (.cell (VOk.to (d':=(.agg (e_api_Entry nE0))) (.loadBAgg rfl Tryz.underlying45 rfl sz45 rfl rfl rfl) (congrArg D.agg (e_api_Entry_c nE0).symm))) (.cons (.tmp rfl) .nil)),rfl⟩,trivial⟩
  ·replace H:=ifF H hb50
   refine Ok.skip ?_
   refine Ok.seq ?_
   refine Ok.region (σ':=⟨[(1,(.bref 1 0)),(2,(.bref 2 0)),(4,(L 6 e_api_Node t1.1)),(6,(.bref 6 0))],[(1,(bxN a0)),(2,(.box .ex [(.v (.int .i64 0)),S0,S0,(L 4 e_api_Entry ([]:List T_api_Entry))])),(6,(.box .ex [(.v (.int .i64 2)),S0,S0,(.sref 1123)])),(1123,(.rows true 45 4 (([]:List T_api_Entry).map e_api_Entry)))]⟩) ?_ ?_
   ·refine .cv (VOk.to (d':=(.agg [(.v (.int .i64 2)),S0,S0,(.v (.slice none 0 0))])) (.build [none,none,none,none] [(0,1),(1,1),(2,1),(3,1)] rfl Tryz.underlying45 (fa45 Tryz.underlying45) zo45 rfl rfl) rfl) rfl rfl ?_
    refine OpsOk.cons rfl (OpOk.alloc 6 [none,none,none,none] rfl zo45 rfl rfl) ?_
    refine OpsOk.sle (SLe.adopt 6 1123 3 45 4 rfl rfl rfl rfl rfl) ?_
    refine .rn 1 ?_
    refine OpsOk.sle (SLe.adopt 6 1123 3 45 4 rfl rfl rfl rfl rfl) ?_
    exact .dn
   refine Ok.seq ?_
   obtain⟨t7,h8,H⟩:=bindE H
   refine Ok.region (σ':=⟨[(2,(.bref 2 0)),(4,(L 6 e_api_Node t1.1)),(6,(.bref 6 0))],[(2,(.box .ex [(.v (.int .i64 0)),S0,S0,(L 4 e_api_Entry ([]:List T_api_Entry))])),(6,(.box .ex [(.v (.int .i64 2)),S0,(S t7.1),(.sref 1123)])),(1123,(.rows true 45 4 (([]:List T_api_Entry).map e_api_Entry)))]⟩) ?_ ?_
   ·refine .cv (VOk.to (d':=(.agg (e_api_Node a0))) (.loadBAgg rfl Tryz.underlying28 rfl sz28 rfl rfl rfl) (congrArg D.agg (e_api_Node_c a0).symm)) rfl rfl ?_
    refine .cv (VOk.to (d':=(.agg (e_api_Name (T_api_Name.mk ([]:Str) ([110,97,109,101]:Str))))) (.build [none,none] [(0,1),(1,1)] rfl Tryz.underlying24 (fa24 Tryz.underlying24) zo24 rfl rfl) rfl) rfl rfl ?_
    refine .cg (GOk.call rfl rfl cl41 rfl (tree_Get.ok h8) rfl) rfl rfl ?_
    refine .rn 5 ?_
    exact .dn
   refine Ok.meet (fun σ => ∃ (x4_9:List T_api_Node),σ=⟨[(2,(.bref 2 0)),(4,(L 6 e_api_Node x4_9)),(6,(.bref 6 0))],[(2,(.box .ex [(.v (.int .i64 0)),S0,S0,(L 4 e_api_Entry ([]:List T_api_Entry))])),(6,(.box .ex [(.v (.int .i64 2)),S0,(S t7.1),(.sref 1123)])),(1123,(.rows true 45 4 (([]:List T_api_Entry).map e_api_Entry)))]⟩ ∧ lists_list.j2 k (lists_list k) t7 x4_9=some r) ?_ ?_
   ·refine Ok.seq ?_
    obtain⟨c40,H⟩:=assertE H
    obtain⟨t41,h42,H⟩:=bindE H
    refine Ok.region (σ':=⟨[(2,(.bref 2 0)),(4,(L 6 e_api_Node t1.1)),(6,(.bref 6 0)),(43,(.v (.bool ((decide ((t1.1.length:Int) > 0)) && t41))))],[(2,(.box .ex [(.v (.int .i64 0)),S0,S0,(L 4 e_api_Entry ([]:List T_api_Entry))])),(6,(.box .ex [(.v (.int .i64 2)),S0,(S t7.1),(.sref 1123)])),(1123,(.rows true 45 4 (([]:List T_api_Entry).map e_api_Entry)))]⟩) ?_ ?_
    ·refine .rn 1 ?_
     refine .cv (VOk.lenL (e:=e_api_Node) (xs:=t1.1) rfl Tryz.underlying26 rfl) rfl rfl ?_
     refine .rn 2 ?_
     refine OpsOk.consI rfl rfl rfl (.one rfl) rfl (fun hw39 => (VOk.g (VOk.mv (d:=(L 6 e_api_Node t1.1)) rfl rfl))) ?_
     refine OpsOk.consI rfl rfl rfl (.one rfl) rfl (fun hw39 => (GOk.fr (fr':=[(39,(L 6 e_api_Node t1.1))]) ⟨DLe.of_eq (cT hw39).symm,trivial⟩ (VOk.g (VOk.indexL (sz:=6) (e:=e_api_Node) (xs:=t1.1) (i:=0) rfl Tryz.underlying26 sz28 rfl rfl (c40 hw39))))) ?_
     refine OpsOk.consI rfl rfl rfl (.one rfl) rfl (fun hw39 => (GOk.fr (fr':=[(40,(.fp (e_api_Node (rd t1.1 0)) 0))]) ⟨DLe.of_eq (cT hw39).symm,trivial⟩ (VOk.g (VOk.to (d':=(.agg (e_api_Node (rd t1.1 0)))) (.loadFpAgg rfl Tryz.underlying28 rfl sz28 rfl rfl) rfl)))) ?_
     refine OpsOk.consI rfl rfl rfl (.one rfl) rfl (fun hw39 => (GOk.fr (fr':=[(41,(.agg (e_api_Node (rd t1.1 0))))]) ⟨DLe.of_eq (cT hw39).symm,trivial⟩ (GOk.call rfl rfl cl25 rfl (lists_is.ok (ifT h42 hw39)) rfl))) ?_
     refine .cv (VOk.to (VOk.pickI (b:=(decide ((t1.1.length:Int) > 0))) (p:=t41) (q:=false) rfl rfl (fun hp43 => (cT (t_beq hp43))) (fun hp43 => rfl)) (pickAnd (decide ((t1.1.length:Int) > 0)) t41)) rfl rfl ?_
     exact .dn
    refine Ok.test (b:=((decide ((t1.1.length:Int) > 0)) && t41)) rfl (fun hb49 => ?_) (fun hb49 => ?_)
    ·replace H:=ifT H hb49
     refine Ok.seq ?_
     refine Ok.seq ?_
     obtain⟨c44,H⟩:=assertE H
     obtain⟨t45,h46,H⟩:=bindE H
     refine Ok.region (σ':=⟨[(2,(.bref 2 0)),(4,(L 6 e_api_Node t1.1)),(6,(.bref 6 0)),(8,(.v (.bool t45.2)))],[(2,(.box .ex [(.v (.int .i64 0)),S0,S0,(L 4 e_api_Entry ([]:List T_api_Entry))])),(6,(.box .ex [(.v (.int .i64 2)),S0,(S t7.1),(.sref 1123)])),(1123,(.rows true 45 4 (([]:List T_api_Entry).map e_api_Entry)))]⟩) ?_ ?_
     ·refine .rn 1 ?_
      refine .cv (VOk.indexL (sz:=6) (e:=e_api_Node) (xs:=t1.1) (i:=0) rfl Tryz.underlying26 sz28 rfl rfl c44) rfl rfl ?_
      refine .rn 1 ?_
      refine .cg (GOk.call rfl rfl cl42 rfl (lists_display.ok h46) rfl) rfl rfl ?_
      refine .rn 5 ?_
      exact .dn
     refine Ok.seq ?_
     refine .rg [(2,(.bref 2 0)),(4,(L 6 e_api_Node t1.1)),(6,(.bref 6 0)),(52,(.v (.bool (!t45.2))))] [(2,(.box .ex [(.v (.int .i64 0)),S0,S0,(L 4 e_api_Entry ([]:List T_api_Entry))])),(6,(.box .ex [(.v (.int .i64 2)),S0,(S t7.1),(.sref 1123)])),(1123,(.rows true 45 4 (([]:List T_api_Entry).map e_api_Entry)))] ?_
     refine Ok.test (b:=(!t45.2)) rfl (fun hb48 => ?_) (fun hb48 => ?_)
     ·replace H:=ifT H hb48
      refine Ok.seq ?_
      refine Ok.region (σ':=⟨[(2,(.bref 2 0)),(3,(.v (.bool false)))],[(2,(.box .ex (c_api_Entry nE0)))]⟩) ?_ ?_
      ·refine .cv (VOk.to (d':=(.agg (e_api_Entry nE0))) (.build [none,none,none,some 4] [(0,1),(1,1),(2,1),(3,1)] rfl Tryz.underlying45 (fa45 Tryz.underlying45) zo45 rfl rfl) (congrArg D.agg (e_api_Entry_c nE0).symm)) rfl rfl ?_
       refine OpsOk.cut1 53 (.agg [(.v (.int .i64 (nE0.Kind))),(S (nE0.URI)),(S (nE0.Name)),(L 4 e_api_Entry (nE0.List_))]) (DLe.of_eq (congrArg D.agg (e_api_Entry_c _).symm)) ?_
       refine .rn 2 ?_
       exact .dn
      refine Ok.ret ?_
      obtain rfl:=Option.some.inj H
      exact⟨.inl rfl,⟨_,(.cons (.cell (VOk.to (d':=(.agg (e_api_Entry nE0))) (.loadBAgg rfl Tryz.underlying45 rfl sz45 rfl rfl rfl) (congrArg D.agg (e_api_Entry_c nE0).symm))) (.cons (.tmp rfl) .nil)),rfl⟩,trivial⟩
     ·replace H:=ifF H hb48
      refine Ok.skip ?_
      obtain⟨c47,H⟩:=assertE H
      refine Ok.region (σ':=⟨[(2,(.bref 2 0)),(4,(L 6 e_api_Node (sl t1.1 1 (t1.1.length:Int)))),(6,(.bref 6 0))],[(2,(.box .ex [(.v (.int .i64 0)),S0,S0,(L 4 e_api_Entry ([]:List T_api_Entry))])),(6,(.box .ex [(.v (.int .i64 2)),S0,(S t7.1),(.sref 1123)])),(1123,(.rows true 45 4 (([]:List T_api_Entry).map e_api_Entry)))]⟩) ?_ ?_
      ·refine .rn 1 ?_
       refine .cv (VOk.sliceL (e:=e_api_Node) (xs:=t1.1) (l:=1) (h:=(t1.1.length:Int)) rfl Tryz.underlying26 sz28 rfl rfl rfl c47) rfl rfl ?_
       refine .rn 1 ?_
       exact .dn
      exact⟨(sl t1.1 1 (t1.1.length:Int)),rfl,H⟩
    ·replace H:=ifF H hb49
     refine Ok.le (σ':=⟨[(2,(.bref 2 0)),(4,(L 6 e_api_Node t1.1)),(6,(.bref 6 0))],[(2,(.box .ex [(.v (.int .i64 0)),S0,S0,(L 4 e_api_Entry ([]:List T_api_Entry))])),(6,(.box .ex [(.v (.int .i64 2)),S0,(S t7.1),(.sref 1123)])),(1123,(.rows true 45 4 (([]:List T_api_Entry).map e_api_Entry)))]⟩) (.rf rfl rfl) ?_
     refine Ok.skip ?_
     exact⟨t1.1,rfl,H⟩
   ·rintro σ ⟨x4_9,rfl,H⟩
    unfold lists_list.j2 at H
    refine Ok.seq ?_
    refine Ok.seq ?_
    refine Ok.region (σ':=⟨[(2,(.bref 2 0)),(6,(.bref 6 0)),(56,(L 6 e_api_Node x4_9)),(57,(.v (.int .i64 (x4_9.length:Int)))),(58,(.v (.int .i64 0)))],[(2,(.box .ex [(.v (.int .i64 0)),S0,S0,(L 4 e_api_Entry ([]:List T_api_Entry))])),(6,(.box .ex [(.v (.int .i64 2)),S0,(S t7.1),(.sref 1123)])),(1123,(.rows true 45 4 (([]:List T_api_Entry).map e_api_Entry)))]⟩) ?_ ?_
    ·refine .rn 1 ?_
     refine .cv (VOk.lenL (e:=e_api_Node) (xs:=x4_9) rfl Tryz.underlying26 rfl) rfl rfl ?_
     refine .rn 1 ?_
     exact .dn
    refine Ok.block ?_
    refine Ok.loop (fun m28 σ => ∃ (y2_0_11:Int) (y2_1_12:Str) (y2_2_13:Str) (y2_3_14:List T_api_Entry) (y6_0_15:Int) (y6_1_16:Str) (y6_2_17:Str) (y1123_18:List T_api_Entry) (x58_10:Int),σ=⟨[(2,(.bref 2 0)),(6,(.bref 6 0)),(56,(L 6 e_api_Node x4_9)),(57,(.v (.int .i64 (x4_9.length:Int)))),(58,(.v (.int .i64 x58_10)))],[(2,(.box .ex [(.v (.int .i64 y2_0_11)),(S y2_1_12),(S y2_2_13),(L 4 e_api_Entry y2_3_14)])),(6,(.box .ex [(.v (.int .i64 y6_0_15)),(S y6_1_16),(S y6_2_17),(.sref 1123)])),(1123,(.rows true 45 4 (y1123_18.map e_api_Entry)))]⟩ ∧ lists_list.l0 k (lists_list k) x4_9 m28 y2_0_11 y2_1_12 y2_2_13 y2_3_14 y6_0_15 y6_1_16 y6_2_17 y1123_18 x58_10=some r) k ⟨0,([]:Str),([]:Str),([]:List T_api_Entry),2,([]:Str),t7.1,([]:List T_api_Entry),0,rfl,H⟩ ?_
    rintro m28 σ ⟨y2_0_11,y2_1_12,y2_2_13,y2_3_14,y6_0_15,y6_1_16,y6_2_17,y1123_18,x58_10,rfl,H⟩
    cases m28 with
    | zero => exact absurd H (by simp [lists_list.l0])
    | succ m28 =>
     unfold lists_list.l0 at H
     refine Ok.seq ?_
     refine .rg [(2,(.bref 2 0)),(6,(.bref 6 0)),(56,(L 6 e_api_Node x4_9)),(57,(.v (.int .i64 (x4_9.length:Int)))),(58,(.v (.int .i64 x58_10))),(59,(.v (.bool (decide (x58_10 < (x4_9.length:Int))))))] [(2,(.box .ex [(.v (.int .i64 y2_0_11)),(S y2_1_12),(S y2_2_13),(L 4 e_api_Entry y2_3_14)])),(6,(.box .ex [(.v (.int .i64 y6_0_15)),(S y6_1_16),(S y6_2_17),(.sref 1123)])),(1123,(.rows true 45 4 (y1123_18.map e_api_Entry)))] ?_
     refine Ok.seq ?_
     refine Ok.test (b:=(decide (x58_10 < (x4_9.length:Int)))) rfl (fun hb38 => ?_) (fun hb38 => ?_)
     ·replace H:=ifT H hb38
      refine Ok.skip ?_
      refine Ok.seq ?_
      refine Ok.block ?_
      refine Ok.seq ?_
      obtain⟨c29,H⟩:=assertE H
      refine Ok.region (σ':=⟨[(2,(.bref 2 0)),(6,(.bref 6 0)),(10,(.bref 10 0)),(56,(L 6 e_api_Node x4_9)),(57,(.v (.int .i64 (x4_9.length:Int)))),(58,(.v (.int .i64 x58_10)))],[(2,(.box .ex [(.v (.int .i64 y2_0_11)),(S y2_1_12),(S y2_2_13),(L 4 e_api_Entry y2_3_14)])),(6,(.box .ex [(.v (.int .i64 y6_0_15)),(S y6_1_16),(S y6_2_17),(.sref 1123)])),(10,(.box .ex (c_api_Node (rd x4_9 x58_10)))),(1123,(.rows true 45 4 (y1123_18.map e_api_Entry)))]⟩) ?_ ?_
      ·refine .cv (VOk.indexL (sz:=6) (e:=e_api_Node) (xs:=x4_9) (i:=x58_10) rfl Tryz.underlying26 sz28 rfl rfl c29) rfl rfl ?_
       refine .rn 2 ?_
       refine OpsOk.cut1 61 (.agg [(.v (.int .i64 ((rd x4_9 x58_10).Kind))),(S ((rd x4_9 x58_10).Name.Space)),(S ((rd x4_9 x58_10).Name.Local)),(L 3 e_api_Attr ((rd x4_9 x58_10).Attrs)),(L 6 e_api_Node ((rd x4_9 x58_10).Kids)),(S ((rd x4_9 x58_10).Text))]) (DLe.of_eq (congrArg D.agg (e_api_Node_c _).symm)) ?_
       refine .rn 1 ?_
       exact .dn
      refine Ok.seq ?_
      refine .rg [(2,(.bref 2 0)),(6,(.bref 6 0)),(10,(.bref 10 0)),(11,(.clo 43 [])),(56,(L 6 e_api_Node x4_9)),(57,(.v (.int .i64 (x4_9.length:Int)))),(58,(.v (.int .i64 x58_10)))] [(2,(.box .ex [(.v (.int .i64 y2_0_11)),(S y2_1_12),(S y2_2_13),(L 4 e_api_Entry y2_3_14)])),(6,(.box .ex [(.v (.int .i64 y6_0_15)),(S y6_1_16),(S y6_2_17),(.sref 1123)])),(10,(.box .ex (c_api_Node (rd x4_9 x58_10)))),(1123,(.rows true 45 4 (y1123_18.map e_api_Entry)))] ?_
      refine Ok.meet (fun σ => ∃ (x11_30:Nat),σ=⟨[(2,(.bref 2 0)),(6,(.bref 6 0)),(10,(.bref 10 0)),(11,(.clo x11_30 [])),(56,(L 6 e_api_Node x4_9)),(57,(.v (.int .i64 (x4_9.length:Int)))),(58,(.v (.int .i64 x58_10)))],[(2,(.box .ex [(.v (.int .i64 y2_0_11)),(S y2_1_12),(S y2_2_13),(L 4 e_api_Entry y2_3_14)])),(6,(.box .ex [(.v (.int .i64 y6_0_15)),(S y6_1_16),(S y6_2_17),(.sref 1123)])),(10,(.box .ex (c_api_Node (rd x4_9 x58_10)))),(1123,(.rows true 45 4 (y1123_18.map e_api_Entry)))]⟩ ∧ lists_list.j1 k (lists_list k) (lists_list.l0 k (lists_list k) x4_9 m28) x4_9 y2_0_11 y2_1_12 y2_2_13 y2_3_14 y6_0_15 y6_1_16 y6_2_17 y1123_18 x58_10 x11_30=some r) ?_ ?_
      ·refine Ok.seq ?_
       obtain⟨t35,h36,H⟩:=bindE H
       refine Ok.region (σ':=⟨[(2,(.bref 2 0)),(6,(.bref 6 0)),(10,(.bref 10 0)),(11,(.clo 43 [])),(56,(L 6 e_api_Node x4_9)),(57,(.v (.int .i64 (x4_9.length:Int)))),(58,(.v (.int .i64 x58_10))),(63,(.v (.bool t35)))],[(2,(.box .ex [(.v (.int .i64 y2_0_11)),(S y2_1_12),(S y2_2_13),(L 4 e_api_Entry y2_3_14)])),(6,(.box .ex [(.v (.int .i64 y6_0_15)),(S y6_1_16),(S y6_2_17),(.sref 1123)])),(10,(.box .ex (c_api_Node (rd x4_9 x58_10)))),(1123,(.rows true 45 4 (y1123_18.map e_api_Entry)))]⟩) ?_ ?_
       ·refine .cv (VOk.to (d':=(.agg (e_api_Node (rd x4_9 x58_10)))) (.loadBAgg rfl Tryz.underlying28 rfl sz28 rfl rfl rfl) (congrArg D.agg (e_api_Node_c (rd x4_9 x58_10)).symm)) rfl rfl ?_
        refine .cg (GOk.call rfl rfl cl25 rfl (lists_is.ok h36) rfl) rfl rfl ?_
        exact .dn
       refine Ok.test (b:=t35) rfl (fun hb37 => ?_) (fun hb37 => ?_)
       ·replace H:=ifT H hb37
        refine .rg [(2,(.bref 2 0)),(6,(.bref 6 0)),(10,(.bref 10 0)),(11,(.clo 26 [])),(56,(L 6 e_api_Node x4_9)),(57,(.v (.int .i64 (x4_9.length:Int)))),(58,(.v (.int .i64 x58_10)))] [(2,(.box .ex [(.v (.int .i64 y2_0_11)),(S y2_1_12),(S y2_2_13),(L 4 e_api_Entry y2_3_14)])),(6,(.box .ex [(.v (.int .i64 y6_0_15)),(S y6_1_16),(S y6_2_17),(.sref 1123)])),(10,(.box .ex (c_api_Node (rd x4_9 x58_10)))),(1123,(.rows true 45 4 (y1123_18.map e_api_Entry)))] ?_
        exact⟨26,rfl,H⟩
       ·replace H:=ifF H hb37
        refine Ok.le (σ':=⟨[(2,(.bref 2 0)),(6,(.bref 6 0)),(10,(.bref 10 0)),(11,(.clo 43 [])),(56,(L 6 e_api_Node x4_9)),(57,(.v (.int .i64 (x4_9.length:Int)))),(58,(.v (.int .i64 x58_10)))],[(2,(.box .ex [(.v (.int .i64 y2_0_11)),(S y2_1_12),(S y2_2_13),(L 4 e_api_Entry y2_3_14)])),(6,(.box .ex [(.v (.int .i64 y6_0_15)),(S y6_1_16),(S y6_2_17),(.sref 1123)])),(10,(.box .ex (c_api_Node (rd x4_9 x58_10)))),(1123,(.rows true 45 4 (y1123_18.map e_api_Entry)))]⟩) (.rf rfl rfl) ?_
        refine Ok.skip ?_
        exact⟨43,rfl,H⟩
      ·rintro σ ⟨x11_30,rfl,H⟩
       unfold lists_list.j1 at H
       refine Ok.seq ?_
       obtain⟨t31,h32,H⟩:=bindE H
       refine Ok.region (σ':=⟨[(2,(.bref 2 0)),(6,(.bref 6 0)),(12,(.bref 12 0)),(13,(.v (.bool t31.2))),(56,(L 6 e_api_Node x4_9)),(57,(.v (.int .i64 (x4_9.length:Int)))),(58,(.v (.int .i64 x58_10)))],[(2,(.box .ex [(.v (.int .i64 y2_0_11)),(S y2_1_12),(S y2_2_13),(L 4 e_api_Entry y2_3_14)])),(6,(.box .ex [(.v (.int .i64 y6_0_15)),(S y6_1_16),(S y6_2_17),(.sref 1123)])),(12,(.box .ex (c_api_Entry t31.1))),(1123,(.rows true 45 4 (y1123_18.map e_api_Entry)))]⟩) ?_ ?_
       ·refine .rn 1 ?_
        refine .cv (VOk.to (d':=(.agg (e_api_Node (rd x4_9 x58_10)))) (.loadBAgg rfl Tryz.underlying28 rfl sz28 rfl rfl rfl) (congrArg D.agg (e_api_Node_c (rd x4_9 x58_10)).symm)) rfl rfl ?_
        refine .cg (have q:callable Tryz.prog x11_30=true ∧ Vx.Fn Tryz.prog x11_30 [(.agg (e_api_Node (rd x4_9 x58_10)))] [] (.tup [(.agg (e_api_Entry t31.1)),(.v (.bool t31.2))]) []:=(fun h => selF h (fun e h => by rw [e]; exact⟨cl26,(@ih _ _ h)⟩) (fun h => selF h (fun e h => by rw [e]; exact⟨cl43,(lists_plain.ok h)⟩) (fun h => nomatch h))) h32; GOk.call rfl rfl q.1 rfl q.2 rfl) rfl rfl ?_
        refine .rn 4 ?_
        refine OpsOk.cut1 68 (.agg [(.v (.int .i64 t31.1.Kind)),(S t31.1.URI),(S t31.1.Name),(L 4 e_api_Entry t31.1.List_)]) (DLe.of_eq (congrArg D.agg (e_api_Entry_c _).symm)) ?_
        refine .rn 2 ?_
        exact .dn
       refine Ok.seq ?_
       refine Ok.seq ?_
       refine .rg [(2,(.bref 2 0)),(6,(.bref 6 0)),(12,(.bref 12 0)),(56,(L 6 e_api_Node x4_9)),(57,(.v (.int .i64 (x4_9.length:Int)))),(58,(.v (.int .i64 x58_10))),(71,(.v (.bool (!t31.2))))] [(2,(.box .ex [(.v (.int .i64 y2_0_11)),(S y2_1_12),(S y2_2_13),(L 4 e_api_Entry y2_3_14)])),(6,(.box .ex [(.v (.int .i64 y6_0_15)),(S y6_1_16),(S y6_2_17),(.sref 1123)])),(12,(.box .ex (c_api_Entry t31.1))),(1123,(.rows true 45 4 (y1123_18.map e_api_Entry)))] ?_
       refine Ok.test (b:=(!t31.2)) rfl (fun hb34 => ?_) (fun hb34 => ?_)
       ·replace H:=ifT H hb34
        refine Ok.seq ?_
        refine Ok.region (σ':=⟨[(2,(.bref 2 0)),(3,(.v (.bool false)))],[(2,(.box .ex (c_api_Entry nE0)))]⟩) ?_ ?_
        ·refine .cv (VOk.to (d':=(.agg (e_api_Entry nE0))) (.build [none,none,none,some 4] [(0,1),(1,1),(2,1),(3,1)] rfl Tryz.underlying45 (fa45 Tryz.underlying45) zo45 rfl rfl) (congrArg D.agg (e_api_Entry_c nE0).symm)) rfl rfl ?_
         refine OpsOk.cut1 72 (.agg [(.v (.int .i64 (nE0.Kind))),(S (nE0.URI)),(S (nE0.Name)),(L 4 e_api_Entry (nE0.List_))]) (DLe.of_eq (congrArg D.agg (e_api_Entry_c _).symm)) ?_
         refine .rn 2 ?_
         exact .dn
        refine Ok.ret ?_
        obtain rfl:=Option.some.inj H
        exact⟨.inl rfl,⟨_,(.cons (.cell (VOk.to (d':=(.agg (e_api_Entry nE0))) (.loadBAgg rfl Tryz.underlying45 rfl sz45 rfl rfl rfl) (congrArg D.agg (e_api_Entry_c nE0).symm))) (.cons (.tmp rfl) .nil)),rfl⟩,trivial⟩
       ·replace H:=ifF H hb34
        refine Ok.skip ?_
        obtain⟨c33,H⟩:=assertE H
        refine Ok.region (σ':=⟨[(2,(.bref 2 0)),(6,(.bref 6 0)),(56,(L 6 e_api_Node x4_9)),(57,(.v (.int .i64 (x4_9.length:Int)))),(58,(.v (.int .i64 x58_10)))],[(2,(.box .ex [(.v (.int .i64 y2_0_11)),(S y2_1_12),(S y2_2_13),(L 4 e_api_Entry y2_3_14)])),(6,(.box .ex [(.v (.int .i64 y6_0_15)),(S y6_1_16),(S y6_2_17),(.sref 1123)])),(1123,(.rows true 45 4 ((y1123_18 ++ ([t31.1]:List T_api_Entry)).map e_api_Entry)))]⟩) ?_ ?_
        ·refine .rn 2 ?_
         refine .cv (VOk.to (d':=(.agg (e_api_Entry t31.1))) (.loadBAgg rfl Tryz.underlying45 rfl sz45 rfl rfl rfl) (congrArg D.agg (e_api_Entry_c t31.1).symm)) rfl rfl ?_
         refine .cg (GOk.to (d':=(L 4 e_api_Entry ([t31.1]:List T_api_Entry))) (GOk.lit rfl Tryz.underlying22 sz45 zs45 rfl rfl rfl rfl) rfl) rfl rfl ?_
         refine OpsOk.cons rfl (OpOk.appendL (e:=e_api_Entry) (xs:=y1123_18) (ys:=([t31.1]:List T_api_Entry)) rfl Tryz.underlying22 elt45 rfl rfl rfl c33 rfl) ?_
         refine .rn 2 ?_
         exact .dn
        refine .rg [(2,(.bref 2 0)),(6,(.bref 6 0)),(56,(L 6 e_api_Node x4_9)),(57,(.v (.int .i64 (x4_9.length:Int)))),(58,(.v (.int .i64 (IntKind.i64.wrap (x58_10 + 1)))))] [(2,(.box .ex [(.v (.int .i64 y2_0_11)),(S y2_1_12),(S y2_2_13),(L 4 e_api_Entry y2_3_14)])),(6,(.box .ex [(.v (.int .i64 y6_0_15)),(S y6_1_16),(S y6_2_17),(.sref 1123)])),(1123,(.rows true 45 4 ((y1123_18 ++ ([t31.1]:List T_api_Entry)).map e_api_Entry)))] ?_
        exact⟨m28,Nat.lt_succ_self m28,y2_0_11,y2_1_12,y2_2_13,y2_3_14,y6_0_15,y6_1_16,y6_2_17,(y1123_18 ++ ([t31.1]:List T_api_Entry)),(IntKind.i64.wrap (x58_10 + 1)),rfl,H⟩
     ·replace H:=ifF H hb38
      refine Ok.exit ?_
      refine Ok.seq ?_
      refine Ok.region (σ':=⟨[(2,(.bref 2 0)),(3,(.v (.bool true)))],[(2,(.box .ex (c_api_Entry (T_api_Entry.mk y6_0_15 y6_1_16 y6_2_17 y1123_18))))]⟩) ?_ ?_
      ·refine OpsOk.frzL 1123 (e:=e_api_Entry) (xs:=y1123_18) rfl ?_
       refine .cv (VOk.to (d':=(.agg (e_api_Entry (T_api_Entry.mk y6_0_15 y6_1_16 y6_2_17 y1123_18)))) (.loadBAgg rfl Tryz.underlying45 rfl sz45 rfl rfl rfl) (congrArg D.agg (e_api_Entry_c (T_api_Entry.mk y6_0_15 y6_1_16 y6_2_17 y1123_18)).symm)) rfl rfl ?_
       refine OpsOk.cut1 80 (.agg [(.v (.int .i64 ((T_api_Entry.mk y6_0_15 y6_1_16 y6_2_17 y1123_18).Kind))),(S ((T_api_Entry.mk y6_0_15 y6_1_16 y6_2_17 y1123_18).URI)),(S ((T_api_Entry.mk y6_0_15 y6_1_16 y6_2_17 y1123_18).Name)),(L 4 e_api_Entry ((T_api_Entry.mk y6_0_15 y6_1_16 y6_2_17 y1123_18).List_))]) (DLe.of_eq (congrArg D.agg (e_api_Entry_c _).symm)) ?_
       refine .rn 2 ?_
       exact .dn
      refine Ok.ret ?_
      obtain rfl:=Option.some.inj H
      exact⟨.inl rfl,⟨_,(.cons (.cell (VOk.to (d':=(.agg (e_api_Entry (T_api_Entry.mk y6_0_15 y6_1_16 y6_2_17 y1123_18)))) (.loadBAgg rfl Tryz.underlying45 rfl sz45 rfl rfl rfl) (congrArg D.agg (e_api_Entry_c (T_api_Entry.mk y6_0_15 y6_1_16 y6_2_17 y1123_18)).symm))) (.cons (.tmp rfl) .nil)),rfl⟩,trivial⟩
def lists_unique.j1 (self:List T_api_Entry→Option Bool) (c0:List (T_lists_key × Bool)→Int→Option Bool) (a0:List T_api_Entry) (y7_2:List (T_lists_key × Bool)) (x10_1:Int) (y6_1_7:Str):Option Bool:=(((if ((lkm keq87 false y7_2 (T_lists_key.mk ((T_lists_key.mk ((rd a0 x10_1).Kind) ((rd a0 x10_1).URI)).Kind_) y6_1_7)) == false)=true then self ((rd a0 x10_1).List_) else some default)).bind fun (t9:Bool) => (if ((lkm keq87 false y7_2 (T_lists_key.mk ((T_lists_key.mk ((rd a0 x10_1).Kind) ((rd a0 x10_1).URI)).Kind_) y6_1_7)) || (!t9))=true then some false else c0 (upm keq87 y7_2 (T_lists_key.mk ((T_lists_key.mk ((rd a0 x10_1).Kind) ((rd a0 x10_1).URI)).Kind_) y6_1_7) true) (IntKind.i64.wrap (x10_1 + 1))))
def lists_unique.l0 (k:Nat) (self:List T_api_Entry→Option Bool) (a0:List T_api_Entry):Nat→List (T_lists_key × Bool)→Int→Option Bool
 | 0,_,_ => none
 | m5 + 1,y7_2,x10_1 => (if (decide (x10_1 < (a0.length:Int)))=true then (if (0:Int) ≤ x10_1 ∧ x10_1 < (a0.length:Int) then (if (((rd a0 x10_1).Kind) == 2)=true then lists_unique.j1 self (lists_unique.l0 k self a0 m5) a0 y7_2 x10_1 ((rd a0 x10_1).Name) else lists_unique.j1 self (lists_unique.l0 k self a0 m5) a0 y7_2 x10_1 ((T_lists_key.mk ((rd a0 x10_1).Kind) ((rd a0 x10_1).URI)).Text_)) else none) else some true)
def lists_unique:Nat→List T_api_Entry→Option Bool
 | 0,_ => none
 | k + 1,a0 => lists_unique.l0 k (lists_unique k) a0 k ([]:List (T_lists_key × Bool)) 0
theorem lists_unique.ok {k:Nat} {a0:List T_api_Entry} {r:Bool} (H:lists_unique k a0=some r):Vx.Fn Tryz.prog 27 [(L 4 e_api_Entry a0)] [] (.v (.bool r)) []:=by
 induction k generalizing a0 r with
 | zero => exact absurd H (by simp [lists_unique])
 | succ k ih =>
  unfold lists_unique at H
  refine Vx.Fn.of_okR Tryz.func27 rfl (Nat.le_of_ble_eq_true rfl) ?_
  refine Ok.seq ?_
  refine .rg [(0,(L 4 e_api_Entry a0))] [] ?_
  refine Ok.seq ?_
  refine Ok.region (σ':=⟨[(0,(L 4 e_api_Entry a0)),(3,(.mref 7))],[(7,(.map (List.map (fun p => ((fun a => D.agg (e_lists_key a)) p.1,D.v (Value.bool p.2))) ([]:List (T_lists_key × Bool)))))]⟩) ?_ ?_
  ·refine OpsOk.cons rfl (OpOk.mapNew 7 rfl rfl) ?_
   refine .rn 1 ?_
   exact .dn
  refine Ok.seq ?_
  refine Ok.seq ?_
  refine Ok.region (σ':=⟨[(3,(.mref 7)),(8,(L 4 e_api_Entry a0)),(9,(.v (.int .i64 (a0.length:Int)))),(10,(.v (.int .i64 0)))],[(7,(.map (List.map (fun p => ((fun a => D.agg (e_lists_key a)) p.1,D.v (Value.bool p.2))) ([]:List (T_lists_key × Bool)))))]⟩) ?_ ?_
  ·refine .rn 1 ?_
   refine .cv (VOk.lenL (e:=e_api_Entry) (xs:=a0) rfl Tryz.underlying22 rfl) rfl rfl ?_
   refine .rn 1 ?_
   exact .dn
  refine Ok.block ?_
  refine Ok.loop (fun m5 σ => ∃ (y7_2:List (T_lists_key × Bool)) (x10_1:Int),σ=⟨[(3,(.mref 7)),(8,(L 4 e_api_Entry a0)),(9,(.v (.int .i64 (a0.length:Int)))),(10,(.v (.int .i64 x10_1)))],[(7,(.map (List.map (fun p => ((fun a => D.agg (e_lists_key a)) p.1,D.v (Value.bool p.2))) y7_2)))]⟩ ∧ lists_unique.l0 k (lists_unique k) a0 m5 y7_2 x10_1=some r) k ⟨([]:List (T_lists_key × Bool)),0,rfl,H⟩ ?_
  rintro m5 σ ⟨y7_2,x10_1,rfl,H⟩
  cases m5 with
  | zero => exact absurd H (by simp [lists_unique.l0])
  | succ m5 =>
   unfold lists_unique.l0 at H
   refine Ok.seq ?_
   refine .rg [(3,(.mref 7)),(8,(L 4 e_api_Entry a0)),(9,(.v (.int .i64 (a0.length:Int)))),(10,(.v (.int .i64 x10_1))),(11,(.v (.bool (decide (x10_1 < (a0.length:Int))))))] [(7,(.map (List.map (fun p => ((fun a => D.agg (e_lists_key a)) p.1,D.v (Value.bool p.2))) y7_2)))] ?_
   refine Ok.seq ?_
   refine Ok.test (b:=(decide (x10_1 < (a0.length:Int)))) rfl (fun hb14 => ?_) (fun hb14 => ?_)
   ·replace H:=ifT H hb14
    refine Ok.skip ?_
    refine Ok.seq ?_
    refine Ok.block ?_
    refine Ok.seq ?_
    obtain⟨c6,H⟩:=assertE H
    refine Ok.region (σ':=⟨[(3,(.mref 7)),(5,(.bref 5 0)),(8,(L 4 e_api_Entry a0)),(9,(.v (.int .i64 (a0.length:Int)))),(10,(.v (.int .i64 x10_1)))],[(5,(.box .ex (c_api_Entry (rd a0 x10_1)))),(7,(.map (List.map (fun p => ((fun a => D.agg (e_lists_key a)) p.1,D.v (Value.bool p.2))) y7_2)))]⟩) ?_ ?_
    ·refine .cv (VOk.indexL (sz:=4) (e:=e_api_Entry) (xs:=a0) (i:=x10_1) rfl Tryz.underlying22 sz45 rfl rfl c6) rfl rfl ?_
     refine .rn 2 ?_
     refine OpsOk.cut1 13 (.agg [(.v (.int .i64 ((rd a0 x10_1).Kind))),(S ((rd a0 x10_1).URI)),(S ((rd a0 x10_1).Name)),(L 4 e_api_Entry ((rd a0 x10_1).List_))]) (DLe.of_eq (congrArg D.agg (e_api_Entry_c _).symm)) ?_
     refine .rn 1 ?_
     exact .dn
    refine Ok.seq ?_
    refine Ok.region (σ':=⟨[(3,(.mref 7)),(5,(.bref 5 0)),(6,(.bref 6 0)),(8,(L 4 e_api_Entry a0)),(9,(.v (.int .i64 (a0.length:Int)))),(10,(.v (.int .i64 x10_1)))],[(5,(.box .ex (c_api_Entry (rd a0 x10_1)))),(6,(.box .ex [(.v (.int .i64 ((T_lists_key.mk ((rd a0 x10_1).Kind) ((rd a0 x10_1).URI)).Kind_))),(S ((T_lists_key.mk ((rd a0 x10_1).Kind) ((rd a0 x10_1).URI)).Text_))])),(7,(.map (List.map (fun p => ((fun a => D.agg (e_lists_key a)) p.1,D.v (Value.bool p.2))) y7_2)))]⟩) ?_ ?_
    ·refine .rn 4 ?_
     refine .cv (VOk.to (d':=(.agg (e_lists_key (T_lists_key.mk ((rd a0 x10_1).Kind) ((rd a0 x10_1).URI))))) (.build [none,none] [(0,1),(1,1)] rfl Tryz.underlying87 (fa87 Tryz.underlying87) zo87 rfl rfl) rfl) rfl rfl ?_
     refine .rn 2 ?_
     exact .dn
    refine Ok.meet (fun σ => ∃ (y6_1_7:Str),σ=⟨[(3,(.mref 7)),(5,(.bref 5 0)),(6,(.bref 6 0)),(8,(L 4 e_api_Entry a0)),(9,(.v (.int .i64 (a0.length:Int)))),(10,(.v (.int .i64 x10_1)))],[(5,(.box .ex (c_api_Entry (rd a0 x10_1)))),(6,(.box .ex [(.v (.int .i64 ((T_lists_key.mk ((rd a0 x10_1).Kind) ((rd a0 x10_1).URI)).Kind_))),(S y6_1_7)])),(7,(.map (List.map (fun p => ((fun a => D.agg (e_lists_key a)) p.1,D.v (Value.bool p.2))) y7_2)))]⟩ ∧ lists_unique.j1 (lists_unique k) (lists_unique.l0 k (lists_unique k) a0 m5) a0 y7_2 x10_1 y6_1_7=some r) ?_ ?_
    ·refine Ok.seq ?_
     refine .rg [(3,(.mref 7)),(5,(.bref 5 0)),(6,(.bref 6 0)),(8,(L 4 e_api_Entry a0)),(9,(.v (.int .i64 (a0.length:Int)))),(10,(.v (.int .i64 x10_1))),(21,(.v (.bool (((rd a0 x10_1).Kind) == 2))))] [(5,(.box .ex (c_api_Entry (rd a0 x10_1)))),(6,(.box .ex [(.v (.int .i64 ((T_lists_key.mk ((rd a0 x10_1).Kind) ((rd a0 x10_1).URI)).Kind_))),(S ((T_lists_key.mk ((rd a0 x10_1).Kind) ((rd a0 x10_1).URI)).Text_))])),(7,(.map (List.map (fun p => ((fun a => D.agg (e_lists_key a)) p.1,D.v (Value.bool p.2))) y7_2)))] ?_
     refine Ok.test (b:=(((rd a0 x10_1).Kind) == 2)) rfl (fun hb13 => ?_) (fun hb13 => ?_)
     ·replace H:=ifT H hb13
      refine .rg [(3,(.mref 7)),(5,(.bref 5 0)),(6,(.bref 6 0)),(8,(L 4 e_api_Entry a0)),(9,(.v (.int .i64 (a0.length:Int)))),(10,(.v (.int .i64 x10_1)))] [(5,(.box .ex (c_api_Entry (rd a0 x10_1)))),(6,(.box .ex [(.v (.int .i64 ((T_lists_key.mk ((rd a0 x10_1).Kind) ((rd a0 x10_1).URI)).Kind_))),(S ((rd a0 x10_1).Name))])),(7,(.map (List.map (fun p => ((fun a => D.agg (e_lists_key a)) p.1,D.v (Value.bool p.2))) y7_2)))] ?_
      exact⟨((rd a0 x10_1).Name),rfl,H⟩
     ·replace H:=ifF H hb13
      refine Ok.le (σ':=⟨[(3,(.mref 7)),(5,(.bref 5 0)),(6,(.bref 6 0)),(8,(L 4 e_api_Entry a0)),(9,(.v (.int .i64 (a0.length:Int)))),(10,(.v (.int .i64 x10_1)))],[(5,(.box .ex (c_api_Entry (rd a0 x10_1)))),(6,(.box .ex [(.v (.int .i64 ((T_lists_key.mk ((rd a0 x10_1).Kind) ((rd a0 x10_1).URI)).Kind_))),(S ((T_lists_key.mk ((rd a0 x10_1).Kind) ((rd a0 x10_1).URI)).Text_))])),(7,(.map (List.map (fun p => ((fun a => D.agg (e_lists_key a)) p.1,D.v (Value.bool p.2))) y7_2)))]⟩) (.rf rfl rfl) ?_
      refine Ok.skip ?_
      exact⟨((T_lists_key.mk ((rd a0 x10_1).Kind) ((rd a0 x10_1).URI)).Text_),rfl,H⟩
    ·rintro σ ⟨y6_1_7,rfl,H⟩
     unfold lists_unique.j1 at H
     refine Ok.seq ?_
     refine Ok.seq ?_
     obtain⟨t9,h10,H⟩:=bindE H
     refine Ok.region (σ':=⟨[(3,(.mref 7)),(6,(.bref 6 0)),(8,(L 4 e_api_Entry a0)),(9,(.v (.int .i64 (a0.length:Int)))),(10,(.v (.int .i64 x10_1))),(33,(.v (.bool ((lkm keq87 false y7_2 (T_lists_key.mk ((T_lists_key.mk ((rd a0 x10_1).Kind) ((rd a0 x10_1).URI)).Kind_) y6_1_7)) || (!t9)))))],[(6,(.box .ex [(.v (.int .i64 ((T_lists_key.mk ((rd a0 x10_1).Kind) ((rd a0 x10_1).URI)).Kind_))),(S y6_1_7)])),(7,(.map (List.map (fun p => ((fun a => D.agg (e_lists_key a)) p.1,D.v (Value.bool p.2))) y7_2)))]⟩) ?_ ?_
     ·refine .rn 2 ?_
      refine .cv (VOk.mapGet (vv:=Value.bool) (m:=y7_2) (k:=(T_lists_key.mk ((T_lists_key.mk ((rd a0 x10_1).Kind) ((rd a0 x10_1).URI)).Kind_) y6_1_7)) false rfl Tryz.underlying85 kt87 zo4 rfl rfl rfl) rfl rfl ?_
      refine .rn 1 ?_
      refine OpsOk.consI rfl rfl rfl (.one rfl) rfl (fun hw8 => (VOk.g (VOk.to (VOk.fieldB rfl Tryz.underlying45 rfl sz22 rfl rfl) rfl))) ?_
      refine OpsOk.consI rfl rfl rfl (.one rfl) rfl (fun hw8 => (GOk.fr (fr':=[(29,(.bref 5 3))]) ⟨DLe.of_eq (cT hw8).symm,trivial⟩ (VOk.g (VOk.loadB (d:=(L 4 e_api_Entry ((rd a0 x10_1).List_))) rfl Tryz.underlying22 rfl rfl rfl rfl)))) ?_
      refine OpsOk.consI rfl rfl rfl (.one rfl) rfl (fun hw8 => (GOk.fr (fr':=[(30,(L 4 e_api_Entry ((rd a0 x10_1).List_)))]) ⟨DLe.of_eq (cT hw8).symm,trivial⟩ (GOk.call rfl rfl cl27 rfl (@ih _ _ (ifT h10 hw8)) rfl))) ?_
      refine OpsOk.consI rfl rfl rfl (.one rfl) rfl (fun hw8 => (GOk.fr (fr':=[(31,(.v (.bool t9)))]) ⟨DLe.of_eq (cT hw8).symm,trivial⟩ (VOk.g (VOk.not (b:=t9) rfl rfl)))) ?_
      refine .cv (VOk.to (VOk.pickI (b:=(lkm keq87 false y7_2 (T_lists_key.mk ((T_lists_key.mk ((rd a0 x10_1).Kind) ((rd a0 x10_1).URI)).Kind_) y6_1_7))) (p:=true) (q:=(!t9)) rfl rfl (fun hp11 => rfl) (fun hp11 => (cT (f_beq hp11)))) (pickOr (lkm keq87 false y7_2 (T_lists_key.mk ((T_lists_key.mk ((rd a0 x10_1).Kind) ((rd a0 x10_1).URI)).Kind_) y6_1_7)) (!t9))) rfl rfl ?_
      exact .dn
     refine Ok.test (b:=((lkm keq87 false y7_2 (T_lists_key.mk ((T_lists_key.mk ((rd a0 x10_1).Kind) ((rd a0 x10_1).URI)).Kind_) y6_1_7)) || (!t9))) rfl (fun hb12 => ?_) (fun hb12 => ?_)
     ·replace H:=ifT H hb12
      refine Ok.seq ?_
      refine .rg [(2,(.v (.bool false)))] [] ?_
      refine Ok.ret ?_
      obtain rfl:=Option.some.inj H
      exact⟨.inl rfl,⟨_,(.cons (.tmp rfl) .nil),rfl⟩,trivial⟩
     ·replace H:=ifF H hb12
      refine Ok.skip ?_
      refine Ok.region (σ':=⟨[(3,(.mref 7)),(8,(L 4 e_api_Entry a0)),(9,(.v (.int .i64 (a0.length:Int)))),(10,(.v (.int .i64 x10_1)))],[(7,(.map (List.map (fun p => ((fun a => D.agg (e_lists_key a)) p.1,D.v (Value.bool p.2))) (upm keq87 y7_2 (T_lists_key.mk ((T_lists_key.mk ((rd a0 x10_1).Kind) ((rd a0 x10_1).URI)).Kind_) y6_1_7) true))))]⟩) ?_ ?_
      ·refine .rn 2 ?_
       refine OpsOk.cons rfl (OpOk.mapSet (vv:=Value.bool) (m:=y7_2) (k:=(T_lists_key.mk ((T_lists_key.mk ((rd a0 x10_1).Kind) ((rd a0 x10_1).URI)).Kind_) y6_1_7)) (v:=true) rfl Tryz.underlying85 kt87 (.same _) rfl (.same _) (.same _) rfl) ?_
       exact .dn
      refine .rg [(3,(.mref 7)),(8,(L 4 e_api_Entry a0)),(9,(.v (.int .i64 (a0.length:Int)))),(10,(.v (.int .i64 (IntKind.i64.wrap (x10_1 + 1)))))] [(7,(.map (List.map (fun p => ((fun a => D.agg (e_lists_key a)) p.1,D.v (Value.bool p.2))) (upm keq87 y7_2 (T_lists_key.mk ((T_lists_key.mk ((rd a0 x10_1).Kind) ((rd a0 x10_1).URI)).Kind_) y6_1_7) true))))] ?_
      exact⟨m5,Nat.lt_succ_self m5,(upm keq87 y7_2 (T_lists_key.mk ((T_lists_key.mk ((rd a0 x10_1).Kind) ((rd a0 x10_1).URI)).Kind_) y6_1_7) true),(IntKind.i64.wrap (x10_1 + 1)),rfl,H⟩
   ·replace H:=ifF H hb14
    refine Ok.exit ?_
    refine Ok.seq ?_
    refine .rg [(2,(.v (.bool true)))] [] ?_
    refine Ok.ret ?_
    obtain rfl:=Option.some.inj H
    exact⟨.inl rfl,⟨_,(.cons (.tmp rfl) .nil),rfl⟩,trivial⟩
def lists_DecodeList (k:Nat) (a0:T_api_Node):Option (T_api_Entry × Int):=((lists_list k a0).bind fun (t1:T_api_Entry × Bool) => (if (!t1.2)=true then some ((T_api_Entry.mk 0 ([]:Str) ([]:Str) ([]:List T_api_Entry)),40) else ((lists_unique k t1.1.List_).bind fun (t3:Bool) => (if (!t3)=true then some ((T_api_Entry.mk 0 ([]:Str) ([]:Str) ([]:List T_api_Entry)),41) else some (t1.1,0)))))
theorem lists_DecodeList.ok {k:Nat} {a0:T_api_Node} {r:T_api_Entry × Int} (H:lists_DecodeList k a0=some r):Vx.Fn Tryz.prog 21 [(.agg (e_api_Node a0))] [] (.tup [(.agg (e_api_Entry r.1)),(.v (.int .i64 r.2))]) []:=by
 unfold lists_DecodeList at H
 refine Vx.Fn.of_okR Tryz.func21 rfl (Nat.le_of_ble_eq_true rfl) ?_
 refine Ok.seq ?_
 refine Ok.region (σ':=⟨[(1,(.bref 1 0)),(2,(.bref 2 0))],[(1,(bxN a0)),(2,(.box .ex [(.v (.int .i64 0)),S0,S0,(L 4 e_api_Entry ([]:List T_api_Entry))]))]⟩) ?_ ?_
 ·refine OpsOk.cut1 0 (.agg (c_api_Node a0)) (DLe.of_eq (congrArg D.agg (e_api_Node_c _).symm)) ?_
  refine .rn 3 ?_
  exact .dn
 refine Ok.seq ?_
 obtain⟨t1,h2,H⟩:=bindE H
 refine Ok.region (σ':=⟨[(2,(.bref 2 0)),(4,(.bref 4 0)),(5,(.v (.bool t1.2)))],[(2,(.box .ex [(.v (.int .i64 0)),S0,S0,(L 4 e_api_Entry ([]:List T_api_Entry))])),(4,(.box .ex (c_api_Entry t1.1)))]⟩) ?_ ?_
 ·refine .cv (VOk.to (d':=(.agg (e_api_Node a0))) (.loadBAgg rfl Tryz.underlying28 rfl sz28 rfl rfl rfl) (congrArg D.agg (e_api_Node_c a0).symm)) rfl rfl ?_
  refine .cg (GOk.call rfl rfl cl26 rfl (lists_list.ok h2) rfl) rfl rfl ?_
  refine .rn 4 ?_
  refine OpsOk.cut1 9 (.agg [(.v (.int .i64 t1.1.Kind)),(S t1.1.URI),(S t1.1.Name),(L 4 e_api_Entry t1.1.List_)]) (DLe.of_eq (congrArg D.agg (e_api_Entry_c _).symm)) ?_
  refine .rn 2 ?_
  exact .dn
 refine Ok.seq ?_
 refine Ok.block ?_
 refine Ok.seq ?_
 refine .rg [(2,(.bref 2 0)),(4,(.bref 4 0)),(11,(.v (.bool (!t1.2))))] [(2,(.box .ex [(.v (.int .i64 0)),S0,S0,(L 4 e_api_Entry ([]:List T_api_Entry))])),(4,(.box .ex (c_api_Entry t1.1)))] ?_
 refine Ok.test (b:=(!t1.2)) rfl (fun hb6 => ?_) (fun hb6 => ?_)
 ·replace H:=ifT H hb6
  refine Ok.seq ?_
  refine Ok.region (σ':=⟨[(2,(.bref 2 0)),(3,(.v (.int .i64 40)))],[(2,(.box .ex (c_api_Entry nE0)))]⟩) ?_ ?_
  ·refine .cv (VOk.to (d':=(.agg (e_api_Entry nE0))) (.build [none,none,none,some 4] [(0,1),(1,1),(2,1),(3,1)] rfl Tryz.underlying45 (fa45 Tryz.underlying45) zo45 rfl rfl) (congrArg D.agg (e_api_Entry_c nE0).symm)) rfl rfl ?_
   refine OpsOk.cut1 14 (.agg [(.v (.int .i64 (nE0.Kind))),(S (nE0.URI)),(S (nE0.Name)),(L 4 e_api_Entry (nE0.List_))]) (DLe.of_eq (congrArg D.agg (e_api_Entry_c _).symm)) ?_
   refine .rn 2 ?_
   exact .dn
  refine Ok.ret ?_
  obtain rfl:=Option.some.inj H
  exact⟨.inl rfl,⟨_,(.cons (.cell (VOk.to (d':=(.agg (e_api_Entry nE0))) (.loadBAgg rfl Tryz.underlying45 rfl sz45 rfl rfl rfl) (congrArg D.agg (e_api_Entry_c nE0).symm))) (.cons (.tmp rfl) .nil)),rfl⟩,trivial⟩
 ·replace H:=ifF H hb6
  refine Ok.seq ?_
  obtain⟨t3,h4,H⟩:=bindE H
  refine Ok.region (σ':=⟨[(2,(.bref 2 0)),(4,(.bref 4 0)),(15,(.v (.bool (!t3))))],[(2,(.box .ex [(.v (.int .i64 0)),S0,S0,(L 4 e_api_Entry ([]:List T_api_Entry))])),(4,(.box .ex (c_api_Entry t1.1)))]⟩) ?_ ?_
  ·refine .rn 2 ?_
   refine .cg (GOk.call rfl rfl cl27 rfl (lists_unique.ok h4) rfl) rfl rfl ?_
   refine .rn 2 ?_
   exact .dn
  refine Ok.test (b:=(!t3)) rfl (fun hb5 => ?_) (fun hb5 => ?_)
  ·replace H:=ifT H hb5
   refine Ok.seq ?_
   refine Ok.region (σ':=⟨[(2,(.bref 2 0)),(3,(.v (.int .i64 41)))],[(2,(.box .ex (c_api_Entry nE0)))]⟩) ?_ ?_
   ·refine .cv (VOk.to (d':=(.agg (e_api_Entry nE0))) (.build [none,none,none,some 4] [(0,1),(1,1),(2,1),(3,1)] rfl Tryz.underlying45 (fa45 Tryz.underlying45) zo45 rfl rfl) (congrArg D.agg (e_api_Entry_c nE0).symm)) rfl rfl ?_
    refine OpsOk.cut1 20 (.agg [(.v (.int .i64 (nE0.Kind))),(S (nE0.URI)),(S (nE0.Name)),(L 4 e_api_Entry (nE0.List_))]) (DLe.of_eq (congrArg D.agg (e_api_Entry_c _).symm)) ?_
    refine .rn 2 ?_
    exact .dn
   refine Ok.ret ?_
   obtain rfl:=Option.some.inj H
   exact⟨.inl rfl,⟨_,(.cons (.cell (VOk.to (d':=(.agg (e_api_Entry nE0))) (.loadBAgg rfl Tryz.underlying45 rfl sz45 rfl rfl rfl) (congrArg D.agg (e_api_Entry_c nE0).symm))) (.cons (.tmp rfl) .nil)),rfl⟩,trivial⟩
  ·replace H:=ifF H hb5
   refine Ok.skip ?_
   refine Ok.seq ?_
   refine Ok.region (σ':=⟨[(2,(.bref 2 0)),(3,(.v (.int .i64 0)))],[(2,(.box .ex (c_api_Entry t1.1)))]⟩) ?_ ?_
   ·refine .cv (VOk.to (d':=(.agg (e_api_Entry t1.1))) (.loadBAgg rfl Tryz.underlying45 rfl sz45 rfl rfl rfl) (congrArg D.agg (e_api_Entry_c t1.1).symm)) rfl rfl ?_
    refine OpsOk.cut1 21 (.agg [(.v (.int .i64 t1.1.Kind)),(S t1.1.URI),(S t1.1.Name),(L 4 e_api_Entry t1.1.List_)]) (DLe.of_eq (congrArg D.agg (e_api_Entry_c _).symm)) ?_
    refine .rn 2 ?_
    exact .dn
   refine Ok.ret ?_
   obtain rfl:=Option.some.inj H
   exact⟨.inl rfl,⟨_,(.cons (.cell (VOk.to (d':=(.agg (e_api_Entry t1.1))) (.loadBAgg rfl Tryz.underlying45 rfl sz45 rfl rfl rfl) (congrArg D.agg (e_api_Entry_c t1.1).symm))) (.cons (.tmp rfl) .nil)),rfl⟩,trivial⟩
def lists_Decode.l0 (k:Nat) (t1:(List T_api_Node) × Bool):Nat→List T_api_Entry→Int→Option ((List T_api_Entry) × Int)
 | 0,_,_ => none
 | m11 + 1,y6_8,x25_7 => (if (decide (x25_7 < (t1.1.length:Int)))=true then (if (0:Int) ≤ x25_7 ∧ x25_7 < (t1.1.length:Int) then ((lists_list k (rd t1.1 x25_7)).bind fun (t13:T_api_Entry × Bool) => (if (!t13.2)=true then some (([]:List T_api_Entry),40) else (if (y6_8.length + ([t13.1]:List T_api_Entry).length) * 64 ≤ 140737488355328 then lists_Decode.l0 k t1 m11 (y6_8 ++ ([t13.1]:List T_api_Entry)) (IntKind.i64.wrap (x25_7 + 1)) else none))) else none) else ((lists_unique k y6_8).bind fun (t17:Bool) => (if (!t17)=true then some (([]:List T_api_Entry),41) else some (y6_8,0))))
def lists_Decode (k:Nat) (a0:T_api_Node):Option ((List T_api_Entry) × Int):=((lists_kids k a0).bind fun (t1:(List T_api_Node) × Bool) => (((if ((!t1.2) == false)=true then lists_is a0 ([114,101,115,111,117,114,99,101,45,108,105,115,116,115]:Str) else some default)).bind fun (t4:Bool) => (if ((!t1.2) || (!t4))=true then some (([]:List T_api_Entry),40) else lists_Decode.l0 k t1 k ([]:List T_api_Entry) 0)))
theorem lists_Decode.ok {k:Nat} {a0:T_api_Node} {r:(List T_api_Entry) × Int} (H:lists_Decode k a0=some r):Vx.Fn Tryz.prog 10 [(.agg (e_api_Node a0))] [] (.tup [(L 4 e_api_Entry r.1),(.v (.int .i64 r.2))]) []:=by
 unfold lists_Decode at H
 refine Vx.Fn.of_okR Tryz.func10 rfl (Nat.le_of_ble_eq_true rfl) ?_
 refine Ok.seq ?_
 refine Ok.region (σ':=⟨[(1,(.bref 1 0))],[(1,(bxN a0))]⟩) ?_ ?_
 ·refine OpsOk.cut1 0 (.agg (c_api_Node a0)) (DLe.of_eq (congrArg D.agg (e_api_Node_c _).symm)) ?_
  refine .rn 3 ?_
  exact .dn
 refine Ok.seq ?_
 obtain⟨t1,h2,H⟩:=bindE H
 refine Ok.region (σ':=⟨[(1,(.bref 1 0)),(4,(L 6 e_api_Node t1.1)),(5,(.v (.bool t1.2)))],[(1,(bxN a0))]⟩) ?_ ?_
 ·refine .cv (VOk.to (d':=(.agg (e_api_Node a0))) (.loadBAgg rfl Tryz.underlying28 rfl sz28 rfl rfl rfl) (congrArg D.agg (e_api_Node_c a0).symm)) rfl rfl ?_
  refine .cg (GOk.call rfl rfl cl24 rfl (lists_kids.ok h2) rfl) rfl rfl ?_
  refine .rn 5 ?_
  exact .dn
 refine Ok.seq ?_
 refine Ok.seq ?_
 obtain⟨t4,h5,H⟩:=bindE H
 refine Ok.region (σ':=⟨[(4,(L 6 e_api_Node t1.1)),(22,(.v (.bool ((!t1.2) || (!t4)))))],[]⟩) ?_ ?_
 ·refine .rn 3 ?_
  refine OpsOk.consI rfl rfl rfl (.one rfl) rfl (fun hw3 => (VOk.g (VOk.to (d':=(.agg (e_api_Node a0))) (.loadBAgg rfl Tryz.underlying28 rfl sz28 rfl rfl rfl) (congrArg D.agg (e_api_Node_c a0).symm)))) ?_
  refine OpsOk.consI rfl rfl rfl (.one rfl) rfl (fun hw3 => (GOk.fr (fr':=[(19,(.agg (e_api_Node a0)))]) ⟨DLe.of_eq (cT hw3).symm,trivial⟩ (GOk.call rfl rfl cl25 rfl (lists_is.ok (ifT h5 hw3)) rfl))) ?_
  refine OpsOk.consI rfl rfl rfl (.one rfl) rfl (fun hw3 => (GOk.fr (fr':=[(20,(.v (.bool t4)))]) ⟨DLe.of_eq (cT hw3).symm,trivial⟩ (VOk.g (VOk.not (b:=t4) rfl rfl)))) ?_
  refine .cv (VOk.to (VOk.pickI (b:=(!t1.2)) (p:=true) (q:=(!t4)) rfl rfl (fun hp6 => rfl) (fun hp6 => (cT (f_beq hp6)))) (pickOr (!t1.2) (!t4))) rfl rfl ?_
  exact .dn
 refine Ok.test (b:=((!t1.2) || (!t4))) rfl (fun hb21 => ?_) (fun hb21 => ?_)
 ·replace H:=ifT H hb21
  refine Ok.seq ?_
  refine .rg [(2,(.v (.slice none 0 0))),(3,(.v (.int .i64 40)))] [] ?_
  refine Ok.le (σ':=⟨[(2,(L 4 e_api_Entry ([]:List T_api_Entry))),(3,(.v (.int .i64 40)))],[]⟩) (.mk ⟨.nil _,.same _,trivial⟩ trivial) ?_
  refine Ok.ret ?_
  obtain rfl:=Option.some.inj H
  exact⟨.inl rfl,⟨_,(.cons (.tmp rfl) (.cons (.tmp rfl) .nil)),rfl⟩,trivial⟩
 ·replace H:=ifF H hb21
  refine Ok.skip ?_
  refine Ok.seq ?_
  refine Ok.region (σ':=⟨[(4,(L 6 e_api_Node t1.1)),(6,(.sref 6))],[(6,(.rows true 45 4 (([]:List T_api_Entry).map e_api_Entry)))]⟩) ?_ ?_
  ·refine OpsOk.cons rfl (.nilT 6 45 4 (.inl rfl) rfl rfl) ?_
   exact .dn
  refine Ok.seq ?_
  refine Ok.seq ?_
  refine Ok.region (σ':=⟨[(6,(.sref 6)),(23,(L 6 e_api_Node t1.1)),(24,(.v (.int .i64 (t1.1.length:Int)))),(25,(.v (.int .i64 0)))],[(6,(.rows true 45 4 (([]:List T_api_Entry).map e_api_Entry)))]⟩) ?_ ?_
  ·refine .rn 1 ?_
   refine .cv (VOk.lenL (e:=e_api_Node) (xs:=t1.1) rfl Tryz.underlying26 rfl) rfl rfl ?_
   refine .rn 1 ?_
   exact .dn
  refine Ok.block ?_
  refine Ok.loop (fun m11 σ => ∃ (y6_8:List T_api_Entry) (x25_7:Int),σ=⟨[(6,(.sref 6)),(23,(L 6 e_api_Node t1.1)),(24,(.v (.int .i64 (t1.1.length:Int)))),(25,(.v (.int .i64 x25_7)))],[(6,(.rows true 45 4 (y6_8.map e_api_Entry)))]⟩ ∧ lists_Decode.l0 k t1 m11 y6_8 x25_7=some r) k ⟨([]:List T_api_Entry),0,rfl,H⟩ ?_
  rintro m11 σ ⟨y6_8,x25_7,rfl,H⟩
  cases m11 with
  | zero => exact absurd H (by simp [lists_Decode.l0])
  | succ m11 =>
   unfold lists_Decode.l0 at H
   refine Ok.seq ?_
   refine .rg [(6,(.sref 6)),(23,(L 6 e_api_Node t1.1)),(24,(.v (.int .i64 (t1.1.length:Int)))),(25,(.v (.int .i64 x25_7))),(26,(.v (.bool (decide (x25_7 < (t1.1.length:Int))))))] [(6,(.rows true 45 4 (y6_8.map e_api_Entry)))] ?_
   refine Ok.seq ?_
   refine Ok.test (b:=(decide (x25_7 < (t1.1.length:Int)))) rfl (fun hb20 => ?_) (fun hb20 => ?_)
   ·replace H:=ifT H hb20
    refine Ok.skip ?_
    refine Ok.seq ?_
    refine Ok.block ?_
    refine Ok.seq ?_
    obtain⟨c12,H⟩:=assertE H
    refine Ok.region (σ':=⟨[(6,(.sref 6)),(8,(.bref 8 0)),(23,(L 6 e_api_Node t1.1)),(24,(.v (.int .i64 (t1.1.length:Int)))),(25,(.v (.int .i64 x25_7)))],[(6,(.rows true 45 4 (y6_8.map e_api_Entry))),(8,(.box .ex (c_api_Node (rd t1.1 x25_7))))]⟩) ?_ ?_
    ·refine .cv (VOk.indexL (sz:=6) (e:=e_api_Node) (xs:=t1.1) (i:=x25_7) rfl Tryz.underlying26 sz28 rfl rfl c12) rfl rfl ?_
     refine .rn 2 ?_
     refine OpsOk.cut1 28 (.agg [(.v (.int .i64 ((rd t1.1 x25_7).Kind))),(S ((rd t1.1 x25_7).Name.Space)),(S ((rd t1.1 x25_7).Name.Local)),(L 3 e_api_Attr ((rd t1.1 x25_7).Attrs)),(L 6 e_api_Node ((rd t1.1 x25_7).Kids)),(S ((rd t1.1 x25_7).Text))]) (DLe.of_eq (congrArg D.agg (e_api_Node_c _).symm)) ?_
     refine .rn 1 ?_
     exact .dn
    refine Ok.seq ?_
    obtain⟨t13,h14,H⟩:=bindE H
    refine Ok.region (σ':=⟨[(6,(.sref 6)),(9,(.bref 9 0)),(10,(.v (.bool t13.2))),(23,(L 6 e_api_Node t1.1)),(24,(.v (.int .i64 (t1.1.length:Int)))),(25,(.v (.int .i64 x25_7)))],[(6,(.rows true 45 4 (y6_8.map e_api_Entry))),(9,(.box .ex (c_api_Entry t13.1)))]⟩) ?_ ?_
    ·refine .cv (VOk.to (d':=(.agg (e_api_Node (rd t1.1 x25_7)))) (.loadBAgg rfl Tryz.underlying28 rfl sz28 rfl rfl rfl) (congrArg D.agg (e_api_Node_c (rd t1.1 x25_7)).symm)) rfl rfl ?_
     refine .cg (GOk.call rfl rfl cl26 rfl (lists_list.ok h14) rfl) rfl rfl ?_
     refine .rn 4 ?_
     refine OpsOk.cut1 32 (.agg [(.v (.int .i64 t13.1.Kind)),(S t13.1.URI),(S t13.1.Name),(L 4 e_api_Entry t13.1.List_)]) (DLe.of_eq (congrArg D.agg (e_api_Entry_c _).symm)) ?_
     refine .rn 2 ?_
     exact .dn
    refine Ok.seq ?_
    refine Ok.seq ?_
    refine .rg [(6,(.sref 6)),(9,(.bref 9 0)),(23,(L 6 e_api_Node t1.1)),(24,(.v (.int .i64 (t1.1.length:Int)))),(25,(.v (.int .i64 x25_7))),(35,(.v (.bool (!t13.2))))] [(6,(.rows true 45 4 (y6_8.map e_api_Entry))),(9,(.box .ex (c_api_Entry t13.1)))] ?_
    refine Ok.test (b:=(!t13.2)) rfl (fun hb16 => ?_) (fun hb16 => ?_)
    ·replace H:=ifT H hb16
     refine Ok.seq ?_
     refine .rg [(2,(.v (.slice none 0 0))),(3,(.v (.int .i64 40)))] [] ?_
     refine Ok.le (σ':=⟨[(2,(L 4 e_api_Entry ([]:List T_api_Entry))),(3,(.v (.int .i64 40)))],[]⟩) (.mk ⟨.nil _,.same _,trivial⟩ trivial) ?_
     refine Ok.ret ?_
     obtain rfl:=Option.some.inj H
     exact⟨.inl rfl,⟨_,(.cons (.tmp rfl) (.cons (.tmp rfl) .nil)),rfl⟩,trivial⟩
    ·replace H:=ifF H hb16
     refine Ok.skip ?_
     obtain⟨c15,H⟩:=assertE H
     refine Ok.region (σ':=⟨[(6,(.sref 6)),(23,(L 6 e_api_Node t1.1)),(24,(.v (.int .i64 (t1.1.length:Int)))),(25,(.v (.int .i64 x25_7)))],[(6,(.rows true 45 4 ((y6_8 ++ ([t13.1]:List T_api_Entry)).map e_api_Entry)))]⟩) ?_ ?_
     ·refine .rn 1 ?_
      refine .cv (VOk.to (d':=(.agg (e_api_Entry t13.1))) (.loadBAgg rfl Tryz.underlying45 rfl sz45 rfl rfl rfl) (congrArg D.agg (e_api_Entry_c t13.1).symm)) rfl rfl ?_
      refine .cg (GOk.to (d':=(L 4 e_api_Entry ([t13.1]:List T_api_Entry))) (GOk.lit rfl Tryz.underlying22 sz45 zs45 rfl rfl rfl rfl) rfl) rfl rfl ?_
      refine OpsOk.cons rfl (OpOk.appendL (e:=e_api_Entry) (xs:=y6_8) (ys:=([t13.1]:List T_api_Entry)) rfl Tryz.underlying22 elt45 rfl rfl rfl c15 rfl) ?_
      refine .rn 1 ?_
      exact .dn
     refine .rg [(6,(.sref 6)),(23,(L 6 e_api_Node t1.1)),(24,(.v (.int .i64 (t1.1.length:Int)))),(25,(.v (.int .i64 (IntKind.i64.wrap (x25_7 + 1)))))] [(6,(.rows true 45 4 ((y6_8 ++ ([t13.1]:List T_api_Entry)).map e_api_Entry)))] ?_
     exact⟨m11,Nat.lt_succ_self m11,(y6_8 ++ ([t13.1]:List T_api_Entry)),(IntKind.i64.wrap (x25_7 + 1)),rfl,H⟩
   ·replace H:=ifF H hb20
    refine Ok.exit ?_
    refine Ok.seq ?_
    refine Ok.seq ?_
    obtain⟨t17,h18,H⟩:=bindE H
    refine Ok.region (σ':=⟨[(6,(.sref 6)),(43,(.v (.bool (!t17))))],[(6,(.rows true 45 4 (y6_8.map e_api_Entry)))]⟩) ?_ ?_
    ·refine .rn 1 ?_
     refine .cg (GOk.callV rfl rfl cl27 rfl (lists_unique.ok h18) rfl) rfl rfl ?_
     refine .rn 1 ?_
     exact .dn
    refine Ok.test (b:=(!t17)) rfl (fun hb19 => ?_) (fun hb19 => ?_)
    ·replace H:=ifT H hb19
     refine Ok.seq ?_
     refine .rg [(2,(.v (.slice none 0 0))),(3,(.v (.int .i64 41)))] [] ?_
     refine Ok.le (σ':=⟨[(2,(L 4 e_api_Entry ([]:List T_api_Entry))),(3,(.v (.int .i64 41)))],[]⟩) (.mk ⟨.nil _,.same _,trivial⟩ trivial) ?_
     refine Ok.ret ?_
     obtain rfl:=Option.some.inj H
     exact⟨.inl rfl,⟨_,(.cons (.tmp rfl) (.cons (.tmp rfl) .nil)),rfl⟩,trivial⟩
    ·replace H:=ifF H hb19
     refine Ok.skip ?_
     refine Ok.seq ?_
     refine .rg [(2,(.sref 6)),(3,(.v (.int .i64 0)))] [(6,(.rows true 45 4 (y6_8.map e_api_Entry)))] ?_
     refine Ok.frzL 6 (e:=e_api_Entry) (xs:=y6_8) rfl ?_
     refine Ok.ret ?_
     obtain rfl:=Option.some.inj H
     exact⟨.inl rfl,⟨_,(.cons (.tmp rfl) (.cons (.tmp rfl) .nil)),rfl⟩,trivial⟩
def lists_element (a0:Str) (a1:Str) (a2:Str):Option T_api_Node:=((lists_own a0).bind fun (t1:T_api_Name) => (if (!(a2 == ([]:Str)))=true then some (T_api_Node.mk 1 (T_api_Name.mk t1.Space t1.Local) ([(T_api_Attr.mk (T_api_Name.mk ((T_api_Name.mk ([]:Str) a1).Space) ((T_api_Name.mk ([]:Str) a1).Local)) a2)]:List T_api_Attr) [] ([]:Str)) else some (T_api_Node.mk 1 (T_api_Name.mk t1.Space t1.Local) ([]:List T_api_Attr) [] ([]:Str))))
theorem lists_element.ok {a0:Str} {a1:Str} {a2:Str} {r:T_api_Node} (H:lists_element a0 a1 a2=some r):Vx.Fn Tryz.prog 28 [(S a0),(S a1),(S a2)] [] (.agg [(.v (.int .i64 r.Kind)),(S r.Name.Space),(S r.Name.Local),(L 3 e_api_Attr r.Attrs),(.v (.slice none 0 0)),(S r.Text)]) []:=by
 unfold lists_element at H
 refine Vx.Fn.of_okR Tryz.func28 rfl (Nat.le_of_ble_eq_true rfl) ?_
 refine Ok.seq ?_
 refine Ok.region (σ':=⟨[(0,(S a0)),(1,(S a1)),(2,(S a2)),(6,(.bref 6 0))],[(6,(.box .ex [(.v (.int .i64 0)),S0,S0,(.v (.slice none 0 0)),(.v (.slice none 0 0)),S0]))]⟩) ?_ ?_
 ·refine OpsOk.cons rfl (OpOk.alloc 6 [none,none,none,none,none,none] rfl zo28 rfl rfl) ?_
  exact .dn
 refine Ok.seq ?_
 obtain⟨t1,h2,H⟩:=bindE H
 refine Ok.region (σ':=⟨[(1,(S a1)),(2,(S a2)),(6,(.bref 6 0)),(7,(.bref 7 0))],[(6,(.box .ex [(.v (.int .i64 0)),S0,S0,(.v (.slice none 0 0)),(.v (.slice none 0 0)),S0])),(7,(.box .ex [(.v (.int .i64 1)),(S t1.Space),(S t1.Local),(.v (.slice none 0 0)),(.v (.slice none 0 0)),S0]))]⟩) ?_ ?_
 ·refine .rn 1 ?_
  refine .cg (GOk.call rfl rfl cl40 rfl (lists_own.ok h2) rfl) rfl rfl ?_
  refine .cv (VOk.to (d':=(.agg [(.v (.int .i64 1)),(S t1.Space),(S t1.Local),(.v (.slice none 0 0)),(.v (.slice none 0 0)),S0])) (.build [none,none,none,none,none,none] [(0,1),(1,2),(3,1),(4,1),(5,1)] rfl Tryz.underlying28 (fa28 Tryz.underlying28) zo28 rfl rfl) rfl) rfl rfl ?_
  refine OpsOk.cons rfl (OpOk.alloc 7 [none,none,none,none,none,none] rfl zo28 rfl rfl) ?_
  refine .rn 1 ?_
  exact .dn
 refine Ok.seq ?_
 refine Ok.seq ?_
 refine .rg [(1,(S a1)),(2,(S a2)),(6,(.bref 6 0)),(7,(.bref 7 0)),(12,(.v (.bool (!(a2 == ([]:Str))))))] [(6,(.box .ex [(.v (.int .i64 0)),S0,S0,(.v (.slice none 0 0)),(.v (.slice none 0 0)),S0])),(7,(.box .ex [(.v (.int .i64 1)),(S t1.Space),(S t1.Local),(.v (.slice none 0 0)),(.v (.slice none 0 0)),S0]))] ?_
 refine Ok.test (b:=(!(a2 == ([]:Str)))) rfl (fun hb3 => ?_) (fun hb3 => ?_)
 ·replace H:=ifT H hb3
  refine Ok.region (σ':=⟨[(6,(.bref 6 0)),(7,(.bref 7 0))],[(6,(.box .ex [(.v (.int .i64 0)),S0,S0,(.v (.slice none 0 0)),(.v (.slice none 0 0)),S0])),(7,(.box .ex [(.v (.int .i64 1)),(S t1.Space),(S t1.Local),(L 3 e_api_Attr ([(T_api_Attr.mk (T_api_Name.mk ((T_api_Name.mk ([]:Str) a1).Space) ((T_api_Name.mk ([]:Str) a1).Local)) a2)]:List T_api_Attr)),(.v (.slice none 0 0)),S0]))]⟩) ?_ ?_
  ·refine .rn 1 ?_
   refine .cv (VOk.to (d':=(.agg (e_api_Name (T_api_Name.mk ([]:Str) a1)))) (.build [none,none] [(0,1),(1,1)] rfl Tryz.underlying24 (fa24 Tryz.underlying24) zo24 rfl rfl) rfl) rfl rfl ?_
   refine .rn 1 ?_
   refine .cv (VOk.to (d':=(.agg (e_api_Attr (T_api_Attr.mk (T_api_Name.mk ((T_api_Name.mk ([]:Str) a1).Space) ((T_api_Name.mk ([]:Str) a1).Local)) a2)))) (.build [none,none,none] [(0,2),(2,1)] rfl Tryz.underlying41 (fa41 Tryz.underlying41) zo41 rfl rfl) rfl) rfl rfl ?_
   refine .cg (GOk.to (d':=(L 3 e_api_Attr ([(T_api_Attr.mk (T_api_Name.mk ((T_api_Name.mk ([]:Str) a1).Space) ((T_api_Name.mk ([]:Str) a1).Local)) a2)]:List T_api_Attr))) (GOk.lit rfl Tryz.underlying25 sz41 zs41 rfl rfl rfl rfl) rfl) rfl rfl ?_
   refine .rn 2 ?_
   exact .dn
  refine Ok.seq ?_
  refine .rg [(6,(.bref 6 0))] [(6,(.box .ex [(.v (.int .i64 1)),(S t1.Space),(S t1.Local),(L 3 e_api_Attr ([(T_api_Attr.mk (T_api_Name.mk ((T_api_Name.mk ([]:Str) a1).Space) ((T_api_Name.mk ([]:Str) a1).Local)) a2)]:List T_api_Attr)),(.v (.slice none 0 0)),S0]))] ?_
  refine Ok.le (σ':=⟨[(6,(.bref 6 0))],[(6,(.box .ex [(.v (.int .i64 1)),(S t1.Space),(S t1.Local),(L 3 e_api_Attr ([(T_api_Attr.mk (T_api_Name.mk ((T_api_Name.mk ([]:Str) a1).Space) ((T_api_Name.mk ([]:Str) a1).Local)) a2)]:List T_api_Attr)),(.v (.slice none 0 0)),S0]))]⟩) (.mk ⟨.same _,trivial⟩ ⟨(.cells ⟨.same _,.same _,.same _,.same _,.same _,.same _,trivial⟩),trivial⟩) ?_
  refine Ok.ret ?_
  obtain rfl:=Option.some.inj H
  exact⟨.inl rfl,⟨_,(.cons (.cell (VOk.to (d':=(.agg [(.v (.int .i64 1)),(S t1.Space),(S t1.Local),(L 3 e_api_Attr ([(T_api_Attr.mk (T_api_Name.mk ((T_api_Name.mk ([]:Str) a1).Space) ((T_api_Name.mk ([]:Str) a1).Local)) a2)]:List T_api_Attr)),(.v (.slice none 0 0)),S0])) (.loadBAgg rfl Tryz.underlying28 rfl sz28 rfl rfl rfl) rfl)) .nil),rfl⟩,trivial⟩
 ·replace H:=ifF H hb3
  refine Ok.skip ?_
  refine Ok.seq ?_
  refine .rg [(6,(.bref 6 0))] [(6,(.box .ex [(.v (.int .i64 1)),(S t1.Space),(S t1.Local),(.v (.slice none 0 0)),(.v (.slice none 0 0)),S0]))] ?_
  refine Ok.le (σ':=⟨[(6,(.bref 6 0))],[(6,(.box .ex [(.v (.int .i64 1)),(S t1.Space),(S t1.Local),(L 3 e_api_Attr ([]:List T_api_Attr)),(.v (.slice none 0 0)),S0]))]⟩) (.mk ⟨.same _,trivial⟩ ⟨(.cells ⟨.same _,.same _,.same _,.nil _,.same _,.same _,trivial⟩),trivial⟩) ?_
  refine Ok.ret ?_
  obtain rfl:=Option.some.inj H
  exact⟨.inl rfl,⟨_,(.cons (.cell (VOk.to (d':=(.agg [(.v (.int .i64 1)),(S t1.Space),(S t1.Local),(L 3 e_api_Attr ([]:List T_api_Attr)),(.v (.slice none 0 0)),S0])) (.loadBAgg rfl Tryz.underlying28 rfl sz28 rfl rfl rfl) rfl)) .nil),rfl⟩,trivial⟩
def lists_may.l0 (k:Nat) (self:T_api_Entry→Option Bool) (a0:T_api_Entry):Nat→Int→Str→Str→List T_api_Entry→Int→Option Bool
 | 0,_,_,_,_,_ => none
 | m11 + 1,y1_0_2,y1_1_3,y1_2_4,y1_3_5,x12_1 => (if (decide (x12_1 < (a0.List_.length:Int)))=true then (if (0:Int) ≤ x12_1 ∧ x12_1 < (a0.List_.length:Int) then ((self (rd a0.List_ x12_1)).bind fun (t13:Bool) => (if (!t13)=true then some false else lists_may.l0 k self a0 m11 y1_0_2 y1_1_3 y1_2_4 y1_3_5 (IntKind.i64.wrap (x12_1 + 1)))) else none) else some (y1_1_3 == ([]:Str)))
def lists_may.j1 (a0:T_api_Entry) (x42_23:Bool):Option Bool:=(if x42_23=true then some (((!(a0.URI == ([]:Str))) && ((a0.List_.length:Int) == 0)) && (a0.Name == ([]:Str))) else some false)
def lists_may:Nat→T_api_Entry→Option Bool
 | 0,_ => none
 | k + 1,a0 => (if (a0.Kind == 2)=true then lists_may.l0 k (lists_may k) a0 k a0.Kind a0.URI a0.Name a0.List_ 0 else (if (a0.Kind == 1)=true then (((if (((!(a0.URI == ([]:Str))) && ((a0.List_.length:Int) == 0)) == true)=true then utf_Trim k a0.Name else some default)).bind fun (t20:Str) => some (((!(a0.URI == ([]:Str))) && ((a0.List_.length:Int) == 0)) && (t20 == a0.Name))) else (if (a0.Kind == 3)=true then lists_may.j1 a0 (a0.Kind == 3) else lists_may.j1 a0 (a0.Kind == 4))))
theorem lists_may.ok {k:Nat} {a0:T_api_Entry} {r:Bool} (H:lists_may k a0=some r):Vx.Fn Tryz.prog 29 [(.agg (e_api_Entry a0))] [] (.v (.bool r)) []:=by
 induction k generalizing a0 r with
 | zero => exact absurd H (by simp [lists_may])
 | succ k ih =>
  unfold lists_may at H
  refine Vx.Fn.of_okR Tryz.func29 rfl (Nat.le_of_ble_eq_true rfl) ?_
  refine Ok.seq ?_
  refine Ok.region (σ':=⟨[(1,(.bref 1 0))],[(1,(.box .ex (c_api_Entry a0)))]⟩) ?_ ?_
  ·refine OpsOk.cut1 0 (.agg [(.v (.int .i64 a0.Kind)),(S a0.URI),(S a0.Name),(L 4 e_api_Entry a0.List_)]) (DLe.of_eq (congrArg D.agg (e_api_Entry_c _).symm)) ?_
   refine .rn 2 ?_
   exact .dn
  refine Ok.seq ?_
  refine Ok.seq ?_
  refine .rg [(1,(.bref 1 0)),(6,(.v (.int .i64 a0.Kind)))] [(1,(.box .ex (c_api_Entry a0)))] ?_
  refine Ok.block ?_
  refine Ok.seq ?_
  refine .rg [(1,(.bref 1 0)),(6,(.v (.int .i64 a0.Kind))),(7,(.v (.bool (a0.Kind == 2))))] [(1,(.box .ex (c_api_Entry a0)))] ?_
  refine Ok.test (b:=(a0.Kind == 2)) rfl (fun hb31 => ?_) (fun hb31 => ?_)
  ·replace H:=ifT H hb31
   refine Ok.seq ?_
   refine Ok.seq ?_
   refine Ok.region (σ':=⟨[(1,(.bref 1 0)),(10,(L 4 e_api_Entry a0.List_)),(11,(.v (.int .i64 (a0.List_.length:Int)))),(12,(.v (.int .i64 0)))],[(1,(.box .ex (c_api_Entry a0)))]⟩) ?_ ?_
   ·refine .rn 2 ?_
    refine .cv (VOk.lenL (e:=e_api_Entry) (xs:=a0.List_) rfl Tryz.underlying22 rfl) rfl rfl ?_
    refine .rn 1 ?_
    exact .dn
   refine Ok.block ?_
   refine Ok.loop (fun m11 σ => ∃ (y1_0_2:Int) (y1_1_3:Str) (y1_2_4:Str) (y1_3_5:List T_api_Entry) (x12_1:Int),σ=⟨[(1,(.bref 1 0)),(10,(L 4 e_api_Entry a0.List_)),(11,(.v (.int .i64 (a0.List_.length:Int)))),(12,(.v (.int .i64 x12_1)))],[(1,(.box .ex [(.v (.int .i64 y1_0_2)),(S y1_1_3),(S y1_2_4),(L 4 e_api_Entry y1_3_5)]))]⟩ ∧ lists_may.l0 k (lists_may k) a0 m11 y1_0_2 y1_1_3 y1_2_4 y1_3_5 x12_1=some r) k ⟨a0.Kind,a0.URI,a0.Name,a0.List_,0,rfl,H⟩ ?_
   rintro m11 σ ⟨y1_0_2,y1_1_3,y1_2_4,y1_3_5,x12_1,rfl,H⟩
   cases m11 with
   | zero => exact absurd H (by simp [lists_may.l0])
   | succ m11 =>
    unfold lists_may.l0 at H
    refine Ok.seq ?_
    refine .rg [(1,(.bref 1 0)),(10,(L 4 e_api_Entry a0.List_)),(11,(.v (.int .i64 (a0.List_.length:Int)))),(12,(.v (.int .i64 x12_1))),(13,(.v (.bool (decide (x12_1 < (a0.List_.length:Int))))))] [(1,(.box .ex [(.v (.int .i64 y1_0_2)),(S y1_1_3),(S y1_2_4),(L 4 e_api_Entry y1_3_5)]))] ?_
    refine Ok.seq ?_
    refine Ok.test (b:=(decide (x12_1 < (a0.List_.length:Int)))) rfl (fun hb16 => ?_) (fun hb16 => ?_)
    ·replace H:=ifT H hb16
     refine Ok.skip ?_
     refine Ok.seq ?_
     refine Ok.block ?_
     refine Ok.seq ?_
     obtain⟨c12,H⟩:=assertE H
     refine Ok.region (σ':=⟨[(1,(.bref 1 0)),(4,(.bref 4 0)),(10,(L 4 e_api_Entry a0.List_)),(11,(.v (.int .i64 (a0.List_.length:Int)))),(12,(.v (.int .i64 x12_1)))],[(1,(.box .ex [(.v (.int .i64 y1_0_2)),(S y1_1_3),(S y1_2_4),(L 4 e_api_Entry y1_3_5)])),(4,(.box .ex (c_api_Entry (rd a0.List_ x12_1))))]⟩) ?_ ?_
     ·refine .cv (VOk.indexL (sz:=4) (e:=e_api_Entry) (xs:=a0.List_) (i:=x12_1) rfl Tryz.underlying22 sz45 rfl rfl c12) rfl rfl ?_
      refine .rn 2 ?_
      refine OpsOk.cut1 15 (.agg [(.v (.int .i64 ((rd a0.List_ x12_1).Kind))),(S ((rd a0.List_ x12_1).URI)),(S ((rd a0.List_ x12_1).Name)),(L 4 e_api_Entry ((rd a0.List_ x12_1).List_))]) (DLe.of_eq (congrArg D.agg (e_api_Entry_c _).symm)) ?_
      refine .rn 1 ?_
      exact .dn
     refine Ok.seq ?_
     obtain⟨t13,h14,H⟩:=bindE H
     refine Ok.region (σ':=⟨[(1,(.bref 1 0)),(10,(L 4 e_api_Entry a0.List_)),(11,(.v (.int .i64 (a0.List_.length:Int)))),(12,(.v (.int .i64 x12_1))),(18,(.v (.bool (!t13))))],[(1,(.box .ex [(.v (.int .i64 y1_0_2)),(S y1_1_3),(S y1_2_4),(L 4 e_api_Entry y1_3_5)]))]⟩) ?_ ?_
     ·refine .cv (VOk.to (d':=(.agg (e_api_Entry (rd a0.List_ x12_1)))) (.loadBAgg rfl Tryz.underlying45 rfl sz45 rfl rfl rfl) (congrArg D.agg (e_api_Entry_c (rd a0.List_ x12_1)).symm)) rfl rfl ?_
      refine .cg (GOk.call rfl rfl cl29 rfl (@ih _ _ h14) rfl) rfl rfl ?_
      refine .rn 1 ?_
      exact .dn
     refine Ok.test (b:=(!t13)) rfl (fun hb15 => ?_) (fun hb15 => ?_)
     ·replace H:=ifT H hb15
      refine Ok.seq ?_
      refine .rg [(2,(.v (.bool false)))] [] ?_
      refine Ok.ret ?_
      obtain rfl:=Option.some.inj H
      exact⟨.inl rfl,⟨_,(.cons (.tmp rfl) .nil),rfl⟩,trivial⟩
     ·replace H:=ifF H hb15
      refine Ok.skip ?_
      refine .rg [(1,(.bref 1 0)),(10,(L 4 e_api_Entry a0.List_)),(11,(.v (.int .i64 (a0.List_.length:Int)))),(12,(.v (.int .i64 (IntKind.i64.wrap (x12_1 + 1)))))] [(1,(.box .ex [(.v (.int .i64 y1_0_2)),(S y1_1_3),(S y1_2_4),(L 4 e_api_Entry y1_3_5)]))] ?_
      exact⟨m11,Nat.lt_succ_self m11,y1_0_2,y1_1_3,y1_2_4,y1_3_5,(IntKind.i64.wrap (x12_1 + 1)),rfl,H⟩
    ·replace H:=ifF H hb16
     refine Ok.exit ?_
     refine Ok.seq ?_
     refine .rg [(2,(.v (.bool (y1_1_3 == ([]:Str)))))] [] ?_
     refine Ok.ret ?_
     obtain rfl:=Option.some.inj H
     exact⟨.inl rfl,⟨_,(.cons (.tmp rfl) .nil),rfl⟩,trivial⟩
  ·replace H:=ifF H hb31
   refine Ok.seq ?_
   refine .rg [(1,(.bref 1 0)),(6,(.v (.int .i64 a0.Kind))),(23,(.v (.bool (a0.Kind == 1))))] [(1,(.box .ex (c_api_Entry a0)))] ?_
   refine Ok.test (b:=(a0.Kind == 1)) rfl (fun hb30 => ?_) (fun hb30 => ?_)
   ·replace H:=ifT H hb30
    refine Ok.seq ?_
    obtain⟨t20,h21,H⟩:=bindE H
    refine Ok.drawE (σ':=⟨[(2,(.v (.bool (((!(a0.URI == ([]:Str))) && ((a0.List_.length:Int) == 0)) && (t20 == a0.Name)))))],[]⟩) [⟨true,[(1,(.bref 1 0))],(.bref 1 1)⟩,⟨true,[(25,(.bref 1 1))],(S a0.URI)⟩,⟨true,[(26,(S a0.URI))],(.v (.bool (!(a0.URI == ([]:Str)))))⟩,⟨true,[(27,(.v (.bool (!(a0.URI == ([]:Str))))))],(.v (.bool (!(a0.URI == ([]:Str)))))⟩,It.I ((!(a0.URI == ([]:Str))) == true) [(1,(.bref 1 0)),(28,(.v (.bool (!(a0.URI == ([]:Str))))))] (.bref 1 3),It.I ((!(a0.URI == ([]:Str))) == true) [(29,(bif ((!(a0.URI == ([]:Str))) == true) then (.bref 1 3) else .v undef)),(28,(.v (.bool (!(a0.URI == ([]:Str))))))] (L 4 e_api_Entry a0.List_),It.I ((!(a0.URI == ([]:Str))) == true) [(30,(bif ((!(a0.URI == ([]:Str))) == true) then (L 4 e_api_Entry a0.List_) else .v undef)),(28,(.v (.bool (!(a0.URI == ([]:Str))))))] (.v (.int .i64 (a0.List_.length:Int))),It.I ((!(a0.URI == ([]:Str))) == true) [(31,(bif ((!(a0.URI == ([]:Str))) == true) then (.v (.int .i64 (a0.List_.length:Int))) else .v undef)),(28,(.v (.bool (!(a0.URI == ([]:Str))))))] (.v (.bool ((a0.List_.length:Int) == 0))),⟨true,[(28,(.v (.bool (!(a0.URI == ([]:Str)))))),(32,(bif ((!(a0.URI == ([]:Str))) == true) then (.v (.bool ((a0.List_.length:Int) == 0))) else .v undef))],(.v (.bool ((!(a0.URI == ([]:Str))) && ((a0.List_.length:Int) == 0))))⟩,⟨true,[(33,(.v (.bool ((!(a0.URI == ([]:Str))) && ((a0.List_.length:Int) == 0)))))],(.v (.bool ((!(a0.URI == ([]:Str))) && ((a0.List_.length:Int) == 0))))⟩,It.I (((!(a0.URI == ([]:Str))) && ((a0.List_.length:Int) == 0)) == true) [(1,(.bref 1 0)),(34,(.v (.bool ((!(a0.URI == ([]:Str))) && ((a0.List_.length:Int) == 0)))))] (.bref 1 2),It.I (((!(a0.URI == ([]:Str))) && ((a0.List_.length:Int) == 0)) == true) [(35,(bif (((!(a0.URI == ([]:Str))) && ((a0.List_.length:Int) == 0)) == true) then (.bref 1 2) else .v undef)),(34,(.v (.bool ((!(a0.URI == ([]:Str))) && ((a0.List_.length:Int) == 0)))))] (S a0.Name),It.I (((!(a0.URI == ([]:Str))) && ((a0.List_.length:Int) == 0)) == true) [(36,(bif (((!(a0.URI == ([]:Str))) && ((a0.List_.length:Int) == 0)) == true) then (S a0.Name) else .v undef)),(34,(.v (.bool ((!(a0.URI == ([]:Str))) && ((a0.List_.length:Int) == 0)))))] (S t20),It.I (((!(a0.URI == ([]:Str))) && ((a0.List_.length:Int) == 0)) == true) [(1,(.bref 1 0)),(34,(.v (.bool ((!(a0.URI == ([]:Str))) && ((a0.List_.length:Int) == 0)))))] (.bref 1 2),It.I (((!(a0.URI == ([]:Str))) && ((a0.List_.length:Int) == 0)) == true) [(38,(bif (((!(a0.URI == ([]:Str))) && ((a0.List_.length:Int) == 0)) == true) then (.bref 1 2) else .v undef)),(34,(.v (.bool ((!(a0.URI == ([]:Str))) && ((a0.List_.length:Int) == 0)))))] (S a0.Name),It.I (((!(a0.URI == ([]:Str))) && ((a0.List_.length:Int) == 0)) == true) [(37,(bif (((!(a0.URI == ([]:Str))) && ((a0.List_.length:Int) == 0)) == true) then (S t20) else .v undef)),(39,(bif (((!(a0.URI == ([]:Str))) && ((a0.List_.length:Int) == 0)) == true) then (S a0.Name) else .v undef)),(34,(.v (.bool ((!(a0.URI == ([]:Str))) && ((a0.List_.length:Int) == 0)))))] (.v (.bool (t20 == a0.Name))),⟨true,[(34,(.v (.bool ((!(a0.URI == ([]:Str))) && ((a0.List_.length:Int) == 0))))),(40,(bif (((!(a0.URI == ([]:Str))) && ((a0.List_.length:Int) == 0)) == true) then (.v (.bool (t20 == a0.Name))) else .v undef))],(.v (.bool (((!(a0.URI == ([]:Str))) && ((a0.List_.length:Int) == 0)) && (t20 == a0.Name))))⟩,⟨true,[(41,(.v (.bool (((!(a0.URI == ([]:Str))) && ((a0.List_.length:Int) == 0)) && (t20 == a0.Name)))))],(.v (.bool (((!(a0.URI == ([]:Str))) && ((a0.List_.length:Int) == 0)) && (t20 == a0.Name))))⟩] [[],[0],[1],[2],[3],[3,4],[3,5],[3,6],[3,7],[8],[9],[9,10],[9,11],[9],[9,13],[9,12,14],[9,15],[16]] mixed (by kernel_rfl) ?_ ?_
    ·refine TxtE.cons rfl ⟨.same _,trivial⟩ rfl (VOk.g (VOk.to (VOk.fieldB rfl Tryz.underlying45 rfl sz9 rfl rfl) rfl)) ?_
     refine TxtE.cons rfl ⟨.same _,trivial⟩ rfl (VOk.g (VOk.loadB (d:=(S a0.URI)) rfl Tryz.underlying9 rfl rfl rfl rfl)) ?_
     refine TxtE.cons rfl ⟨.same _,trivial⟩ rfl (VOk.g (VOk.strOp (op:=.neq) (a:=a0.URI) (b:=([]:Str)) rfl rfl rfl rfl)) ?_
     refine TxtE.cons rfl ⟨.same _,trivial⟩ rfl (VOk.g (VOk.mv (d:=(.v (.bool (!(a0.URI == ([]:Str)))))) rfl rfl)) ?_
     refine TxtE.consI rfl ⟨.same _,.same _,trivial⟩ rfl rfl (.one rfl) (fun hw17 => (VOk.g (VOk.to (VOk.fieldB rfl Tryz.underlying45 rfl sz22 rfl rfl) rfl))) ?_
     refine TxtE.consI rfl ⟨.same _,.same _,trivial⟩ rfl rfl (.one rfl) (fun hw17 => (GOk.fr (fr':=[(29,(.bref 1 3))]) ⟨DLe.of_eq (cT hw17).symm,trivial⟩ (VOk.g (VOk.loadB (d:=(L 4 e_api_Entry a0.List_)) rfl Tryz.underlying22 rfl rfl rfl rfl)))) ?_
     refine TxtE.consI rfl ⟨.same _,.same _,trivial⟩ rfl rfl (.one rfl) (fun hw17 => (GOk.fr (fr':=[(30,(L 4 e_api_Entry a0.List_))]) ⟨DLe.of_eq (cT hw17).symm,trivial⟩ (VOk.g (VOk.lenL (e:=e_api_Entry) (xs:=a0.List_) rfl Tryz.underlying22 rfl)))) ?_
     refine TxtE.consI rfl ⟨.same _,.same _,trivial⟩ rfl rfl (.one rfl) (fun hw17 => (GOk.fr (fr':=[(31,(.v (.int .i64 (a0.List_.length:Int))))]) ⟨DLe.of_eq (cT hw17).symm,trivial⟩ (VOk.g (VOk.arith (op:=.eql) (k:=.i64) (a:=(a0.List_.length:Int)) (b:=0) rfl rfl rfl rfl)))) ?_
     refine TxtE.cons rfl ⟨.same _,.same _,trivial⟩ rfl (VOk.g (VOk.to (VOk.pickI (b:=(!(a0.URI == ([]:Str)))) (p:=((a0.List_.length:Int) == 0)) (q:=false) rfl rfl (fun hp18 => (cT (t_beq hp18))) (fun hp18 => rfl)) (pickAnd (!(a0.URI == ([]:Str))) ((a0.List_.length:Int) == 0)))) ?_
     refine TxtE.cons rfl ⟨.same _,trivial⟩ rfl (VOk.g (VOk.mv (d:=(.v (.bool ((!(a0.URI == ([]:Str))) && ((a0.List_.length:Int) == 0))))) rfl rfl)) ?_
     refine TxtE.consI rfl ⟨.same _,.same _,trivial⟩ rfl rfl (.one rfl) (fun hw19 => (VOk.g (VOk.to (VOk.fieldB rfl Tryz.underlying45 rfl sz9 rfl rfl) rfl))) ?_
     refine TxtE.consI rfl ⟨.same _,.same _,trivial⟩ rfl rfl (.one rfl) (fun hw19 => (GOk.fr (fr':=[(35,(.bref 1 2))]) ⟨DLe.of_eq (cT hw19).symm,trivial⟩ (VOk.g (VOk.loadB (d:=(S a0.Name)) rfl Tryz.underlying9 rfl rfl rfl rfl)))) ?_
     refine TxtE.consI rfl ⟨.same _,.same _,trivial⟩ rfl rfl (.one rfl) (fun hw19 => (GOk.fr (fr':=[(36,(S a0.Name))]) ⟨DLe.of_eq (cT hw19).symm,trivial⟩ (GOk.call rfl rfl cl39 rfl (utf_Trim.ok (ifT h21 hw19)) rfl))) ?_
     refine TxtE.consI rfl ⟨.same _,.same _,trivial⟩ rfl rfl (.one rfl) (fun hw19 => (VOk.g (VOk.to (VOk.fieldB rfl Tryz.underlying45 rfl sz9 rfl rfl) rfl))) ?_
     refine TxtE.consI rfl ⟨.same _,.same _,trivial⟩ rfl rfl (.one rfl) (fun hw19 => (GOk.fr (fr':=[(38,(.bref 1 2))]) ⟨DLe.of_eq (cT hw19).symm,trivial⟩ (VOk.g (VOk.loadB (d:=(S a0.Name)) rfl Tryz.underlying9 rfl rfl rfl rfl)))) ?_
     refine TxtE.consI rfl ⟨.same _,.same _,.same _,trivial⟩ rfl rfl (.one rfl) (fun hw19 => (GOk.fr (fr':=[(37,(S t20)),(39,(S a0.Name))]) ⟨DLe.of_eq (cT hw19).symm,DLe.of_eq (cT hw19).symm,trivial⟩ (VOk.g (VOk.strOp (op:=.eql) (a:=t20) (b:=a0.Name) rfl rfl rfl rfl)))) ?_
     refine TxtE.cons rfl ⟨.same _,.same _,trivial⟩ rfl (VOk.g (VOk.to (VOk.pickI (b:=((!(a0.URI == ([]:Str))) && ((a0.List_.length:Int) == 0))) (p:=(t20 == a0.Name)) (q:=false) rfl rfl (fun hp22 => (cT (t_beq hp22))) (fun hp22 => rfl)) (pickAnd ((!(a0.URI == ([]:Str))) && ((a0.List_.length:Int) == 0)) (t20 == a0.Name)))) ?_
     refine TxtE.cons rfl ⟨.same _,trivial⟩ rfl (VOk.g (VOk.asg (d:=(.v (.bool (((!(a0.URI == ([]:Str))) && ((a0.List_.length:Int) == 0)) && (t20 == a0.Name))))) rfl rfl)) ?_
     exact .done (.rf rfl rfl)
    refine Ok.ret ?_
    obtain rfl:=Option.some.inj H
    exact⟨.inl rfl,⟨_,(.cons (.tmp rfl) .nil),rfl⟩,trivial⟩
   ·replace H:=ifF H hb30
    refine Ok.meet (fun σ => ∃ (x42_23:Bool),σ=⟨[(1,(.bref 1 0)),(42,(.v (.bool x42_23)))],[(1,(.box .ex (c_api_Entry a0)))]⟩ ∧ lists_may.j1 a0 x42_23=some r) ?_ ?_
    ·refine Ok.seq ?_
     refine .rg [(1,(.bref 1 0)),(6,(.v (.int .i64 a0.Kind))),(42,(.v (.bool (a0.Kind == 3))))] [(1,(.box .ex (c_api_Entry a0)))] ?_
     refine Ok.test (b:=(a0.Kind == 3)) rfl (fun hb29 => ?_) (fun hb29 => ?_)
     ·replace H:=ifT H hb29
      refine Ok.le (σ':=⟨[(1,(.bref 1 0)),(42,(.v (.bool (a0.Kind == 3))))],[(1,(.box .ex (c_api_Entry a0)))]⟩) (.rf rfl rfl) ?_
      refine Ok.skip ?_
      exact⟨(a0.Kind == 3),rfl,H⟩
     ·replace H:=ifF H hb29
      refine .rg [(1,(.bref 1 0)),(42,(.v (.bool (a0.Kind == 4))))] [(1,(.box .ex (c_api_Entry a0)))] ?_
      exact⟨(a0.Kind == 4),rfl,H⟩
    ·rintro σ ⟨x42_23,rfl,H⟩
     unfold lists_may.j1 at H
     refine Ok.test (b:=x42_23) rfl (fun hb28 => ?_) (fun hb28 => ?_)
     ·replace H:=ifT H hb28
      refine Ok.seq ?_
      refine Ok.region (σ':=⟨[(2,(.v (.bool (((!(a0.URI == ([]:Str))) && ((a0.List_.length:Int) == 0)) && (a0.Name == ([]:Str))))))],[]⟩) ?_ ?_
      ·refine .rn 4 ?_
       refine OpsOk.consI rfl rfl rfl (.one rfl) rfl (fun hw24 => (VOk.g (VOk.to (VOk.fieldB rfl Tryz.underlying45 rfl sz22 rfl rfl) rfl))) ?_
       refine OpsOk.consI rfl rfl rfl (.one rfl) rfl (fun hw24 => (GOk.fr (fr':=[(49,(.bref 1 3))]) ⟨DLe.of_eq (cT hw24).symm,trivial⟩ (VOk.g (VOk.loadB (d:=(L 4 e_api_Entry a0.List_)) rfl Tryz.underlying22 rfl rfl rfl rfl)))) ?_
       refine OpsOk.consI rfl rfl rfl (.one rfl) rfl (fun hw24 => (GOk.fr (fr':=[(50,(L 4 e_api_Entry a0.List_))]) ⟨DLe.of_eq (cT hw24).symm,trivial⟩ (VOk.g (VOk.lenL (e:=e_api_Entry) (xs:=a0.List_) rfl Tryz.underlying22 rfl)))) ?_
       refine OpsOk.consI rfl rfl rfl (.one rfl) rfl (fun hw24 => (GOk.fr (fr':=[(51,(.v (.int .i64 (a0.List_.length:Int))))]) ⟨DLe.of_eq (cT hw24).symm,trivial⟩ (VOk.g (VOk.arith (op:=.eql) (k:=.i64) (a:=(a0.List_.length:Int)) (b:=0) rfl rfl rfl rfl)))) ?_
       refine .cv (VOk.to (VOk.pickI (b:=(!(a0.URI == ([]:Str)))) (p:=((a0.List_.length:Int) == 0)) (q:=false) rfl rfl (fun hp25 => (cT (t_beq hp25))) (fun hp25 => rfl)) (pickAnd (!(a0.URI == ([]:Str))) ((a0.List_.length:Int) == 0))) rfl rfl ?_
       refine .rn 1 ?_
       refine OpsOk.consI rfl rfl rfl (.one rfl) rfl (fun hw26 => (VOk.g (VOk.to (VOk.fieldB rfl Tryz.underlying45 rfl sz9 rfl rfl) rfl))) ?_
       refine OpsOk.consI rfl rfl rfl (.one rfl) rfl (fun hw26 => (GOk.fr (fr':=[(55,(.bref 1 2))]) ⟨DLe.of_eq (cT hw26).symm,trivial⟩ (VOk.g (VOk.loadB (d:=(S a0.Name)) rfl Tryz.underlying9 rfl rfl rfl rfl)))) ?_
       refine OpsOk.consI rfl rfl rfl (.one rfl) rfl (fun hw26 => (GOk.fr (fr':=[(56,(S a0.Name))]) ⟨DLe.of_eq (cT hw26).symm,trivial⟩ (VOk.g (VOk.strOp (op:=.eql) (a:=a0.Name) (b:=([]:Str)) rfl rfl rfl rfl)))) ?_
       refine .cv (VOk.to (VOk.pickI (b:=((!(a0.URI == ([]:Str))) && ((a0.List_.length:Int) == 0))) (p:=(a0.Name == ([]:Str))) (q:=false) rfl rfl (fun hp27 => (cT (t_beq hp27))) (fun hp27 => rfl)) (pickAnd ((!(a0.URI == ([]:Str))) && ((a0.List_.length:Int) == 0)) (a0.Name == ([]:Str)))) rfl rfl ?_
       refine .rn 1 ?_
       exact .dn
      refine Ok.ret ?_
      obtain rfl:=Option.some.inj H
      exact⟨.inl rfl,⟨_,(.cons (.tmp rfl) .nil),rfl⟩,trivial⟩
     ·replace H:=ifF H hb28
      refine Ok.skip ?_
      refine Ok.seq ?_
      refine .rg [(2,(.v (.bool false)))] [] ?_
      refine Ok.ret ?_
      obtain rfl:=Option.some.inj H
      exact⟨.inl rfl,⟨_,(.cons (.tmp rfl) .nil),rfl⟩,trivial⟩
end Go.Proofs.YtapbckofgcmgmaaGreatDoor.Sh
