import Derived.Test.YtjhbedgepfkdbaaProg
import Derived.Test.YtjhbedgepfkdbaaSha
namespace Go.Proofs.Ytjhbedgepfkdbaa.Sh
open Go Go.RowKit Go.Proofs.Vx
set_option linter.unusedVariables false
set_option maxRecDepth 100000
set_option maxHeartbeats 1000000
def tree_Cost.l0 (k:Nat) (self:T_api_Node→Option (Nat × Nat)) (y1_4_6:List T_api_Node):Nat→Int→Nat × Nat→Option (Nat × Nat)
 | 0,_,_ => none
 | m12 + 1,x41_9,x6_8 => (if (decide (x41_9 < (y1_4_6.length:Int)))=true then (if (0:Int) ≤ x41_9 ∧ x41_9 < (y1_4_6.length:Int) then ((self (rd y1_4_6 x41_9)).bind fun (t14:(Nat × Nat)) => (if (cSumBits .add .f64 x6_8.1 x6_8.2 t14.1 t14.2).isSome=true then tree_Cost.l0 k self y1_4_6 m12 (IntKind.i64.wrap (x41_9 + 1)) (cadd x6_8 t14) else none)) else none) else some x6_8)
def tree_Cost.j1 (k:Nat) (self:T_api_Node→Option (Nat × Nat)) (x3_1:Int) (y1_0_2:Int) (y1_1_3:Str) (y1_2_4:Str) (y1_3_5:List T_api_Attr) (y1_4_6:List T_api_Node) (y1_5_7:Str):Option (Nat × Nat):=tree_Cost.l0 k self y1_4_6 k 0 ((4607182418800017408,(floatOfInt .f64 x3_1)):Nat × Nat)
def tree_Cost.l2 (k:Nat) (self:T_api_Node→Option (Nat × Nat)) (a0:T_api_Node):Nat→Int→Str→Str→List T_api_Attr→List T_api_Node→Str→Int→Int→Option (Nat × Nat)
 | 0,_,_,_,_,_,_,_,_ => none
 | m36 + 1,y1_0_22,y1_1_23,y1_2_24,y1_3_25,y1_4_26,y1_5_27,x21_21,x3_20 => (if (decide (x21_21 < (a0.Attrs.length:Int)))=true then (if (0:Int) ≤ x21_21 ∧ x21_21 < (a0.Attrs.length:Int) then ((tree_bytes ((rd a0.Attrs x21_21).Name)).bind fun (t38:Int) => tree_Cost.l2 k self a0 m36 y1_0_22 y1_1_23 y1_2_24 y1_3_25 y1_4_26 y1_5_27 (IntKind.i64.wrap (x21_21 + 1)) (IntKind.i64.wrap (x3_20 + (IntKind.i64.wrap (t38 + (((rd a0.Attrs x21_21).Value).length:Int)))))) else none) else tree_Cost.j1 k self x3_20 y1_0_22 y1_1_23 y1_2_24 y1_3_25 y1_4_26 y1_5_27)
def tree_Cost:Nat→T_api_Node→Option (Nat × Nat)
 | 0,_ => none
 | k + 1,a0 => (if (a0.Kind == 1)=true then ((tree_bytes a0.Name).bind fun (t18:Int) => tree_Cost.l2 k (tree_Cost k) a0 k a0.Kind a0.Name.Space a0.Name.Local a0.Attrs a0.Kids a0.Text 0 t18) else tree_Cost.j1 k (tree_Cost k) (a0.Text.length:Int) a0.Kind a0.Name.Space a0.Name.Local a0.Attrs a0.Kids a0.Text)
theorem tree_Cost.ok {k:Nat} {a0:T_api_Node} {r:(Nat × Nat)} (H:tree_Cost k a0=some r):Vx.Fn Try.prog 18 [(.agg (e_api_Node a0))] [] (.v (.complex .f64 r.1 r.2)) []:=by
 induction k generalizing a0 r with
 | zero => exact absurd H (by simp [tree_Cost])
 | succ k ih =>
  unfold tree_Cost at H
  refine Vx.Fn.of_okR Try.func18 rfl (Nat.le_of_ble_eq_true rfl) ?_
  refine Ok.seq ?_
  refine Ok.region (σ':=⟨[(1,(.bref 1 0))],[(1,(bxN a0))]⟩) ?_ ?_
  ·refine OpsOk.cut1 0 (.agg (c_api_Node a0)) (DLe.of_eq (congrArg D.agg (e_api_Node_c _).symm)) ?_
   refine .rn 2 ?_
   exact .dn
  refine Ok.seq ?_
  refine .rg [(1,(.bref 1 0)),(3,(.v (.int .i64 (a0.Text.length:Int))))] [(1,(bxN a0))] ?_
  refine Ok.meet (fun σ => ∃ (x3_1:Int) (y1_0_2:Int) (y1_1_3:Str) (y1_2_4:Str) (y1_3_5:List T_api_Attr) (y1_4_6:List T_api_Node) (y1_5_7:Str),σ=⟨[(1,(.bref 1 0)),(3,(.v (.int .i64 x3_1)))],[(1,(.box .ex [(.v (.int .i64 y1_0_2)),(S y1_1_3),(S y1_2_4),(L 3 e_api_Attr y1_3_5),(L 6 e_api_Node y1_4_6),(S y1_5_7)]))]⟩ ∧ tree_Cost.j1 k (tree_Cost k) x3_1 y1_0_2 y1_1_3 y1_2_4 y1_3_5 y1_4_6 y1_5_7=some r) ?_ ?_
  ·refine Ok.seq ?_
   refine .rg [(1,(.bref 1 0)),(3,(.v (.int .i64 (a0.Text.length:Int)))),(14,(.v (.bool (a0.Kind == 1))))] [(1,(bxN a0))] ?_
   refine Ok.test (b:=(a0.Kind == 1)) rfl (fun hb41 => ?_) (fun hb41 => ?_)
   ·replace H:=ifT H hb41
    refine Ok.seq ?_
    obtain⟨t18,h19,H⟩:=bindE H
    refine Ok.region (σ':=⟨[(1,(.bref 1 0)),(3,(.v (.int .i64 t18)))],[(1,(bxN a0))]⟩) ?_ ?_
    ·refine .rn 2 ?_
     refine .cg (GOk.call rfl rfl cl33 rfl (tree_bytes.ok h19) rfl) rfl rfl ?_
     refine .rn 1 ?_
     exact .dn
    refine Ok.seq ?_
    refine Ok.region (σ':=⟨[(1,(.bref 1 0)),(3,(.v (.int .i64 t18))),(19,(L 3 e_api_Attr a0.Attrs)),(20,(.v (.int .i64 (a0.Attrs.length:Int)))),(21,(.v (.int .i64 0)))],[(1,(bxN a0))]⟩) ?_ ?_
    ·refine .rn 2 ?_
     refine .cv (VOk.lenL (e:=e_api_Attr) (xs:=a0.Attrs) rfl Try.underlying24 rfl) rfl rfl ?_
     refine .rn 1 ?_
     exact .dn
    refine Ok.block ?_
    refine Ok.loop (fun m36 σ => ∃ (y1_0_22:Int) (y1_1_23:Str) (y1_2_24:Str) (y1_3_25:List T_api_Attr) (y1_4_26:List T_api_Node) (y1_5_27:Str) (x21_21:Int) (x3_20:Int),σ=⟨[(1,(.bref 1 0)),(3,(.v (.int .i64 x3_20))),(19,(L 3 e_api_Attr a0.Attrs)),(20,(.v (.int .i64 (a0.Attrs.length:Int)))),(21,(.v (.int .i64 x21_21)))],[(1,(.box .ex [(.v (.int .i64 y1_0_22)),(S y1_1_23),(S y1_2_24),(L 3 e_api_Attr y1_3_25),(L 6 e_api_Node y1_4_26),(S y1_5_27)]))]⟩ ∧ tree_Cost.l2 k (tree_Cost k) a0 m36 y1_0_22 y1_1_23 y1_2_24 y1_3_25 y1_4_26 y1_5_27 x21_21 x3_20=some r) k ⟨a0.Kind,a0.Name.Space,a0.Name.Local,a0.Attrs,a0.Kids,a0.Text,0,t18,rfl,H⟩ ?_
    rintro m36 σ ⟨y1_0_22,y1_1_23,y1_2_24,y1_3_25,y1_4_26,y1_5_27,x21_21,x3_20,rfl,H⟩
    cases m36 with
    | zero => exact absurd H (by simp [tree_Cost.l2])
    | succ m36 =>
     unfold tree_Cost.l2 at H
     refine Ok.seq ?_
     refine .rg [(1,(.bref 1 0)),(3,(.v (.int .i64 x3_20))),(19,(L 3 e_api_Attr a0.Attrs)),(20,(.v (.int .i64 (a0.Attrs.length:Int)))),(21,(.v (.int .i64 x21_21))),(22,(.v (.bool (decide (x21_21 < (a0.Attrs.length:Int))))))] [(1,(.box .ex [(.v (.int .i64 y1_0_22)),(S y1_1_23),(S y1_2_24),(L 3 e_api_Attr y1_3_25),(L 6 e_api_Node y1_4_26),(S y1_5_27)]))] ?_
     refine Ok.seq ?_
     refine Ok.test (b:=(decide (x21_21 < (a0.Attrs.length:Int)))) rfl (fun hb40 => ?_) (fun hb40 => ?_)
     ·replace H:=ifT H hb40
      refine Ok.skip ?_
      refine Ok.seq ?_
      refine Ok.block ?_
      refine Ok.seq ?_
      obtain⟨c37,H⟩:=assertE H
      refine Ok.region (σ':=⟨[(1,(.bref 1 0)),(3,(.v (.int .i64 x3_20))),(5,(.bref 5 0)),(19,(L 3 e_api_Attr a0.Attrs)),(20,(.v (.int .i64 (a0.Attrs.length:Int)))),(21,(.v (.int .i64 x21_21)))],[(1,(.box .ex [(.v (.int .i64 y1_0_22)),(S y1_1_23),(S y1_2_24),(L 3 e_api_Attr y1_3_25),(L 6 e_api_Node y1_4_26),(S y1_5_27)])),(5,(.box .ex (c_api_Attr (rd a0.Attrs x21_21))))]⟩) ?_ ?_
      ·refine .cv (VOk.indexL (sz:=3) (e:=e_api_Attr) (xs:=a0.Attrs) (i:=x21_21) rfl Try.underlying24 sz47 rfl rfl c37) rfl rfl ?_
       refine .rn 3 ?_
       exact .dn
      obtain⟨t38,h39,H⟩:=bindE H
      refine .dA [(1,(.bref 1 0)),(3,(.v (.int .i64 (IntKind.i64.wrap (x3_20 + (IntKind.i64.wrap (t38 + (((rd a0.Attrs x21_21).Value).length:Int)))))))),(19,(L 3 e_api_Attr a0.Attrs)),(20,(.v (.int .i64 (a0.Attrs.length:Int)))),(21,(.v (.int .i64 x21_21)))] [(1,(.box .ex [(.v (.int .i64 y1_0_22)),(S y1_1_23),(S y1_2_24),(L 3 e_api_Attr y1_3_25),(L 6 e_api_Node y1_4_26),(S y1_5_27)]))] [[],[],[1],[2],[],[4],[5],[3,6],[0,7],[0,8]] mixed ?_ ?_
      ·refine .tn 3 ?_
       refine .tc (GOk.call rfl rfl cl33 rfl (tree_bytes.ok h39) rfl) ?_
       refine .tn 2 ?_
       refine .tc (VOk.g (VOk.lenStr (s:=(rd a0.Attrs x21_21).Value) rfl Try.underlying9 rfl)) ?_
       refine .tn 3 ?_
       exact .dn
      refine .rg [(1,(.bref 1 0)),(3,(.v (.int .i64 (IntKind.i64.wrap (x3_20 + (IntKind.i64.wrap (t38 + (((rd a0.Attrs x21_21).Value).length:Int)))))))),(19,(L 3 e_api_Attr a0.Attrs)),(20,(.v (.int .i64 (a0.Attrs.length:Int)))),(21,(.v (.int .i64 (IntKind.i64.wrap (x21_21 + 1)))))] [(1,(.box .ex [(.v (.int .i64 y1_0_22)),(S y1_1_23),(S y1_2_24),(L 3 e_api_Attr y1_3_25),(L 6 e_api_Node y1_4_26),(S y1_5_27)]))] ?_
      exact⟨m36,Nat.lt_succ_self m36,y1_0_22,y1_1_23,y1_2_24,y1_3_25,y1_4_26,y1_5_27,(IntKind.i64.wrap (x21_21 + 1)),(IntKind.i64.wrap (x3_20 + (IntKind.i64.wrap (t38 + (((rd a0.Attrs x21_21).Value).length:Int))))),rfl,H⟩
     ·replace H:=ifF H hb40
      refine Ok.le (σ':=⟨[(1,(.bref 1 0)),(3,(.v (.int .i64 x3_20)))],[(1,(.box .ex [(.v (.int .i64 y1_0_22)),(S y1_1_23),(S y1_2_24),(L 3 e_api_Attr y1_3_25),(L 6 e_api_Node y1_4_26),(S y1_5_27)]))]⟩) (.rf rfl rfl) ?_
      refine Ok.exit ?_
      exact⟨x3_20,y1_0_22,y1_1_23,y1_2_24,y1_3_25,y1_4_26,y1_5_27,rfl,H⟩
   ·replace H:=ifF H hb41
    refine Ok.le (σ':=⟨[(1,(.bref 1 0)),(3,(.v (.int .i64 (a0.Text.length:Int))))],[(1,(bxN a0))]⟩) (.rf rfl rfl) ?_
    refine Ok.skip ?_
    exact⟨(a0.Text.length:Int),a0.Kind,a0.Name.Space,a0.Name.Local,a0.Attrs,a0.Kids,a0.Text,rfl,H⟩
  ·rintro σ ⟨x3_1,y1_0_2,y1_1_3,y1_2_4,y1_3_5,y1_4_6,y1_5_7,rfl,H⟩
   unfold tree_Cost.j1 at H
   refine Ok.seq ?_
   refine Ok.region (σ':=⟨[(1,(.bref 1 0)),(6,(.v (.complex .f64 ((4607182418800017408,(floatOfInt .f64 x3_1)):Nat × Nat).1 ((4607182418800017408,(floatOfInt .f64 x3_1)):Nat × Nat).2)))],[(1,(.box .ex [(.v (.int .i64 y1_0_2)),(S y1_1_3),(S y1_2_4),(L 3 e_api_Attr y1_3_5),(L 6 e_api_Node y1_4_6),(S y1_5_7)]))]⟩) ?_ ?_
   ·refine .rn 1 ?_
    refine .cv (VOk.toF (a:=x3_1) rfl (by rw [Try.underlying3]; rfl) Try.underlying41 rfl) rfl rfl ?_
    refine .cv (VOk.cx (a:=4607182418800017408) (b:=(floatOfInt .f64 x3_1)) rfl rfl rfl) rfl rfl ?_
    refine .rn 1 ?_
    exact .dn
   refine Ok.seq ?_
   refine Ok.seq ?_
   refine Ok.region (σ':=⟨[(6,(.v (.complex .f64 ((4607182418800017408,(floatOfInt .f64 x3_1)):Nat × Nat).1 ((4607182418800017408,(floatOfInt .f64 x3_1)):Nat × Nat).2))),(39,(L 6 e_api_Node y1_4_6)),(40,(.v (.int .i64 (y1_4_6.length:Int)))),(41,(.v (.int .i64 0)))],[]⟩) ?_ ?_
   ·refine .rn 2 ?_
    refine .cv (VOk.lenL (e:=e_api_Node) (xs:=y1_4_6) rfl Try.underlying25 rfl) rfl rfl ?_
    refine .rn 1 ?_
    exact .dn
   refine Ok.block ?_
   refine Ok.loop (fun m12 σ => ∃ (x41_9:Int) (x6_8:Nat × Nat),σ=⟨[(6,(.v (.complex .f64 x6_8.1 x6_8.2))),(39,(L 6 e_api_Node y1_4_6)),(40,(.v (.int .i64 (y1_4_6.length:Int)))),(41,(.v (.int .i64 x41_9)))],[]⟩ ∧ tree_Cost.l0 k (tree_Cost k) y1_4_6 m12 x41_9 x6_8=some r) k ⟨0,((4607182418800017408,(floatOfInt .f64 x3_1)):Nat × Nat),rfl,H⟩ ?_
   rintro m12 σ ⟨x41_9,x6_8,rfl,H⟩
   cases m12 with
   | zero => exact absurd H (by simp [tree_Cost.l0])
   | succ m12 =>
    unfold tree_Cost.l0 at H
    refine Ok.seq ?_
    refine .rg [(6,(.v (.complex .f64 x6_8.1 x6_8.2))),(39,(L 6 e_api_Node y1_4_6)),(40,(.v (.int .i64 (y1_4_6.length:Int)))),(41,(.v (.int .i64 x41_9))),(42,(.v (.bool (decide (x41_9 < (y1_4_6.length:Int))))))] [] ?_
    refine Ok.seq ?_
    refine Ok.test (b:=(decide (x41_9 < (y1_4_6.length:Int)))) rfl (fun hb17 => ?_) (fun hb17 => ?_)
    ·replace H:=ifT H hb17
     refine Ok.skip ?_
     refine Ok.seq ?_
     refine Ok.block ?_
     refine Ok.seq ?_
     obtain⟨c13,H⟩:=assertE H
     refine Ok.region (σ':=⟨[(6,(.v (.complex .f64 x6_8.1 x6_8.2))),(8,(.bref 8 0)),(39,(L 6 e_api_Node y1_4_6)),(40,(.v (.int .i64 (y1_4_6.length:Int)))),(41,(.v (.int .i64 x41_9)))],[(8,(.box .ex (c_api_Node (rd y1_4_6 x41_9))))]⟩) ?_ ?_
     ·refine .cv (VOk.indexL (sz:=6) (e:=e_api_Node) (xs:=y1_4_6) (i:=x41_9) rfl Try.underlying25 sz27 rfl rfl c13) rfl rfl ?_
      refine .rn 2 ?_
      refine OpsOk.cut1 44 (.agg [(.v (.int .i64 ((rd y1_4_6 x41_9).Kind))),(S ((rd y1_4_6 x41_9).Name.Space)),(S ((rd y1_4_6 x41_9).Name.Local)),(L 3 e_api_Attr ((rd y1_4_6 x41_9).Attrs)),(L 6 e_api_Node ((rd y1_4_6 x41_9).Kids)),(S ((rd y1_4_6 x41_9).Text))]) (DLe.of_eq (congrArg D.agg (e_api_Node_c _).symm)) ?_
      refine .rn 1 ?_
      exact .dn
     obtain⟨t14,h15,H⟩:=bindE H
     obtain⟨c16,H⟩:=assertE H
     refine Ok.region (σ':=⟨[(6,(.v (.complex .f64 (cadd x6_8 t14).1 (cadd x6_8 t14).2))),(39,(L 6 e_api_Node y1_4_6)),(40,(.v (.int .i64 (y1_4_6.length:Int)))),(41,(.v (.int .i64 x41_9)))],[]⟩) ?_ ?_
     ·refine .rn 1 ?_
      refine .cv (VOk.to (d':=(.agg (e_api_Node (rd y1_4_6 x41_9)))) (.loadBAgg rfl Try.underlying27 rfl sz27 rfl rfl rfl) (congrArg D.agg (e_api_Node_c (rd y1_4_6 x41_9)).symm)) rfl rfl ?_
      refine .cg (GOk.call rfl rfl cl18 rfl (@ih _ _ h15) rfl) rfl rfl ?_
      refine .cv (VOk.cxAdd (a:=x6_8) (b:=t14) rfl rfl rfl c16) rfl rfl ?_
      refine .rn 1 ?_
      exact .dn
     refine .rg [(6,(.v (.complex .f64 (cadd x6_8 t14).1 (cadd x6_8 t14).2))),(39,(L 6 e_api_Node y1_4_6)),(40,(.v (.int .i64 (y1_4_6.length:Int)))),(41,(.v (.int .i64 (IntKind.i64.wrap (x41_9 + 1)))))] [] ?_
     exact⟨m12,Nat.lt_succ_self m12,(IntKind.i64.wrap (x41_9 + 1)),(cadd x6_8 t14),rfl,H⟩
    ·replace H:=ifF H hb17
     refine Ok.exit ?_
     refine Ok.seq ?_
     refine .rg [(2,(.v (.complex .f64 x6_8.1 x6_8.2)))] [] ?_
     refine Ok.ret ?_
     obtain rfl:=Option.some.inj H
     exact⟨.inl rfl,⟨_,(.cons (.tmp rfl) .nil),rfl⟩,trivial⟩
def watchbillref06_Same.l0 (k:Nat) (a0:List Int) (a1:List Int):Nat→Int→Option Bool
 | 0,_ => none
 | m3 + 1,x5_1 => (if (decide (x5_1 < (a0.length:Int)))=true then (if (0:Int) ≤ x5_1 ∧ x5_1 < (a0.length:Int) then (if (0:Int) ≤ x5_1 ∧ x5_1 < (a1.length:Int) then (if ((rd a0 x5_1) != (rd a1 x5_1))=true then some false else watchbillref06_Same.l0 k a0 a1 m3 (IntKind.i64.wrap (x5_1 + 1))) else none) else none) else some true)
def watchbillref06_Same (k:Nat) (a0:List Int) (a1:List Int):Option Bool:=(if ((a0.length:Int) != (a1.length:Int))=true then some false else watchbillref06_Same.l0 k a0 a1 k 0)
theorem watchbillref06_Same.ok {k:Nat} {a0:List Int} {a1:List Int} {r:Bool} (H:watchbillref06_Same k a0 a1=some r):Vx.Fn Try.prog 13 [(L 1 (eI .i64) a0),(L 1 (eI .i64) a1)] [] (.v (.bool r)) []:=by
 unfold watchbillref06_Same at H
 refine Vx.Fn.of_okR Try.func13 rfl (Nat.le_of_ble_eq_true rfl) ?_
 refine Ok.seq ?_
 refine .rg [(0,(L 1 (eI .i64) a0)),(1,(L 1 (eI .i64) a1))] [] ?_
 refine Ok.seq ?_
 refine Ok.seq ?_
 refine Ok.region (σ':=⟨[(0,(L 1 (eI .i64) a0)),(1,(L 1 (eI .i64) a1)),(10,(.v (.bool ((a0.length:Int) != (a1.length:Int)))))],[]⟩) ?_ ?_
 ·refine .rn 1 ?_
  refine .cv (VOk.lenL (e:=(eI .i64)) (xs:=a0) rfl Try.underlying28 rfl) rfl rfl ?_
  refine .rn 1 ?_
  refine .cv (VOk.lenL (e:=(eI .i64)) (xs:=a1) rfl Try.underlying28 rfl) rfl rfl ?_
  refine .rn 1 ?_
  exact .dn
 refine Ok.test (b:=((a0.length:Int) != (a1.length:Int))) rfl (fun hb8 => ?_) (fun hb8 => ?_)
 ·replace H:=ifT H hb8
  refine Ok.seq ?_
  refine .rg [(4,(.v (.bool false)))] [] ?_
  refine Ok.ret ?_
  obtain rfl:=Option.some.inj H
  exact⟨.inl rfl,⟨_,(.cons (.tmp rfl) .nil),rfl⟩,trivial⟩
 ·replace H:=ifF H hb8
  refine Ok.skip ?_
  refine Ok.seq ?_
  refine Ok.seq ?_
  refine .rg [(0,(L 1 (eI .i64) a0)),(1,(L 1 (eI .i64) a1)),(5,(.v (.int .i64 0)))] [] ?_
  refine Ok.block ?_
  refine Ok.loop (fun m3 σ => ∃ (x5_1:Int),σ=⟨[(0,(L 1 (eI .i64) a0)),(1,(L 1 (eI .i64) a1)),(5,(.v (.int .i64 x5_1)))],[]⟩ ∧ watchbillref06_Same.l0 k a0 a1 m3 x5_1=some r) k ⟨0,rfl,H⟩ ?_
  rintro m3 σ ⟨x5_1,rfl,H⟩
  cases m3 with
  | zero => exact absurd H (by simp [watchbillref06_Same.l0])
  | succ m3 =>
   unfold watchbillref06_Same.l0 at H
   refine Ok.seq ?_
   refine Ok.seq ?_
   refine Ok.region (σ':=⟨[(0,(L 1 (eI .i64) a0)),(1,(L 1 (eI .i64) a1)),(5,(.v (.int .i64 x5_1))),(14,(.v (.bool (decide (x5_1 < (a0.length:Int))))))],[]⟩) ?_ ?_
   ·refine .rn 2 ?_
    refine .cv (VOk.lenL (e:=(eI .i64)) (xs:=a0) rfl Try.underlying28 rfl) rfl rfl ?_
    refine .rn 1 ?_
    exact .dn
   refine Ok.test (b:=(decide (x5_1 < (a0.length:Int)))) rfl (fun hb7 => ?_) (fun hb7 => ?_)
   ·replace H:=ifT H hb7
    refine Ok.skip ?_
    refine Ok.seq ?_
    refine Ok.block ?_
    refine Ok.seq ?_
    obtain⟨c4,H⟩:=assertE H
    obtain⟨c5,H⟩:=assertE H
    refine .dA [(0,(L 1 (eI .i64) a0)),(1,(L 1 (eI .i64) a1)),(5,(.v (.int .i64 x5_1))),(25,(.v (.bool ((rd a0 x5_1) != (rd a1 x5_1)))))] [] [[],[],[0,1],[2],[],[],[4,5],[6],[3,7]] mixed ?_ ?_
    ·refine .tn 2 ?_
     refine .tc (VOk.g (VOk.indexL (sz:=1) (e:=(eI .i64)) (xs:=a0) (i:=x5_1) rfl Try.underlying28 sz3 rfl rfl c4)) ?_
     refine .tn 3 ?_
     refine .tc (VOk.g (VOk.indexL (sz:=1) (e:=(eI .i64)) (xs:=a1) (i:=x5_1) rfl Try.underlying28 sz3 rfl rfl c5)) ?_
     refine .tn 2 ?_
     exact .dn
    refine Ok.test (b:=((rd a0 x5_1) != (rd a1 x5_1))) rfl (fun hb6 => ?_) (fun hb6 => ?_)
    ·replace H:=ifT H hb6
     refine Ok.seq ?_
     refine .rg [(4,(.v (.bool false)))] [] ?_
     refine Ok.ret ?_
     obtain rfl:=Option.some.inj H
     exact⟨.inl rfl,⟨_,(.cons (.tmp rfl) .nil),rfl⟩,trivial⟩
    ·replace H:=ifF H hb6
     refine Ok.skip ?_
     refine .rg [(0,(L 1 (eI .i64) a0)),(1,(L 1 (eI .i64) a1)),(5,(.v (.int .i64 (IntKind.i64.wrap (x5_1 + 1)))))] [] ?_
     exact⟨m3,Nat.lt_succ_self m3,(IntKind.i64.wrap (x5_1 + 1)),rfl,H⟩
   ·replace H:=ifF H hb7
    refine Ok.exit ?_
    refine Ok.seq ?_
    refine .rg [(4,(.v (.bool true)))] [] ?_
    refine Ok.ret ?_
    obtain rfl:=Option.some.inj H
    exact⟨.inl rfl,⟨_,(.cons (.tmp rfl) .nil),rfl⟩,trivial⟩
def watchbillref04_Same.j2 (c1:Int→Str→Str→List T_api_Attr→List T_api_Node→Str→Int→Str→Str→List T_api_Attr→List T_api_Node→Str→Int→Int→Int→Option Bool) (x5_9:Int) (y2_0_39:Int) (y2_1_40:Str) (y2_2_41:Str) (y2_3_42:List T_api_Attr) (y2_4_43:List T_api_Node) (y2_5_44:Str) (y3_0_45:Int) (y3_1_46:Str) (y3_2_47:Str) (y3_3_48:List T_api_Attr) (y3_4_49:List T_api_Node) (y3_5_50:Str) (x7_37:Int) (x8_38:Int) (x6_67:Int):Option Bool:=(if (0:Int) ≤ x8_38 ∧ x8_38 < (y3_3_48.length:Int) then (if (0:Int) ≤ x5_9 ∧ x5_9 < (y2_3_42.length:Int) then (if ((rd y3_3_48 x8_38).Name.Space == (rd y2_3_42 x5_9).Name.Space && ((rd y3_3_48 x8_38).Name.Local == (rd y2_3_42 x5_9).Name.Local && ((rd y3_3_48 x8_38).Value == (rd y2_3_42 x5_9).Value && true)))=true then c1 y2_0_39 y2_1_40 y2_2_41 y2_3_42 y2_4_43 y2_5_44 y3_0_45 y3_1_46 y3_2_47 y3_3_48 y3_4_49 y3_5_50 x6_67 (IntKind.i64.wrap (x7_37 + 1)) (IntKind.i64.wrap (x8_38 + 1)) else c1 y2_0_39 y2_1_40 y2_2_41 y2_3_42 y2_4_43 y2_5_44 y3_0_45 y3_1_46 y3_2_47 y3_3_48 y3_4_49 y3_5_50 x6_67 x7_37 (IntKind.i64.wrap (x8_38 + 1))) else none) else none)
def watchbillref04_Same.l1 (k:Nat) (c0:Int→Str→Str→List T_api_Attr→List T_api_Node→Str→Int→Str→Str→List T_api_Attr→List T_api_Node→Str→Int→Option Bool) (x5_9:Int):Nat→Int→Str→Str→List T_api_Attr→List T_api_Node→Str→Int→Str→Str→List T_api_Attr→List T_api_Node→Str→Int→Int→Int→Option Bool
 | 0,_,_,_,_,_,_,_,_,_,_,_,_,_,_,_ => none
 | m66 + 1,y2_0_39,y2_1_40,y2_2_41,y2_3_42,y2_4_43,y2_5_44,y3_0_45,y3_1_46,y3_2_47,y3_3_48,y3_4_49,y3_5_50,x6_36,x7_37,x8_38 => (if (decide (x8_38 < (y2_3_42.length:Int)))=true then (if (0:Int) ≤ x8_38 ∧ x8_38 < (y2_3_42.length:Int) then (if (0:Int) ≤ x5_9 ∧ x5_9 < (y2_3_42.length:Int) then (if ((rd y2_3_42 x8_38).Name.Space == (rd y2_3_42 x5_9).Name.Space && ((rd y2_3_42 x8_38).Name.Local == (rd y2_3_42 x5_9).Name.Local && ((rd y2_3_42 x8_38).Value == (rd y2_3_42 x5_9).Value && true)))=true then watchbillref04_Same.j2 (watchbillref04_Same.l1 k c0 x5_9 m66) x5_9 y2_0_39 y2_1_40 y2_2_41 y2_3_42 y2_4_43 y2_5_44 y3_0_45 y3_1_46 y3_2_47 y3_3_48 y3_4_49 y3_5_50 x7_37 x8_38 (IntKind.i64.wrap (x6_36 + 1)) else watchbillref04_Same.j2 (watchbillref04_Same.l1 k c0 x5_9 m66) x5_9 y2_0_39 y2_1_40 y2_2_41 y2_3_42 y2_4_43 y2_5_44 y3_0_45 y3_1_46 y3_2_47 y3_3_48 y3_4_49 y3_5_50 x7_37 x8_38 x6_36) else none) else none) else (if (x6_36 != x7_37)=true then some false else c0 y2_0_39 y2_1_40 y2_2_41 y2_3_42 y2_4_43 y2_5_44 y3_0_45 y3_1_46 y3_2_47 y3_3_48 y3_4_49 y3_5_50 (IntKind.i64.wrap (x5_9 + 1))))
def watchbillref04_Same.l3 (k:Nat) (self:T_api_Node→T_api_Node→Option Bool):Nat→Int→Str→Str→List T_api_Attr→List T_api_Node→Str→Int→Str→Str→List T_api_Attr→List T_api_Node→Str→Int→Option Bool
 | 0,_,_,_,_,_,_,_,_,_,_,_,_,_ => none
 | m102 + 1,y2_0_77,y2_1_78,y2_2_79,y2_3_80,y2_4_81,y2_5_82,y3_0_83,y3_1_84,y3_2_85,y3_3_86,y3_4_87,y3_5_88,x9_76 => (if (decide (x9_76 < (y2_4_81.length:Int)))=true then (if (0:Int) ≤ x9_76 ∧ x9_76 < (y2_4_81.length:Int) then (if (0:Int) ≤ x9_76 ∧ x9_76 < (y3_4_87.length:Int) then ((self (rd y2_4_81 x9_76) (rd y3_4_87 x9_76)).bind fun (t105:Bool) => (if (!t105)=true then some false else watchbillref04_Same.l3 k self m102 y2_0_77 y2_1_78 y2_2_79 y2_3_80 y2_4_81 y2_5_82 y3_0_83 y3_1_84 y3_2_85 y3_3_86 y3_4_87 y3_5_88 (IntKind.i64.wrap (x9_76 + 1)))) else none) else none) else some true)
def watchbillref04_Same.l0 (k:Nat) (self:T_api_Node→T_api_Node→Option Bool):Nat→Int→Str→Str→List T_api_Attr→List T_api_Node→Str→Int→Str→Str→List T_api_Attr→List T_api_Node→Str→Int→Option Bool
 | 0,_,_,_,_,_,_,_,_,_,_,_,_,_ => none
 | m35 + 1,y2_0_10,y2_1_11,y2_2_12,y2_3_13,y2_4_14,y2_5_15,y3_0_16,y3_1_17,y3_2_18,y3_3_19,y3_4_20,y3_5_21,x5_9 => (if (decide (x5_9 < (y2_3_13.length:Int)))=true then watchbillref04_Same.l1 k (watchbillref04_Same.l0 k self m35) x5_9 k y2_0_10 y2_1_11 y2_2_12 y2_3_13 y2_4_14 y2_5_15 y3_0_16 y3_1_17 y3_2_18 y3_3_19 y3_4_20 y3_5_21 0 0 0 else watchbillref04_Same.l3 k self k y2_0_10 y2_1_11 y2_2_12 y2_3_13 y2_4_14 y2_5_15 y3_0_16 y3_1_17 y3_2_18 y3_3_19 y3_4_20 y3_5_21 0)
def watchbillref04_Same:Nat→T_api_Node→T_api_Node→Option Bool
 | 0,_,_ => none
 | k + 1,a0,a1 => (if (((((a0.Kind != a1.Kind) || (!(a0.Name.Space == a1.Name.Space && (a0.Name.Local == a1.Name.Local && true)))) || (!(a0.Text == a1.Text))) || ((a0.Attrs.length:Int) != (a1.Attrs.length:Int))) || ((a0.Kids.length:Int) != (a1.Kids.length:Int)))=true then some false else watchbillref04_Same.l0 k (watchbillref04_Same k) k a0.Kind a0.Name.Space a0.Name.Local a0.Attrs a0.Kids a0.Text a1.Kind a1.Name.Space a1.Name.Local a1.Attrs a1.Kids a1.Text 0)
theorem watchbillref04_Same.ok {k:Nat} {a0:T_api_Node} {a1:T_api_Node} {r:Bool} (H:watchbillref04_Same k a0 a1=some r):Vx.Fn Try.prog 34 [(.agg (e_api_Node a0)),(.agg (e_api_Node a1))] [] (.v (.bool r)) []:=by
 induction k generalizing a0 a1 r with
 | zero => exact absurd H (by simp [watchbillref04_Same])
 | succ k ih =>
  unfold watchbillref04_Same at H
  refine Vx.Fn.of_okR Try.func34 rfl (Nat.le_of_ble_eq_true rfl) ?_
  refine Ok.seq ?_
  refine Ok.region (σ':=⟨[(2,(.bref 2 0)),(3,(.bref 3 0))],[(2,(bxN a0)),(3,(bxN a1))]⟩) ?_ ?_
  ·refine OpsOk.cut1 0 (.agg (c_api_Node a0)) (DLe.of_eq (congrArg D.agg (e_api_Node_c _).symm)) ?_
   refine .rn 1 ?_
   refine OpsOk.cut1 1 (.agg (c_api_Node a1)) (DLe.of_eq (congrArg D.agg (e_api_Node_c _).symm)) ?_
   refine .rn 2 ?_
   exact .dn
  refine Ok.seq ?_
  refine Ok.seq ?_
  refine Ok.region (σ':=⟨[(2,(.bref 2 0)),(3,(.bref 3 0)),(46,(.v (.bool (((((a0.Kind != a1.Kind) || (!(a0.Name.Space == a1.Name.Space && (a0.Name.Local == a1.Name.Local && true)))) || (!(a0.Text == a1.Text))) || ((a0.Attrs.length:Int) != (a1.Attrs.length:Int))) || ((a0.Kids.length:Int) != (a1.Kids.length:Int))))))],[(2,(bxN a0)),(3,(bxN a1))]⟩) ?_ ?_
  ·refine .rn 6 ?_
   refine OpsOk.consI rfl rfl rfl (.one rfl) rfl (fun hw1 => (VOk.g (VOk.to (VOk.fieldB rfl Try.underlying27 rfl sz23 rfl rfl) rfl))) ?_
   refine OpsOk.consI rfl rfl rfl (.one rfl) rfl (fun hw1 => (GOk.fr (fr':=[(16,(.bref 2 1))]) ⟨DLe.of_eq (cT hw1).symm,trivial⟩ (VOk.g (VOk.to (d':=(.agg (e_api_Name a0.Name))) (.loadBAgg rfl Try.underlying23 rfl sz23 rfl rfl rfl) rfl)))) ?_
   refine OpsOk.consI rfl rfl rfl (.one rfl) rfl (fun hw1 => (VOk.g (VOk.to (VOk.fieldB rfl Try.underlying27 rfl sz23 rfl rfl) rfl))) ?_
   refine OpsOk.consI rfl rfl rfl (.one rfl) rfl (fun hw1 => (GOk.fr (fr':=[(18,(.bref 3 1))]) ⟨DLe.of_eq (cT hw1).symm,trivial⟩ (VOk.g (VOk.to (d':=(.agg (e_api_Name a1.Name))) (.loadBAgg rfl Try.underlying23 rfl sz23 rfl rfl rfl) rfl)))) ?_
   refine OpsOk.consI rfl rfl rfl (.one rfl) rfl (fun hw1 => (GOk.fr (fr':=[(17,(.agg (e_api_Name a0.Name))),(19,(.agg (e_api_Name a1.Name)))]) ⟨DLe.of_eq (cT hw1).symm,DLe.of_eq (cT hw1).symm,trivial⟩ (VOk.g (VOk.eqS' (op:=.neq) (d:=(.v (.bool (!(a0.Name.Space == a1.Name.Space && (a0.Name.Local == a1.Name.Local && true)))))) rfl (.inr rfl) (eqt23 9998) ag23 eg23 rfl rfl rfl rfl)))) ?_
   refine .cv (VOk.to (VOk.pickI (b:=(a0.Kind != a1.Kind)) (p:=true) (q:=(!(a0.Name.Space == a1.Name.Space && (a0.Name.Local == a1.Name.Local && true)))) rfl rfl (fun hp2 => rfl) (fun hp2 => (cT (f_beq hp2)))) (pickOr (a0.Kind != a1.Kind) (!(a0.Name.Space == a1.Name.Space && (a0.Name.Local == a1.Name.Local && true))))) rfl rfl ?_
   refine .rn 1 ?_
   refine OpsOk.consI rfl rfl rfl (.one rfl) rfl (fun hw3 => (VOk.g (VOk.to (VOk.fieldB rfl Try.underlying27 rfl sz9 rfl rfl) rfl))) ?_
   refine OpsOk.consI rfl rfl rfl (.one rfl) rfl (fun hw3 => (GOk.fr (fr':=[(23,(.bref 2 5))]) ⟨DLe.of_eq (cT hw3).symm,trivial⟩ (VOk.g (VOk.loadB (d:=(S a0.Text)) rfl Try.underlying9 rfl rfl rfl rfl)))) ?_
   refine OpsOk.consI rfl rfl rfl (.one rfl) rfl (fun hw3 => (VOk.g (VOk.to (VOk.fieldB rfl Try.underlying27 rfl sz9 rfl rfl) rfl))) ?_
   refine OpsOk.consI rfl rfl rfl (.one rfl) rfl (fun hw3 => (GOk.fr (fr':=[(25,(.bref 3 5))]) ⟨DLe.of_eq (cT hw3).symm,trivial⟩ (VOk.g (VOk.loadB (d:=(S a1.Text)) rfl Try.underlying9 rfl rfl rfl rfl)))) ?_
   refine OpsOk.consI rfl rfl rfl (.one rfl) rfl (fun hw3 => (GOk.fr (fr':=[(24,(S a0.Text)),(26,(S a1.Text))]) ⟨DLe.of_eq (cT hw3).symm,DLe.of_eq (cT hw3).symm,trivial⟩ (VOk.g (VOk.strOp (op:=.neq) (a:=a0.Text) (b:=a1.Text) rfl rfl rfl rfl)))) ?_
   refine .cv (VOk.to (VOk.pickI (b:=((a0.Kind != a1.Kind) || (!(a0.Name.Space == a1.Name.Space && (a0.Name.Local == a1.Name.Local && true))))) (p:=true) (q:=(!(a0.Text == a1.Text))) rfl rfl (fun hp4 => rfl) (fun hp4 => (cT (f_beq hp4)))) (pickOr ((a0.Kind != a1.Kind) || (!(a0.Name.Space == a1.Name.Space && (a0.Name.Local == a1.Name.Local && true)))) (!(a0.Text == a1.Text)))) rfl rfl ?_
   refine .rn 1 ?_
   refine OpsOk.consI rfl rfl rfl (.one rfl) rfl (fun hw5 => (VOk.g (VOk.to (VOk.fieldB rfl Try.underlying27 rfl sz24 rfl rfl) rfl))) ?_
   refine OpsOk.consI rfl rfl rfl (.one rfl) rfl (fun hw5 => (GOk.fr (fr':=[(30,(.bref 2 3))]) ⟨DLe.of_eq (cT hw5).symm,trivial⟩ (VOk.g (VOk.loadB (d:=(L 3 e_api_Attr a0.Attrs)) rfl Try.underlying24 rfl rfl rfl rfl)))) ?_
   refine OpsOk.consI rfl rfl rfl (.one rfl) rfl (fun hw5 => (GOk.fr (fr':=[(31,(L 3 e_api_Attr a0.Attrs))]) ⟨DLe.of_eq (cT hw5).symm,trivial⟩ (VOk.g (VOk.lenL (e:=e_api_Attr) (xs:=a0.Attrs) rfl Try.underlying24 rfl)))) ?_
   refine OpsOk.consI rfl rfl rfl (.one rfl) rfl (fun hw5 => (VOk.g (VOk.to (VOk.fieldB rfl Try.underlying27 rfl sz24 rfl rfl) rfl))) ?_
   refine OpsOk.consI rfl rfl rfl (.one rfl) rfl (fun hw5 => (GOk.fr (fr':=[(33,(.bref 3 3))]) ⟨DLe.of_eq (cT hw5).symm,trivial⟩ (VOk.g (VOk.loadB (d:=(L 3 e_api_Attr a1.Attrs)) rfl Try.underlying24 rfl rfl rfl rfl)))) ?_
   refine OpsOk.consI rfl rfl rfl (.one rfl) rfl (fun hw5 => (GOk.fr (fr':=[(34,(L 3 e_api_Attr a1.Attrs))]) ⟨DLe.of_eq (cT hw5).symm,trivial⟩ (VOk.g (VOk.lenL (e:=e_api_Attr) (xs:=a1.Attrs) rfl Try.underlying24 rfl)))) ?_
   refine OpsOk.consI rfl rfl rfl (.one rfl) rfl (fun hw5 => (GOk.fr (fr':=[(32,(.v (.int .i64 (a0.Attrs.length:Int)))),(35,(.v (.int .i64 (a1.Attrs.length:Int))))]) ⟨DLe.of_eq (cT hw5).symm,DLe.of_eq (cT hw5).symm,trivial⟩ (VOk.g (VOk.arith (op:=.neq) (k:=.i64) (a:=(a0.Attrs.length:Int)) (b:=(a1.Attrs.length:Int)) rfl rfl rfl rfl)))) ?_
   refine .cv (VOk.to (VOk.pickI (b:=(((a0.Kind != a1.Kind) || (!(a0.Name.Space == a1.Name.Space && (a0.Name.Local == a1.Name.Local && true)))) || (!(a0.Text == a1.Text)))) (p:=true) (q:=((a0.Attrs.length:Int) != (a1.Attrs.length:Int))) rfl rfl (fun hp6 => rfl) (fun hp6 => (cT (f_beq hp6)))) (pickOr (((a0.Kind != a1.Kind) || (!(a0.Name.Space == a1.Name.Space && (a0.Name.Local == a1.Name.Local && true)))) || (!(a0.Text == a1.Text))) ((a0.Attrs.length:Int) != (a1.Attrs.length:Int)))) rfl rfl ?_
   refine .rn 1 ?_
   refine OpsOk.consI rfl rfl rfl (.one rfl) rfl (fun hw7 => (VOk.g (VOk.to (VOk.fieldB rfl Try.underlying27 rfl sz25 rfl rfl) rfl))) ?_
   refine OpsOk.consI rfl rfl rfl (.one rfl) rfl (fun hw7 => (GOk.fr (fr':=[(39,(.bref 2 4))]) ⟨DLe.of_eq (cT hw7).symm,trivial⟩ (VOk.g (VOk.loadB (d:=(L 6 e_api_Node a0.Kids)) rfl Try.underlying25 rfl rfl rfl rfl)))) ?_
   refine OpsOk.consI rfl rfl rfl (.one rfl) rfl (fun hw7 => (GOk.fr (fr':=[(40,(L 6 e_api_Node a0.Kids))]) ⟨DLe.of_eq (cT hw7).symm,trivial⟩ (VOk.g (VOk.lenL (e:=e_api_Node) (xs:=a0.Kids) rfl Try.underlying25 rfl)))) ?_
   refine OpsOk.consI rfl rfl rfl (.one rfl) rfl (fun hw7 => (VOk.g (VOk.to (VOk.fieldB rfl Try.underlying27 rfl sz25 rfl rfl) rfl))) ?_
   refine OpsOk.consI rfl rfl rfl (.one rfl) rfl (fun hw7 => (GOk.fr (fr':=[(42,(.bref 3 4))]) ⟨DLe.of_eq (cT hw7).symm,trivial⟩ (VOk.g (VOk.loadB (d:=(L 6 e_api_Node a1.Kids)) rfl Try.underlying25 rfl rfl rfl rfl)))) ?_
   refine OpsOk.consI rfl rfl rfl (.one rfl) rfl (fun hw7 => (GOk.fr (fr':=[(43,(L 6 e_api_Node a1.Kids))]) ⟨DLe.of_eq (cT hw7).symm,trivial⟩ (VOk.g (VOk.lenL (e:=e_api_Node) (xs:=a1.Kids) rfl Try.underlying25 rfl)))) ?_
   refine OpsOk.consI rfl rfl rfl (.one rfl) rfl (fun hw7 => (GOk.fr (fr':=[(41,(.v (.int .i64 (a0.Kids.length:Int)))),(44,(.v (.int .i64 (a1.Kids.length:Int))))]) ⟨DLe.of_eq (cT hw7).symm,DLe.of_eq (cT hw7).symm,trivial⟩ (VOk.g (VOk.arith (op:=.neq) (k:=.i64) (a:=(a0.Kids.length:Int)) (b:=(a1.Kids.length:Int)) rfl rfl rfl rfl)))) ?_
   refine .cv (VOk.to (VOk.pickI (b:=((((a0.Kind != a1.Kind) || (!(a0.Name.Space == a1.Name.Space && (a0.Name.Local == a1.Name.Local && true)))) || (!(a0.Text == a1.Text))) || ((a0.Attrs.length:Int) != (a1.Attrs.length:Int)))) (p:=true) (q:=((a0.Kids.length:Int) != (a1.Kids.length:Int))) rfl rfl (fun hp8 => rfl) (fun hp8 => (cT (f_beq hp8)))) (pickOr ((((a0.Kind != a1.Kind) || (!(a0.Name.Space == a1.Name.Space && (a0.Name.Local == a1.Name.Local && true)))) || (!(a0.Text == a1.Text))) || ((a0.Attrs.length:Int) != (a1.Attrs.length:Int))) ((a0.Kids.length:Int) != (a1.Kids.length:Int)))) rfl rfl ?_
   exact .dn
  refine Ok.test (b:=(((((a0.Kind != a1.Kind) || (!(a0.Name.Space == a1.Name.Space && (a0.Name.Local == a1.Name.Local && true)))) || (!(a0.Text == a1.Text))) || ((a0.Attrs.length:Int) != (a1.Attrs.length:Int))) || ((a0.Kids.length:Int) != (a1.Kids.length:Int)))) rfl (fun hb110 => ?_) (fun hb110 => ?_)
  ·replace H:=ifT H hb110
   refine Ok.seq ?_
   refine .rg [(4,(.v (.bool false)))] [] ?_
   refine Ok.ret ?_
   obtain rfl:=Option.some.inj H
   exact⟨.inl rfl,⟨_,(.cons (.tmp rfl) .nil),rfl⟩,trivial⟩
  ·replace H:=ifF H hb110
   refine Ok.skip ?_
   refine Ok.seq ?_
   refine Ok.seq ?_
   refine .rg [(2,(.bref 2 0)),(3,(.bref 3 0)),(5,(.v (.int .i64 0)))] [(2,(bxN a0)),(3,(bxN a1))] ?_
   refine Ok.block ?_
   refine Ok.loop (fun m35 σ => ∃ (y2_0_10:Int) (y2_1_11:Str) (y2_2_12:Str) (y2_3_13:List T_api_Attr) (y2_4_14:List T_api_Node) (y2_5_15:Str) (y3_0_16:Int) (y3_1_17:Str) (y3_2_18:Str) (y3_3_19:List T_api_Attr) (y3_4_20:List T_api_Node) (y3_5_21:Str) (x5_9:Int),σ=⟨[(2,(.bref 2 0)),(3,(.bref 3 0)),(5,(.v (.int .i64 x5_9)))],[(2,(.box .ex [(.v (.int .i64 y2_0_10)),(S y2_1_11),(S y2_2_12),(L 3 e_api_Attr y2_3_13),(L 6 e_api_Node y2_4_14),(S y2_5_15)])),(3,(.box .ex [(.v (.int .i64 y3_0_16)),(S y3_1_17),(S y3_2_18),(L 3 e_api_Attr y3_3_19),(L 6 e_api_Node y3_4_20),(S y3_5_21)]))]⟩ ∧ watchbillref04_Same.l0 k (watchbillref04_Same k) m35 y2_0_10 y2_1_11 y2_2_12 y2_3_13 y2_4_14 y2_5_15 y3_0_16 y3_1_17 y3_2_18 y3_3_19 y3_4_20 y3_5_21 x5_9=some r) k ⟨a0.Kind,a0.Name.Space,a0.Name.Local,a0.Attrs,a0.Kids,a0.Text,a1.Kind,a1.Name.Space,a1.Name.Local,a1.Attrs,a1.Kids,a1.Text,0,rfl,H⟩ ?_
   rintro m35 σ ⟨y2_0_10,y2_1_11,y2_2_12,y2_3_13,y2_4_14,y2_5_15,y3_0_16,y3_1_17,y3_2_18,y3_3_19,y3_4_20,y3_5_21,x5_9,rfl,H⟩
   cases m35 with
   | zero => exact absurd H (by simp [watchbillref04_Same.l0])
   | succ m35 =>
    unfold watchbillref04_Same.l0 at H
    refine Ok.seq ?_
    refine Ok.seq ?_
    refine Ok.region (σ':=⟨[(2,(.bref 2 0)),(3,(.bref 3 0)),(5,(.v (.int .i64 x5_9))),(51,(.v (.bool (decide (x5_9 < (y2_3_13.length:Int))))))],[(2,(.box .ex [(.v (.int .i64 y2_0_10)),(S y2_1_11),(S y2_2_12),(L 3 e_api_Attr y2_3_13),(L 6 e_api_Node y2_4_14),(S y2_5_15)])),(3,(.box .ex [(.v (.int .i64 y3_0_16)),(S y3_1_17),(S y3_2_18),(L 3 e_api_Attr y3_3_19),(L 6 e_api_Node y3_4_20),(S y3_5_21)]))]⟩) ?_ ?_
    ·refine .rn 3 ?_
     refine .cv (VOk.lenL (e:=e_api_Attr) (xs:=y2_3_13) rfl Try.underlying24 rfl) rfl rfl ?_
     refine .rn 1 ?_
     exact .dn
    refine Ok.test (b:=(decide (x5_9 < (y2_3_13.length:Int)))) rfl (fun hb109 => ?_) (fun hb109 => ?_)
    ·replace H:=ifT H hb109
     refine Ok.skip ?_
     refine Ok.seq ?_
     refine Ok.block ?_
     refine Ok.seq ?_
     refine .rg [(2,(.bref 2 0)),(3,(.bref 3 0)),(5,(.v (.int .i64 x5_9))),(6,(.v (.int .i64 0))),(7,(.v (.int .i64 0)))] [(2,(.box .ex [(.v (.int .i64 y2_0_10)),(S y2_1_11),(S y2_2_12),(L 3 e_api_Attr y2_3_13),(L 6 e_api_Node y2_4_14),(S y2_5_15)])),(3,(.box .ex [(.v (.int .i64 y3_0_16)),(S y3_1_17),(S y3_2_18),(L 3 e_api_Attr y3_3_19),(L 6 e_api_Node y3_4_20),(S y3_5_21)]))] ?_
     refine Ok.seq ?_
     refine Ok.seq ?_
     refine .rg [(2,(.bref 2 0)),(3,(.bref 3 0)),(5,(.v (.int .i64 x5_9))),(6,(.v (.int .i64 0))),(7,(.v (.int .i64 0))),(8,(.v (.int .i64 0)))] [(2,(.box .ex [(.v (.int .i64 y2_0_10)),(S y2_1_11),(S y2_2_12),(L 3 e_api_Attr y2_3_13),(L 6 e_api_Node y2_4_14),(S y2_5_15)])),(3,(.box .ex [(.v (.int .i64 y3_0_16)),(S y3_1_17),(S y3_2_18),(L 3 e_api_Attr y3_3_19),(L 6 e_api_Node y3_4_20),(S y3_5_21)]))] ?_
     refine Ok.block ?_
     refine Ok.loop (fun m66 σ => ∃ (y2_0_39:Int) (y2_1_40:Str) (y2_2_41:Str) (y2_3_42:List T_api_Attr) (y2_4_43:List T_api_Node) (y2_5_44:Str) (y3_0_45:Int) (y3_1_46:Str) (y3_2_47:Str) (y3_3_48:List T_api_Attr) (y3_4_49:List T_api_Node) (y3_5_50:Str) (x6_36:Int) (x7_37:Int) (x8_38:Int),σ=⟨[(2,(.bref 2 0)),(3,(.bref 3 0)),(5,(.v (.int .i64 x5_9))),(6,(.v (.int .i64 x6_36))),(7,(.v (.int .i64 x7_37))),(8,(.v (.int .i64 x8_38)))],[(2,(.box .ex [(.v (.int .i64 y2_0_39)),(S y2_1_40),(S y2_2_41),(L 3 e_api_Attr y2_3_42),(L 6 e_api_Node y2_4_43),(S y2_5_44)])),(3,(.box .ex [(.v (.int .i64 y3_0_45)),(S y3_1_46),(S y3_2_47),(L 3 e_api_Attr y3_3_48),(L 6 e_api_Node y3_4_49),(S y3_5_50)]))]⟩ ∧ watchbillref04_Same.l1 k (watchbillref04_Same.l0 k (watchbillref04_Same k) m35) x5_9 m66 y2_0_39 y2_1_40 y2_2_41 y2_3_42 y2_4_43 y2_5_44 y3_0_45 y3_1_46 y3_2_47 y3_3_48 y3_4_49 y3_5_50 x6_36 x7_37 x8_38=some r) k ⟨y2_0_10,y2_1_11,y2_2_12,y2_3_13,y2_4_14,y2_5_15,y3_0_16,y3_1_17,y3_2_18,y3_3_19,y3_4_20,y3_5_21,0,0,0,rfl,H⟩ ?_
     rintro m66 σ ⟨y2_0_39,y2_1_40,y2_2_41,y2_3_42,y2_4_43,y2_5_44,y3_0_45,y3_1_46,y3_2_47,y3_3_48,y3_4_49,y3_5_50,x6_36,x7_37,x8_38,rfl,H⟩
     cases m66 with
     | zero => exact absurd H (by simp [watchbillref04_Same.l1])
     | succ m66 =>
      unfold watchbillref04_Same.l1 at H
      refine Ok.seq ?_
      refine Ok.seq ?_
      refine Ok.region (σ':=⟨[(2,(.bref 2 0)),(3,(.bref 3 0)),(5,(.v (.int .i64 x5_9))),(6,(.v (.int .i64 x6_36))),(7,(.v (.int .i64 x7_37))),(8,(.v (.int .i64 x8_38))),(58,(.v (.bool (decide (x8_38 < (y2_3_42.length:Int))))))],[(2,(.box .ex [(.v (.int .i64 y2_0_39)),(S y2_1_40),(S y2_2_41),(L 3 e_api_Attr y2_3_42),(L 6 e_api_Node y2_4_43),(S y2_5_44)])),(3,(.box .ex [(.v (.int .i64 y3_0_45)),(S y3_1_46),(S y3_2_47),(L 3 e_api_Attr y3_3_48),(L 6 e_api_Node y3_4_49),(S y3_5_50)]))]⟩) ?_ ?_
      ·refine .rn 3 ?_
       refine .cv (VOk.lenL (e:=e_api_Attr) (xs:=y2_3_42) rfl Try.underlying24 rfl) rfl rfl ?_
       refine .rn 1 ?_
       exact .dn
      refine Ok.test (b:=(decide (x8_38 < (y2_3_42.length:Int)))) rfl (fun hb75 => ?_) (fun hb75 => ?_)
      ·replace H:=ifT H hb75
       refine Ok.skip ?_
       refine Ok.seq ?_
       refine Ok.block ?_
       refine Ok.meet (fun σ => ∃ (x6_67:Int),σ=⟨[(2,(.bref 2 0)),(3,(.bref 3 0)),(5,(.v (.int .i64 x5_9))),(6,(.v (.int .i64 x6_67))),(7,(.v (.int .i64 x7_37))),(8,(.v (.int .i64 x8_38)))],[(2,(.box .ex [(.v (.int .i64 y2_0_39)),(S y2_1_40),(S y2_2_41),(L 3 e_api_Attr y2_3_42),(L 6 e_api_Node y2_4_43),(S y2_5_44)])),(3,(.box .ex [(.v (.int .i64 y3_0_45)),(S y3_1_46),(S y3_2_47),(L 3 e_api_Attr y3_3_48),(L 6 e_api_Node y3_4_49),(S y3_5_50)]))]⟩ ∧ watchbillref04_Same.j2 (watchbillref04_Same.l1 k (watchbillref04_Same.l0 k (watchbillref04_Same k) m35) x5_9 m66) x5_9 y2_0_39 y2_1_40 y2_2_41 y2_3_42 y2_4_43 y2_5_44 y3_0_45 y3_1_46 y3_2_47 y3_3_48 y3_4_49 y3_5_50 x7_37 x8_38 x6_67=some r) ?_ ?_
       ·refine Ok.seq ?_
        obtain⟨c71,H⟩:=assertE H
        obtain⟨c72,H⟩:=assertE H
        refine .dA [(2,(.bref 2 0)),(3,(.bref 3 0)),(5,(.v (.int .i64 x5_9))),(6,(.v (.int .i64 x6_36))),(7,(.v (.int .i64 x7_37))),(8,(.v (.int .i64 x8_38))),(71,(.v (.bool ((rd y2_3_42 x8_38).Name.Space == (rd y2_3_42 x5_9).Name.Space && ((rd y2_3_42 x8_38).Name.Local == (rd y2_3_42 x5_9).Name.Local && ((rd y2_3_42 x8_38).Value == (rd y2_3_42 x5_9).Value && true))))))] [(2,(.box .ex [(.v (.int .i64 y2_0_39)),(S y2_1_40),(S y2_2_41),(L 3 e_api_Attr y2_3_42),(L 6 e_api_Node y2_4_43),(S y2_5_44)])),(3,(.box .ex [(.v (.int .i64 y3_0_45)),(S y3_1_46),(S y3_2_47),(L 3 e_api_Attr y3_3_48),(L 6 e_api_Node y3_4_49),(S y3_5_50)]))] [[],[0],[],[1,2],[3],[],[5],[],[6,7],[8],[4,9]] mixed ?_ ?_
        ·refine .tn 3 ?_
         refine .tc (VOk.g (VOk.indexL (sz:=3) (e:=e_api_Attr) (xs:=y2_3_42) (i:=x8_38) rfl Try.underlying24 sz47 rfl rfl c71)) ?_
         refine .tn 4 ?_
         refine .tc (VOk.g (VOk.indexL (sz:=3) (e:=e_api_Attr) (xs:=y2_3_42) (i:=x5_9) rfl Try.underlying24 sz47 rfl rfl c72)) ?_
         refine .tn 1 ?_
         refine .tc (VOk.g (VOk.eqS' (op:=.eql) (d:=(.v (.bool ((rd y2_3_42 x8_38).Name.Space == (rd y2_3_42 x5_9).Name.Space && ((rd y2_3_42 x8_38).Name.Local == (rd y2_3_42 x5_9).Name.Local && ((rd y2_3_42 x8_38).Value == (rd y2_3_42 x5_9).Value && true)))))) rfl (.inl rfl) (eqt47 9997) ag47 eg47 rfl rfl rfl rfl)) ?_
         exact .dn
        refine Ok.test (b:=((rd y2_3_42 x8_38).Name.Space == (rd y2_3_42 x5_9).Name.Space && ((rd y2_3_42 x8_38).Name.Local == (rd y2_3_42 x5_9).Name.Local && ((rd y2_3_42 x8_38).Value == (rd y2_3_42 x5_9).Value && true)))) rfl (fun hb73 => ?_) (fun hb73 => ?_)
        ·replace H:=ifT H hb73
         refine .rg [(2,(.bref 2 0)),(3,(.bref 3 0)),(5,(.v (.int .i64 x5_9))),(6,(.v (.int .i64 (IntKind.i64.wrap (x6_36 + 1))))),(7,(.v (.int .i64 x7_37))),(8,(.v (.int .i64 x8_38)))] [(2,(.box .ex [(.v (.int .i64 y2_0_39)),(S y2_1_40),(S y2_2_41),(L 3 e_api_Attr y2_3_42),(L 6 e_api_Node y2_4_43),(S y2_5_44)])),(3,(.box .ex [(.v (.int .i64 y3_0_45)),(S y3_1_46),(S y3_2_47),(L 3 e_api_Attr y3_3_48),(L 6 e_api_Node y3_4_49),(S y3_5_50)]))] ?_
         exact⟨(IntKind.i64.wrap (x6_36 + 1)),rfl,H⟩
        ·replace H:=ifF H hb73
         refine Ok.le (σ':=⟨[(2,(.bref 2 0)),(3,(.bref 3 0)),(5,(.v (.int .i64 x5_9))),(6,(.v (.int .i64 x6_36))),(7,(.v (.int .i64 x7_37))),(8,(.v (.int .i64 x8_38)))],[(2,(.box .ex [(.v (.int .i64 y2_0_39)),(S y2_1_40),(S y2_2_41),(L 3 e_api_Attr y2_3_42),(L 6 e_api_Node y2_4_43),(S y2_5_44)])),(3,(.box .ex [(.v (.int .i64 y3_0_45)),(S y3_1_46),(S y3_2_47),(L 3 e_api_Attr y3_3_48),(L 6 e_api_Node y3_4_49),(S y3_5_50)]))]⟩) (.rf rfl rfl) ?_
         refine Ok.skip ?_
         exact⟨x6_36,rfl,H⟩
       ·rintro σ ⟨x6_67,rfl,H⟩
        unfold watchbillref04_Same.j2 at H
        refine Ok.seq ?_
        obtain⟨c68,H⟩:=assertE H
        obtain⟨c69,H⟩:=assertE H
        refine .dA [(2,(.bref 2 0)),(3,(.bref 3 0)),(5,(.v (.int .i64 x5_9))),(6,(.v (.int .i64 x6_67))),(7,(.v (.int .i64 x7_37))),(8,(.v (.int .i64 x8_38))),(84,(.v (.bool ((rd y3_3_48 x8_38).Name.Space == (rd y2_3_42 x5_9).Name.Space && ((rd y3_3_48 x8_38).Name.Local == (rd y2_3_42 x5_9).Name.Local && ((rd y3_3_48 x8_38).Value == (rd y2_3_42 x5_9).Value && true))))))] [(2,(.box .ex [(.v (.int .i64 y2_0_39)),(S y2_1_40),(S y2_2_41),(L 3 e_api_Attr y2_3_42),(L 6 e_api_Node y2_4_43),(S y2_5_44)])),(3,(.box .ex [(.v (.int .i64 y3_0_45)),(S y3_1_46),(S y3_2_47),(L 3 e_api_Attr y3_3_48),(L 6 e_api_Node y3_4_49),(S y3_5_50)]))] [[],[0],[],[1,2],[3],[],[5],[],[6,7],[8],[4,9]] mixed ?_ ?_
        ·refine .tn 3 ?_
         refine .tc (VOk.g (VOk.indexL (sz:=3) (e:=e_api_Attr) (xs:=y3_3_48) (i:=x8_38) rfl Try.underlying24 sz47 rfl rfl c68)) ?_
         refine .tn 4 ?_
         refine .tc (VOk.g (VOk.indexL (sz:=3) (e:=e_api_Attr) (xs:=y2_3_42) (i:=x5_9) rfl Try.underlying24 sz47 rfl rfl c69)) ?_
         refine .tn 1 ?_
         refine .tc (VOk.g (VOk.eqS' (op:=.eql) (d:=(.v (.bool ((rd y3_3_48 x8_38).Name.Space == (rd y2_3_42 x5_9).Name.Space && ((rd y3_3_48 x8_38).Name.Local == (rd y2_3_42 x5_9).Name.Local && ((rd y3_3_48 x8_38).Value == (rd y2_3_42 x5_9).Value && true)))))) rfl (.inl rfl) (eqt47 9997) ag47 eg47 rfl rfl rfl rfl)) ?_
         exact .dn
        refine Ok.test (b:=((rd y3_3_48 x8_38).Name.Space == (rd y2_3_42 x5_9).Name.Space && ((rd y3_3_48 x8_38).Name.Local == (rd y2_3_42 x5_9).Name.Local && ((rd y3_3_48 x8_38).Value == (rd y2_3_42 x5_9).Value && true)))) rfl (fun hb70 => ?_) (fun hb70 => ?_)
        ·replace H:=ifT H hb70
         refine .rg [(2,(.bref 2 0)),(3,(.bref 3 0)),(5,(.v (.int .i64 x5_9))),(6,(.v (.int .i64 x6_67))),(7,(.v (.int .i64 (IntKind.i64.wrap (x7_37 + 1))))),(8,(.v (.int .i64 x8_38)))] [(2,(.box .ex [(.v (.int .i64 y2_0_39)),(S y2_1_40),(S y2_2_41),(L 3 e_api_Attr y2_3_42),(L 6 e_api_Node y2_4_43),(S y2_5_44)])),(3,(.box .ex [(.v (.int .i64 y3_0_45)),(S y3_1_46),(S y3_2_47),(L 3 e_api_Attr y3_3_48),(L 6 e_api_Node y3_4_49),(S y3_5_50)]))] ?_
         refine .rg [(2,(.bref 2 0)),(3,(.bref 3 0)),(5,(.v (.int .i64 x5_9))),(6,(.v (.int .i64 x6_67))),(7,(.v (.int .i64 (IntKind.i64.wrap (x7_37 + 1))))),(8,(.v (.int .i64 (IntKind.i64.wrap (x8_38 + 1)))))] [(2,(.box .ex [(.v (.int .i64 y2_0_39)),(S y2_1_40),(S y2_2_41),(L 3 e_api_Attr y2_3_42),(L 6 e_api_Node y2_4_43),(S y2_5_44)])),(3,(.box .ex [(.v (.int .i64 y3_0_45)),(S y3_1_46),(S y3_2_47),(L 3 e_api_Attr y3_3_48),(L 6 e_api_Node y3_4_49),(S y3_5_50)]))] ?_
         exact⟨m66,Nat.lt_succ_self m66,y2_0_39,y2_1_40,y2_2_41,y2_3_42,y2_4_43,y2_5_44,y3_0_45,y3_1_46,y3_2_47,y3_3_48,y3_4_49,y3_5_50,x6_67,(IntKind.i64.wrap (x7_37 + 1)),(IntKind.i64.wrap (x8_38 + 1)),rfl,H⟩
        ·replace H:=ifF H hb70
         refine Ok.skip ?_
         refine .rg [(2,(.bref 2 0)),(3,(.bref 3 0)),(5,(.v (.int .i64 x5_9))),(6,(.v (.int .i64 x6_67))),(7,(.v (.int .i64 x7_37))),(8,(.v (.int .i64 (IntKind.i64.wrap (x8_38 + 1)))))] [(2,(.box .ex [(.v (.int .i64 y2_0_39)),(S y2_1_40),(S y2_2_41),(L 3 e_api_Attr y2_3_42),(L 6 e_api_Node y2_4_43),(S y2_5_44)])),(3,(.box .ex [(.v (.int .i64 y3_0_45)),(S y3_1_46),(S y3_2_47),(L 3 e_api_Attr y3_3_48),(L 6 e_api_Node y3_4_49),(S y3_5_50)]))] ?_
         exact⟨m66,Nat.lt_succ_self m66,y2_0_39,y2_1_40,y2_2_41,y2_3_42,y2_4_43,y2_5_44,y3_0_45,y3_1_46,y3_2_47,y3_3_48,y3_4_49,y3_5_50,x6_67,x7_37,(IntKind.i64.wrap (x8_38 + 1)),rfl,H⟩
      ·replace H:=ifF H hb75
       refine Ok.exit ?_
       refine Ok.seq ?_
       refine .rg [(2,(.bref 2 0)),(3,(.bref 3 0)),(5,(.v (.int .i64 x5_9))),(89,(.v (.bool (x6_36 != x7_37))))] [(2,(.box .ex [(.v (.int .i64 y2_0_39)),(S y2_1_40),(S y2_2_41),(L 3 e_api_Attr y2_3_42),(L 6 e_api_Node y2_4_43),(S y2_5_44)])),(3,(.box .ex [(.v (.int .i64 y3_0_45)),(S y3_1_46),(S y3_2_47),(L 3 e_api_Attr y3_3_48),(L 6 e_api_Node y3_4_49),(S y3_5_50)]))] ?_
       refine Ok.test (b:=(x6_36 != x7_37)) rfl (fun hb74 => ?_) (fun hb74 => ?_)
       ·replace H:=ifT H hb74
        refine Ok.seq ?_
        refine .rg [(4,(.v (.bool false)))] [] ?_
        refine Ok.ret ?_
        obtain rfl:=Option.some.inj H
        exact⟨.inl rfl,⟨_,(.cons (.tmp rfl) .nil),rfl⟩,trivial⟩
       ·replace H:=ifF H hb74
        refine Ok.skip ?_
        refine .rg [(2,(.bref 2 0)),(3,(.bref 3 0)),(5,(.v (.int .i64 (IntKind.i64.wrap (x5_9 + 1)))))] [(2,(.box .ex [(.v (.int .i64 y2_0_39)),(S y2_1_40),(S y2_2_41),(L 3 e_api_Attr y2_3_42),(L 6 e_api_Node y2_4_43),(S y2_5_44)])),(3,(.box .ex [(.v (.int .i64 y3_0_45)),(S y3_1_46),(S y3_2_47),(L 3 e_api_Attr y3_3_48),(L 6 e_api_Node y3_4_49),(S y3_5_50)]))] ?_
        exact⟨m35,Nat.lt_succ_self m35,y2_0_39,y2_1_40,y2_2_41,y2_3_42,y2_4_43,y2_5_44,y3_0_45,y3_1_46,y3_2_47,y3_3_48,y3_4_49,y3_5_50,(IntKind.i64.wrap (x5_9 + 1)),rfl,H⟩
    ·replace H:=ifF H hb109
     refine Ok.exit ?_
     refine Ok.seq ?_
     refine Ok.seq ?_
     refine .rg [(2,(.bref 2 0)),(3,(.bref 3 0)),(9,(.v (.int .i64 0)))] [(2,(.box .ex [(.v (.int .i64 y2_0_10)),(S y2_1_11),(S y2_2_12),(L 3 e_api_Attr y2_3_13),(L 6 e_api_Node y2_4_14),(S y2_5_15)])),(3,(.box .ex [(.v (.int .i64 y3_0_16)),(S y3_1_17),(S y3_2_18),(L 3 e_api_Attr y3_3_19),(L 6 e_api_Node y3_4_20),(S y3_5_21)]))] ?_
     refine Ok.block ?_
     refine Ok.loop (fun m102 σ => ∃ (y2_0_77:Int) (y2_1_78:Str) (y2_2_79:Str) (y2_3_80:List T_api_Attr) (y2_4_81:List T_api_Node) (y2_5_82:Str) (y3_0_83:Int) (y3_1_84:Str) (y3_2_85:Str) (y3_3_86:List T_api_Attr) (y3_4_87:List T_api_Node) (y3_5_88:Str) (x9_76:Int),σ=⟨[(2,(.bref 2 0)),(3,(.bref 3 0)),(9,(.v (.int .i64 x9_76)))],[(2,(.box .ex [(.v (.int .i64 y2_0_77)),(S y2_1_78),(S y2_2_79),(L 3 e_api_Attr y2_3_80),(L 6 e_api_Node y2_4_81),(S y2_5_82)])),(3,(.box .ex [(.v (.int .i64 y3_0_83)),(S y3_1_84),(S y3_2_85),(L 3 e_api_Attr y3_3_86),(L 6 e_api_Node y3_4_87),(S y3_5_88)]))]⟩ ∧ watchbillref04_Same.l3 k (watchbillref04_Same k) m102 y2_0_77 y2_1_78 y2_2_79 y2_3_80 y2_4_81 y2_5_82 y3_0_83 y3_1_84 y3_2_85 y3_3_86 y3_4_87 y3_5_88 x9_76=some r) k ⟨y2_0_10,y2_1_11,y2_2_12,y2_3_13,y2_4_14,y2_5_15,y3_0_16,y3_1_17,y3_2_18,y3_3_19,y3_4_20,y3_5_21,0,rfl,H⟩ ?_
     rintro m102 σ ⟨y2_0_77,y2_1_78,y2_2_79,y2_3_80,y2_4_81,y2_5_82,y3_0_83,y3_1_84,y3_2_85,y3_3_86,y3_4_87,y3_5_88,x9_76,rfl,H⟩
     cases m102 with
     | zero => exact absurd H (by simp [watchbillref04_Same.l3])
     | succ m102 =>
      unfold watchbillref04_Same.l3 at H
      refine Ok.seq ?_
      refine Ok.seq ?_
      refine Ok.region (σ':=⟨[(2,(.bref 2 0)),(3,(.bref 3 0)),(9,(.v (.int .i64 x9_76))),(94,(.v (.bool (decide (x9_76 < (y2_4_81.length:Int))))))],[(2,(.box .ex [(.v (.int .i64 y2_0_77)),(S y2_1_78),(S y2_2_79),(L 3 e_api_Attr y2_3_80),(L 6 e_api_Node y2_4_81),(S y2_5_82)])),(3,(.box .ex [(.v (.int .i64 y3_0_83)),(S y3_1_84),(S y3_2_85),(L 3 e_api_Attr y3_3_86),(L 6 e_api_Node y3_4_87),(S y3_5_88)]))]⟩) ?_ ?_
      ·refine .rn 3 ?_
       refine .cv (VOk.lenL (e:=e_api_Node) (xs:=y2_4_81) rfl Try.underlying25 rfl) rfl rfl ?_
       refine .rn 1 ?_
       exact .dn
      refine Ok.test (b:=(decide (x9_76 < (y2_4_81.length:Int)))) rfl (fun hb108 => ?_) (fun hb108 => ?_)
      ·replace H:=ifT H hb108
       refine Ok.skip ?_
       refine Ok.seq ?_
       refine Ok.block ?_
       refine Ok.seq ?_
       obtain⟨c103,H⟩:=assertE H
       obtain⟨c104,H⟩:=assertE H
       obtain⟨t105,h106,H⟩:=bindE H
       refine .dA [(2,(.bref 2 0)),(3,(.bref 3 0)),(9,(.v (.int .i64 x9_76))),(108,(.v (.bool (!t105))))] [(2,(.box .ex [(.v (.int .i64 y2_0_77)),(S y2_1_78),(S y2_2_79),(L 3 e_api_Attr y2_3_80),(L 6 e_api_Node y2_4_81),(S y2_5_82)])),(3,(.box .ex [(.v (.int .i64 y3_0_83)),(S y3_1_84),(S y3_2_85),(L 3 e_api_Attr y3_3_86),(L 6 e_api_Node y3_4_87),(S y3_5_88)]))] [[],[0],[],[1,2],[3],[],[5],[],[6,7],[8],[4,9],[10]] mixed ?_ ?_
       ·refine .tn 3 ?_
        refine .tc (VOk.g (VOk.indexL (sz:=6) (e:=e_api_Node) (xs:=y2_4_81) (i:=x9_76) rfl Try.underlying25 sz27 rfl rfl c103)) ?_
        refine .tn 4 ?_
        refine .tc (VOk.g (VOk.indexL (sz:=6) (e:=e_api_Node) (xs:=y3_4_87) (i:=x9_76) rfl Try.underlying25 sz27 rfl rfl c104)) ?_
        refine .tn 1 ?_
        refine .tc (GOk.call rfl rfl cl34 rfl (@ih _ _ _ h106) rfl) ?_
        refine .tn 1 ?_
        exact .dn
       refine Ok.test (b:=(!t105)) rfl (fun hb107 => ?_) (fun hb107 => ?_)
       ·replace H:=ifT H hb107
        refine Ok.seq ?_
        refine .rg [(4,(.v (.bool false)))] [] ?_
        refine Ok.ret ?_
        obtain rfl:=Option.some.inj H
        exact⟨.inl rfl,⟨_,(.cons (.tmp rfl) .nil),rfl⟩,trivial⟩
       ·replace H:=ifF H hb107
        refine Ok.skip ?_
        refine .rg [(2,(.bref 2 0)),(3,(.bref 3 0)),(9,(.v (.int .i64 (IntKind.i64.wrap (x9_76 + 1)))))] [(2,(.box .ex [(.v (.int .i64 y2_0_77)),(S y2_1_78),(S y2_2_79),(L 3 e_api_Attr y2_3_80),(L 6 e_api_Node y2_4_81),(S y2_5_82)])),(3,(.box .ex [(.v (.int .i64 y3_0_83)),(S y3_1_84),(S y3_2_85),(L 3 e_api_Attr y3_3_86),(L 6 e_api_Node y3_4_87),(S y3_5_88)]))] ?_
        exact⟨m102,Nat.lt_succ_self m102,y2_0_77,y2_1_78,y2_2_79,y2_3_80,y2_4_81,y2_5_82,y3_0_83,y3_1_84,y3_2_85,y3_3_86,y3_4_87,y3_5_88,(IntKind.i64.wrap (x9_76 + 1)),rfl,H⟩
      ·replace H:=ifF H hb108
       refine Ok.exit ?_
       refine Ok.seq ?_
       refine .rg [(4,(.v (.bool true)))] [] ?_
       refine Ok.ret ?_
       obtain rfl:=Option.some.inj H
       exact⟨.inl rfl,⟨_,(.cons (.tmp rfl) .nil),rfl⟩,trivial⟩
def watchbillref02_Same.l0 (k:Nat) (a0:List T_api_Attr) (a1:List T_api_Attr):Nat→Int→Option Bool
 | 0,_ => none
 | m3 + 1,x5_1 => (if (decide (x5_1 < (a0.length:Int)))=true then (if (0:Int) ≤ x5_1 ∧ x5_1 < (a0.length:Int) then (if (0:Int) ≤ x5_1 ∧ x5_1 < (a1.length:Int) then (if (!((rd a0 x5_1).Name.Space == (rd a1 x5_1).Name.Space && ((rd a0 x5_1).Name.Local == (rd a1 x5_1).Name.Local && ((rd a0 x5_1).Value == (rd a1 x5_1).Value && true))))=true then some false else watchbillref02_Same.l0 k a0 a1 m3 (IntKind.i64.wrap (x5_1 + 1))) else none) else none) else some true)
def watchbillref02_Same (k:Nat) (a0:List T_api_Attr) (a1:List T_api_Attr):Option Bool:=(if ((a0.length:Int) != (a1.length:Int))=true then some false else watchbillref02_Same.l0 k a0 a1 k 0)
theorem watchbillref02_Same.ok {k:Nat} {a0:List T_api_Attr} {a1:List T_api_Attr} {r:Bool} (H:watchbillref02_Same k a0 a1=some r):Vx.Fn Try.prog 35 [(L 3 e_api_Attr a0),(L 3 e_api_Attr a1)] [] (.v (.bool r)) []:=by
 unfold watchbillref02_Same at H
 refine Vx.Fn.of_okR Try.func35 rfl (Nat.le_of_ble_eq_true rfl) ?_
 refine Ok.seq ?_
 refine .rg [(0,(L 3 e_api_Attr a0)),(1,(L 3 e_api_Attr a1))] [] ?_
 refine Ok.seq ?_
 refine Ok.seq ?_
 refine Ok.region (σ':=⟨[(0,(L 3 e_api_Attr a0)),(1,(L 3 e_api_Attr a1)),(10,(.v (.bool ((a0.length:Int) != (a1.length:Int)))))],[]⟩) ?_ ?_
 ·refine .rn 1 ?_
  refine .cv (VOk.lenL (e:=e_api_Attr) (xs:=a0) rfl Try.underlying24 rfl) rfl rfl ?_
  refine .rn 1 ?_
  refine .cv (VOk.lenL (e:=e_api_Attr) (xs:=a1) rfl Try.underlying24 rfl) rfl rfl ?_
  refine .rn 1 ?_
  exact .dn
 refine Ok.test (b:=((a0.length:Int) != (a1.length:Int))) rfl (fun hb8 => ?_) (fun hb8 => ?_)
 ·replace H:=ifT H hb8
  refine Ok.seq ?_
  refine .rg [(4,(.v (.bool false)))] [] ?_
  refine Ok.ret ?_
  obtain rfl:=Option.some.inj H
  exact⟨.inl rfl,⟨_,(.cons (.tmp rfl) .nil),rfl⟩,trivial⟩
 ·replace H:=ifF H hb8
  refine Ok.skip ?_
  refine Ok.seq ?_
  refine Ok.seq ?_
  refine .rg [(0,(L 3 e_api_Attr a0)),(1,(L 3 e_api_Attr a1)),(5,(.v (.int .i64 0)))] [] ?_
  refine Ok.block ?_
  refine Ok.loop (fun m3 σ => ∃ (x5_1:Int),σ=⟨[(0,(L 3 e_api_Attr a0)),(1,(L 3 e_api_Attr a1)),(5,(.v (.int .i64 x5_1)))],[]⟩ ∧ watchbillref02_Same.l0 k a0 a1 m3 x5_1=some r) k ⟨0,rfl,H⟩ ?_
  rintro m3 σ ⟨x5_1,rfl,H⟩
  cases m3 with
  | zero => exact absurd H (by simp [watchbillref02_Same.l0])
  | succ m3 =>
   unfold watchbillref02_Same.l0 at H
   refine Ok.seq ?_
   refine Ok.seq ?_
   refine Ok.region (σ':=⟨[(0,(L 3 e_api_Attr a0)),(1,(L 3 e_api_Attr a1)),(5,(.v (.int .i64 x5_1))),(14,(.v (.bool (decide (x5_1 < (a0.length:Int))))))],[]⟩) ?_ ?_
   ·refine .rn 2 ?_
    refine .cv (VOk.lenL (e:=e_api_Attr) (xs:=a0) rfl Try.underlying24 rfl) rfl rfl ?_
    refine .rn 1 ?_
    exact .dn
   refine Ok.test (b:=(decide (x5_1 < (a0.length:Int)))) rfl (fun hb7 => ?_) (fun hb7 => ?_)
   ·replace H:=ifT H hb7
    refine Ok.skip ?_
    refine Ok.seq ?_
    refine Ok.block ?_
    refine Ok.seq ?_
    obtain⟨c4,H⟩:=assertE H
    obtain⟨c5,H⟩:=assertE H
    refine .dA [(0,(L 3 e_api_Attr a0)),(1,(L 3 e_api_Attr a1)),(5,(.v (.int .i64 x5_1))),(25,(.v (.bool (!((rd a0 x5_1).Name.Space == (rd a1 x5_1).Name.Space && ((rd a0 x5_1).Name.Local == (rd a1 x5_1).Name.Local && ((rd a0 x5_1).Value == (rd a1 x5_1).Value && true)))))))] [] [[],[],[0,1],[2],[],[],[4,5],[6],[3,7]] mixed ?_ ?_
    ·refine .tn 2 ?_
     refine .tc (VOk.g (VOk.indexL (sz:=3) (e:=e_api_Attr) (xs:=a0) (i:=x5_1) rfl Try.underlying24 sz47 rfl rfl c4)) ?_
     refine .tn 3 ?_
     refine .tc (VOk.g (VOk.indexL (sz:=3) (e:=e_api_Attr) (xs:=a1) (i:=x5_1) rfl Try.underlying24 sz47 rfl rfl c5)) ?_
     refine .tn 1 ?_
     refine .tc (VOk.g (VOk.eqS' (op:=.neq) (d:=(.v (.bool (!((rd a0 x5_1).Name.Space == (rd a1 x5_1).Name.Space && ((rd a0 x5_1).Name.Local == (rd a1 x5_1).Name.Local && ((rd a0 x5_1).Value == (rd a1 x5_1).Value && true))))))) rfl (.inr rfl) (eqt47 9997) ag47 eg47 rfl rfl rfl rfl)) ?_
     exact .dn
    refine Ok.test (b:=(!((rd a0 x5_1).Name.Space == (rd a1 x5_1).Name.Space && ((rd a0 x5_1).Name.Local == (rd a1 x5_1).Name.Local && ((rd a0 x5_1).Value == (rd a1 x5_1).Value && true))))) rfl (fun hb6 => ?_) (fun hb6 => ?_)
    ·replace H:=ifT H hb6
     refine Ok.seq ?_
     refine .rg [(4,(.v (.bool false)))] [] ?_
     refine Ok.ret ?_
     obtain rfl:=Option.some.inj H
     exact⟨.inl rfl,⟨_,(.cons (.tmp rfl) .nil),rfl⟩,trivial⟩
    ·replace H:=ifF H hb6
     refine Ok.skip ?_
     refine .rg [(0,(L 3 e_api_Attr a0)),(1,(L 3 e_api_Attr a1)),(5,(.v (.int .i64 (IntKind.i64.wrap (x5_1 + 1)))))] [] ?_
     exact⟨m3,Nat.lt_succ_self m3,(IntKind.i64.wrap (x5_1 + 1)),rfl,H⟩
   ·replace H:=ifF H hb7
    refine Ok.exit ?_
    refine Ok.seq ?_
    refine .rg [(4,(.v (.bool true)))] [] ?_
    refine Ok.ret ?_
    obtain rfl:=Option.some.inj H
    exact⟨.inl rfl,⟨_,(.cons (.tmp rfl) .nil),rfl⟩,trivial⟩
def watchbillref04_Equal.l0 (k:Nat) (self:T_api_Node→T_api_Node→Option Bool):Nat→Int→Str→Str→List T_api_Attr→List T_api_Node→Str→Int→Str→Str→List T_api_Attr→List T_api_Node→Str→Int→Option Bool
 | 0,_,_,_,_,_,_,_,_,_,_,_,_,_ => none
 | m33 + 1,y2_0_8,y2_1_9,y2_2_10,y2_3_11,y2_4_12,y2_5_13,y3_0_14,y3_1_15,y3_2_16,y3_3_17,y3_4_18,y3_5_19,x5_7 => (if (decide (x5_7 < (y2_4_12.length:Int)))=true then (if (0:Int) ≤ x5_7 ∧ x5_7 < (y2_4_12.length:Int) then (if (0:Int) ≤ x5_7 ∧ x5_7 < (y3_4_18.length:Int) then ((self (rd y2_4_12 x5_7) (rd y3_4_18 x5_7)).bind fun (t36:Bool) => (if (!t36)=true then some false else watchbillref04_Equal.l0 k self m33 y2_0_8 y2_1_9 y2_2_10 y2_3_11 y2_4_12 y2_5_13 y3_0_14 y3_1_15 y3_2_16 y3_3_17 y3_4_18 y3_5_19 (IntKind.i64.wrap (x5_7 + 1)))) else none) else none) else some true)
def watchbillref04_Equal:Nat→T_api_Node→T_api_Node→Option Bool
 | 0,_,_ => none
 | k + 1,a0,a1 => ((watchbillref04_Same k a0 a1).bind fun (t1:Bool) => (((if ((!t1) == false)=true then watchbillref02_Same k a0.Attrs a1.Attrs else some default)).bind fun (t4:Bool) => (if ((!t1) || (!t4))=true then some false else watchbillref04_Equal.l0 k (watchbillref04_Equal k) k a0.Kind a0.Name.Space a0.Name.Local a0.Attrs a0.Kids a0.Text a1.Kind a1.Name.Space a1.Name.Local a1.Attrs a1.Kids a1.Text 0)))
theorem watchbillref04_Equal.ok {k:Nat} {a0:T_api_Node} {a1:T_api_Node} {r:Bool} (H:watchbillref04_Equal k a0 a1=some r):Vx.Fn Try.prog 19 [(.agg (e_api_Node a0)),(.agg (e_api_Node a1))] [] (.v (.bool r)) []:=by
 induction k generalizing a0 a1 r with
 | zero => exact absurd H (by simp [watchbillref04_Equal])
 | succ k ih =>
  unfold watchbillref04_Equal at H
  refine Vx.Fn.of_okR Try.func19 rfl (Nat.le_of_ble_eq_true rfl) ?_
  refine Ok.seq ?_
  refine Ok.region (σ':=⟨[(2,(.bref 2 0)),(3,(.bref 3 0))],[(2,(bxN a0)),(3,(bxN a1))]⟩) ?_ ?_
  ·refine OpsOk.cut1 0 (.agg (c_api_Node a0)) (DLe.of_eq (congrArg D.agg (e_api_Node_c _).symm)) ?_
   refine .rn 1 ?_
   refine OpsOk.cut1 1 (.agg (c_api_Node a1)) (DLe.of_eq (congrArg D.agg (e_api_Node_c _).symm)) ?_
   refine .rn 2 ?_
   exact .dn
  refine Ok.seq ?_
  refine Ok.seq ?_
  obtain⟨t1,h2,H⟩:=bindE H
  obtain⟨t4,h5,H⟩:=bindE H
  refine Ok.region (σ':=⟨[(2,(.bref 2 0)),(3,(.bref 3 0)),(17,(.v (.bool ((!t1) || (!t4)))))],[(2,(bxN a0)),(3,(bxN a1))]⟩) ?_ ?_
  ·refine .cv (VOk.to (d':=(.agg (e_api_Node a0))) (.loadBAgg rfl Try.underlying27 rfl sz27 rfl rfl rfl) (congrArg D.agg (e_api_Node_c a0).symm)) rfl rfl ?_
   refine .cv (VOk.to (d':=(.agg (e_api_Node a1))) (.loadBAgg rfl Try.underlying27 rfl sz27 rfl rfl rfl) (congrArg D.agg (e_api_Node_c a1).symm)) rfl rfl ?_
   refine .cg (GOk.call rfl rfl cl34 rfl (watchbillref04_Same.ok h2) rfl) rfl rfl ?_
   refine .rn 2 ?_
   refine OpsOk.consI rfl rfl rfl (.one rfl) rfl (fun hw3 => (VOk.g (VOk.to (VOk.fieldB rfl Try.underlying27 rfl sz24 rfl rfl) rfl))) ?_
   refine OpsOk.consI rfl rfl rfl (.one rfl) rfl (fun hw3 => (GOk.fr (fr':=[(11,(.bref 2 3))]) ⟨DLe.of_eq (cT hw3).symm,trivial⟩ (VOk.g (VOk.loadB (d:=(L 3 e_api_Attr a0.Attrs)) rfl Try.underlying24 rfl rfl rfl rfl)))) ?_
   refine OpsOk.consI rfl rfl rfl (.one rfl) rfl (fun hw3 => (VOk.g (VOk.to (VOk.fieldB rfl Try.underlying27 rfl sz24 rfl rfl) rfl))) ?_
   refine OpsOk.consI rfl rfl rfl (.one rfl) rfl (fun hw3 => (GOk.fr (fr':=[(13,(.bref 3 3))]) ⟨DLe.of_eq (cT hw3).symm,trivial⟩ (VOk.g (VOk.loadB (d:=(L 3 e_api_Attr a1.Attrs)) rfl Try.underlying24 rfl rfl rfl rfl)))) ?_
   refine OpsOk.consI rfl rfl rfl (.one rfl) rfl (fun hw3 => (GOk.fr (fr':=[(12,(L 3 e_api_Attr a0.Attrs)),(14,(L 3 e_api_Attr a1.Attrs))]) ⟨DLe.of_eq (cT hw3).symm,DLe.of_eq (cT hw3).symm,trivial⟩ (GOk.call rfl rfl cl35 rfl (watchbillref02_Same.ok (ifT h5 hw3)) rfl))) ?_
   refine OpsOk.consI rfl rfl rfl (.one rfl) rfl (fun hw3 => (GOk.fr (fr':=[(15,(.v (.bool t4)))]) ⟨DLe.of_eq (cT hw3).symm,trivial⟩ (VOk.g (VOk.not (b:=t4) rfl rfl)))) ?_
   refine .cv (VOk.to (VOk.pickI (b:=(!t1)) (p:=true) (q:=(!t4)) rfl rfl (fun hp6 => rfl) (fun hp6 => (cT (f_beq hp6)))) (pickOr (!t1) (!t4))) rfl rfl ?_
   exact .dn
  refine Ok.test (b:=((!t1) || (!t4))) rfl (fun hb40 => ?_) (fun hb40 => ?_)
  ·replace H:=ifT H hb40
   refine Ok.seq ?_
   refine .rg [(4,(.v (.bool false)))] [] ?_
   refine Ok.ret ?_
   obtain rfl:=Option.some.inj H
   exact⟨.inl rfl,⟨_,(.cons (.tmp rfl) .nil),rfl⟩,trivial⟩
  ·replace H:=ifF H hb40
   refine Ok.skip ?_
   refine Ok.seq ?_
   refine Ok.seq ?_
   refine .rg [(2,(.bref 2 0)),(3,(.bref 3 0)),(5,(.v (.int .i64 0)))] [(2,(bxN a0)),(3,(bxN a1))] ?_
   refine Ok.block ?_
   refine Ok.loop (fun m33 σ => ∃ (y2_0_8:Int) (y2_1_9:Str) (y2_2_10:Str) (y2_3_11:List T_api_Attr) (y2_4_12:List T_api_Node) (y2_5_13:Str) (y3_0_14:Int) (y3_1_15:Str) (y3_2_16:Str) (y3_3_17:List T_api_Attr) (y3_4_18:List T_api_Node) (y3_5_19:Str) (x5_7:Int),σ=⟨[(2,(.bref 2 0)),(3,(.bref 3 0)),(5,(.v (.int .i64 x5_7)))],[(2,(.box .ex [(.v (.int .i64 y2_0_8)),(S y2_1_9),(S y2_2_10),(L 3 e_api_Attr y2_3_11),(L 6 e_api_Node y2_4_12),(S y2_5_13)])),(3,(.box .ex [(.v (.int .i64 y3_0_14)),(S y3_1_15),(S y3_2_16),(L 3 e_api_Attr y3_3_17),(L 6 e_api_Node y3_4_18),(S y3_5_19)]))]⟩ ∧ watchbillref04_Equal.l0 k (watchbillref04_Equal k) m33 y2_0_8 y2_1_9 y2_2_10 y2_3_11 y2_4_12 y2_5_13 y3_0_14 y3_1_15 y3_2_16 y3_3_17 y3_4_18 y3_5_19 x5_7=some r) k ⟨a0.Kind,a0.Name.Space,a0.Name.Local,a0.Attrs,a0.Kids,a0.Text,a1.Kind,a1.Name.Space,a1.Name.Local,a1.Attrs,a1.Kids,a1.Text,0,rfl,H⟩ ?_
   rintro m33 σ ⟨y2_0_8,y2_1_9,y2_2_10,y2_3_11,y2_4_12,y2_5_13,y3_0_14,y3_1_15,y3_2_16,y3_3_17,y3_4_18,y3_5_19,x5_7,rfl,H⟩
   cases m33 with
   | zero => exact absurd H (by simp [watchbillref04_Equal.l0])
   | succ m33 =>
    unfold watchbillref04_Equal.l0 at H
    refine Ok.seq ?_
    refine Ok.seq ?_
    refine Ok.region (σ':=⟨[(2,(.bref 2 0)),(3,(.bref 3 0)),(5,(.v (.int .i64 x5_7))),(22,(.v (.bool (decide (x5_7 < (y2_4_12.length:Int))))))],[(2,(.box .ex [(.v (.int .i64 y2_0_8)),(S y2_1_9),(S y2_2_10),(L 3 e_api_Attr y2_3_11),(L 6 e_api_Node y2_4_12),(S y2_5_13)])),(3,(.box .ex [(.v (.int .i64 y3_0_14)),(S y3_1_15),(S y3_2_16),(L 3 e_api_Attr y3_3_17),(L 6 e_api_Node y3_4_18),(S y3_5_19)]))]⟩) ?_ ?_
    ·refine .rn 3 ?_
     refine .cv (VOk.lenL (e:=e_api_Node) (xs:=y2_4_12) rfl Try.underlying25 rfl) rfl rfl ?_
     refine .rn 1 ?_
     exact .dn
    refine Ok.test (b:=(decide (x5_7 < (y2_4_12.length:Int)))) rfl (fun hb39 => ?_) (fun hb39 => ?_)
    ·replace H:=ifT H hb39
     refine Ok.skip ?_
     refine Ok.seq ?_
     refine Ok.block ?_
     refine Ok.seq ?_
     obtain⟨c34,H⟩:=assertE H
     obtain⟨c35,H⟩:=assertE H
     obtain⟨t36,h37,H⟩:=bindE H
     refine .dA [(2,(.bref 2 0)),(3,(.bref 3 0)),(5,(.v (.int .i64 x5_7))),(36,(.v (.bool (!t36))))] [(2,(.box .ex [(.v (.int .i64 y2_0_8)),(S y2_1_9),(S y2_2_10),(L 3 e_api_Attr y2_3_11),(L 6 e_api_Node y2_4_12),(S y2_5_13)])),(3,(.box .ex [(.v (.int .i64 y3_0_14)),(S y3_1_15),(S y3_2_16),(L 3 e_api_Attr y3_3_17),(L 6 e_api_Node y3_4_18),(S y3_5_19)]))] [[],[0],[],[1,2],[3],[],[5],[],[6,7],[8],[4,9],[10]] mixed ?_ ?_
     ·refine .tn 3 ?_
      refine .tc (VOk.g (VOk.indexL (sz:=6) (e:=e_api_Node) (xs:=y2_4_12) (i:=x5_7) rfl Try.underlying25 sz27 rfl rfl c34)) ?_
      refine .tn 4 ?_
      refine .tc (VOk.g (VOk.indexL (sz:=6) (e:=e_api_Node) (xs:=y3_4_18) (i:=x5_7) rfl Try.underlying25 sz27 rfl rfl c35)) ?_
      refine .tn 1 ?_
      refine .tc (GOk.call rfl rfl cl19 rfl (@ih _ _ _ h37) rfl) ?_
      refine .tn 1 ?_
      exact .dn
     refine Ok.test (b:=(!t36)) rfl (fun hb38 => ?_) (fun hb38 => ?_)
     ·replace H:=ifT H hb38
      refine Ok.seq ?_
      refine .rg [(4,(.v (.bool false)))] [] ?_
      refine Ok.ret ?_
      obtain rfl:=Option.some.inj H
      exact⟨.inl rfl,⟨_,(.cons (.tmp rfl) .nil),rfl⟩,trivial⟩
     ·replace H:=ifF H hb38
      refine Ok.skip ?_
      refine .rg [(2,(.bref 2 0)),(3,(.bref 3 0)),(5,(.v (.int .i64 (IntKind.i64.wrap (x5_7 + 1)))))] [(2,(.box .ex [(.v (.int .i64 y2_0_8)),(S y2_1_9),(S y2_2_10),(L 3 e_api_Attr y2_3_11),(L 6 e_api_Node y2_4_12),(S y2_5_13)])),(3,(.box .ex [(.v (.int .i64 y3_0_14)),(S y3_1_15),(S y3_2_16),(L 3 e_api_Attr y3_3_17),(L 6 e_api_Node y3_4_18),(S y3_5_19)]))] ?_
      exact⟨m33,Nat.lt_succ_self m33,y2_0_8,y2_1_9,y2_2_10,y2_3_11,y2_4_12,y2_5_13,y3_0_14,y3_1_15,y3_2_16,y3_3_17,y3_4_18,y3_5_19,(IntKind.i64.wrap (x5_7 + 1)),rfl,H⟩
    ·replace H:=ifF H hb39
     refine Ok.exit ?_
     refine Ok.seq ?_
     refine .rg [(4,(.v (.bool true)))] [] ?_
     refine Ok.ret ?_
     obtain rfl:=Option.some.inj H
     exact⟨.inl rfl,⟨_,(.cons (.tmp rfl) .nil),rfl⟩,trivial⟩
def path_joined.l0 (k:Nat) (a0:List T_api_Node):Nat→List T_api_Node→Int→Option (List T_api_Node)
 | 0,_,_ => none
 | m5 + 1,y3_2,x9_1 => (if (decide (x9_1 < (a0.length:Int)))=true then (if (0:Int) ≤ x9_1 ∧ x9_1 < (a0.length:Int) then (if ((((decide ((IntKind.i64.wrap ((y3_2.length:Int) - 1)) ≥ 0)) && (((rd a0 x9_1).Kind) == 2)) == true)=true→(0:Int) ≤ (IntKind.i64.wrap ((y3_2.length:Int) - 1)) ∧ (IntKind.i64.wrap ((y3_2.length:Int) - 1)) < (y3_2.length:Int)) then (if (((decide ((IntKind.i64.wrap ((y3_2.length:Int) - 1)) ≥ 0)) && (((rd a0 x9_1).Kind) == 2)) && (((rd y3_2 (IntKind.i64.wrap ((y3_2.length:Int) - 1))).Kind) == 2))=true then (if (0:Int) ≤ (IntKind.i64.wrap ((y3_2.length:Int) - 1)) ∧ (IntKind.i64.wrap ((y3_2.length:Int) - 1)) < (y3_2.length:Int) then (if ((rd y3_2 (IntKind.i64.wrap ((y3_2.length:Int) - 1))).Text).length + ((rd a0 x9_1).Text).length ≤ 9223372036854775807 then (if (0:Int) ≤ (IntKind.i64.wrap ((y3_2.length:Int) - 1)) ∧ (IntKind.i64.wrap ((y3_2.length:Int) - 1)) < (y3_2.length:Int) then ((some (y3_2.set (Int.toNat (IntKind.i64.wrap ((y3_2.length:Int) - 1))) (T_api_Node.mk ((rd y3_2 (IntKind.i64.wrap ((y3_2.length:Int) - 1))).Kind) (T_api_Name.mk ((rd y3_2 (IntKind.i64.wrap ((y3_2.length:Int) - 1))).Name.Space) ((rd y3_2 (IntKind.i64.wrap ((y3_2.length:Int) - 1))).Name.Local)) ((rd y3_2 (IntKind.i64.wrap ((y3_2.length:Int) - 1))).Attrs) ((rd y3_2 (IntKind.i64.wrap ((y3_2.length:Int) - 1))).Kids) (((rd y3_2 (IntKind.i64.wrap ((y3_2.length:Int) - 1))).Text) ++ ((rd a0 x9_1).Text))))).bind fun (t15:List T_api_Node) => path_joined.l0 k a0 m5 t15 (IntKind.i64.wrap (x9_1 + 1))) else none) else none) else none) else (if (y3_2.length + ([(rd a0 x9_1)]:List T_api_Node).length) * 104 ≤ 140737488355328 then path_joined.l0 k a0 m5 (y3_2 ++ ([(rd a0 x9_1)]:List T_api_Node)) (IntKind.i64.wrap (x9_1 + 1)) else none)) else none) else none) else some y3_2)
def path_joined (k:Nat) (a0:List T_api_Node):Option (List T_api_Node):=path_joined.l0 k a0 k ([]:List T_api_Node) 0
theorem path_joined.ok {k:Nat} {a0:List T_api_Node} {r:(List T_api_Node)} (H:path_joined k a0=some r):Vx.Fn Try.prog 52 [(L 6 e_api_Node a0)] [] (L 6 e_api_Node r) []:=by
 unfold path_joined at H
 refine Vx.Fn.of_okR Try.func52 rfl (Nat.le_of_ble_eq_true rfl) ?_
 refine Ok.seq ?_
 refine .rg [(0,(L 6 e_api_Node a0))] [] ?_
 refine Ok.seq ?_
 refine Ok.region (σ':=⟨[(0,(L 6 e_api_Node a0)),(3,(.sref 3))],[(3,(.rows true 27 6 (([]:List T_api_Node).map e_api_Node)))]⟩) ?_ ?_
 ·refine OpsOk.cons rfl (.nilT 3 27 6 (.inl rfl) rfl rfl) ?_
  exact .dn
 refine Ok.seq ?_
 refine Ok.seq ?_
 refine Ok.region (σ':=⟨[(3,(.sref 3)),(7,(L 6 e_api_Node a0)),(8,(.v (.int .i64 (a0.length:Int)))),(9,(.v (.int .i64 0)))],[(3,(.rows true 27 6 (([]:List T_api_Node).map e_api_Node)))]⟩) ?_ ?_
 ·refine .rn 1 ?_
  refine .cv (VOk.lenL (e:=e_api_Node) (xs:=a0) rfl Try.underlying25 rfl) rfl rfl ?_
  refine .rn 1 ?_
  exact .dn
 refine Ok.block ?_
 refine Ok.loop (fun m5 σ => ∃ (y3_2:List T_api_Node) (x9_1:Int),σ=⟨[(3,(.sref 3)),(7,(L 6 e_api_Node a0)),(8,(.v (.int .i64 (a0.length:Int)))),(9,(.v (.int .i64 x9_1)))],[(3,(.rows true 27 6 (y3_2.map e_api_Node)))]⟩ ∧ path_joined.l0 k a0 m5 y3_2 x9_1=some r) k ⟨([]:List T_api_Node),0,rfl,H⟩ ?_
 rintro m5 σ ⟨y3_2,x9_1,rfl,H⟩
 cases m5 with
 | zero => exact absurd H (by simp [path_joined.l0])
 | succ m5 =>
  unfold path_joined.l0 at H
  refine Ok.seq ?_
  refine .rg [(3,(.sref 3)),(7,(L 6 e_api_Node a0)),(8,(.v (.int .i64 (a0.length:Int)))),(9,(.v (.int .i64 x9_1))),(10,(.v (.bool (decide (x9_1 < (a0.length:Int))))))] [(3,(.rows true 27 6 (y3_2.map e_api_Node)))] ?_
  refine Ok.seq ?_
  refine Ok.test (b:=(decide (x9_1 < (a0.length:Int)))) rfl (fun hb19 => ?_) (fun hb19 => ?_)
  ·replace H:=ifT H hb19
   refine Ok.skip ?_
   refine Ok.seq ?_
   refine Ok.block ?_
   refine Ok.seq ?_
   obtain⟨c6,H⟩:=assertE H
   refine Ok.region (σ':=⟨[(3,(.sref 3)),(5,(.bref 5 0)),(7,(L 6 e_api_Node a0)),(8,(.v (.int .i64 (a0.length:Int)))),(9,(.v (.int .i64 x9_1)))],[(3,(.rows true 27 6 (y3_2.map e_api_Node))),(5,(.box .ex (c_api_Node (rd a0 x9_1))))]⟩) ?_ ?_
   ·refine .cv (VOk.indexL (sz:=6) (e:=e_api_Node) (xs:=a0) (i:=x9_1) rfl Try.underlying25 sz27 rfl rfl c6) rfl rfl ?_
    refine .rn 2 ?_
    refine OpsOk.cut1 12 (.agg [(.v (.int .i64 ((rd a0 x9_1).Kind))),(S ((rd a0 x9_1).Name.Space)),(S ((rd a0 x9_1).Name.Local)),(L 3 e_api_Attr ((rd a0 x9_1).Attrs)),(L 6 e_api_Node ((rd a0 x9_1).Kids)),(S ((rd a0 x9_1).Text))]) (DLe.of_eq (congrArg D.agg (e_api_Node_c _).symm)) ?_
    refine .rn 1 ?_
    exact .dn
   refine Ok.seq ?_
   refine Ok.seq ?_
   refine Ok.region (σ':=⟨[(3,(.sref 3)),(5,(.bref 5 0)),(6,(.v (.int .i64 (IntKind.i64.wrap ((y3_2.length:Int) - 1))))),(7,(L 6 e_api_Node a0)),(8,(.v (.int .i64 (a0.length:Int)))),(9,(.v (.int .i64 x9_1)))],[(3,(.rows true 27 6 (y3_2.map e_api_Node))),(5,(.box .ex (c_api_Node (rd a0 x9_1))))]⟩) ?_ ?_
   ·refine .rn 1 ?_
    refine .cv (VOk.lenTL (e:=e_api_Node) (xs:=y3_2) rfl Try.underlying25 rfl rfl) rfl rfl ?_
    refine .rn 2 ?_
    exact .dn
   refine Ok.seq ?_
   obtain⟨c10,H⟩:=assertE H
   refine Ok.region (σ':=⟨[(3,(.sref 3)),(5,(.bref 5 0)),(6,(.v (.int .i64 (IntKind.i64.wrap ((y3_2.length:Int) - 1))))),(7,(L 6 e_api_Node a0)),(8,(.v (.int .i64 (a0.length:Int)))),(9,(.v (.int .i64 x9_1))),(30,(.v (.bool (((decide ((IntKind.i64.wrap ((y3_2.length:Int) - 1)) ≥ 0)) && (((rd a0 x9_1).Kind) == 2)) && (((rd y3_2 (IntKind.i64.wrap ((y3_2.length:Int) - 1))).Kind) == 2)))))],[(3,(.rows true 27 6 (y3_2.map e_api_Node))),(5,(.box .ex (c_api_Node (rd a0 x9_1))))]⟩) ?_ ?_
   ·refine .rn 3 ?_
    refine OpsOk.consI rfl rfl rfl (.one rfl) rfl (fun hw7 => (VOk.g (VOk.to (VOk.fieldB rfl Try.underlying27 rfl sz3 rfl rfl) rfl))) ?_
    refine OpsOk.consI rfl rfl rfl (.one rfl) rfl (fun hw7 => (GOk.fr (fr':=[(19,(.bref 5 0))]) ⟨DLe.of_eq (cT hw7).symm,trivial⟩ (VOk.g (VOk.loadB (d:=(.v (.int .i64 ((rd a0 x9_1).Kind)))) rfl Try.underlying3 rfl rfl rfl rfl)))) ?_
    refine OpsOk.consI rfl rfl rfl (.one rfl) rfl (fun hw7 => (GOk.fr (fr':=[(20,(.v (.int .i64 ((rd a0 x9_1).Kind))))]) ⟨DLe.of_eq (cT hw7).symm,trivial⟩ (VOk.g (VOk.arith (op:=.eql) (k:=.i64) (a:=(rd a0 x9_1).Kind) (b:=2) rfl rfl rfl rfl)))) ?_
    refine .cv (VOk.to (VOk.pickI (b:=(decide ((IntKind.i64.wrap ((y3_2.length:Int) - 1)) ≥ 0))) (p:=(((rd a0 x9_1).Kind) == 2)) (q:=false) rfl rfl (fun hp8 => (cT (t_beq hp8))) (fun hp8 => rfl)) (pickAnd (decide ((IntKind.i64.wrap ((y3_2.length:Int) - 1)) ≥ 0)) (((rd a0 x9_1).Kind) == 2))) rfl rfl ?_
    refine .rn 1 ?_
    refine OpsOk.consI rfl rfl rfl (.one rfl) rfl (fun hw9 => (VOk.g (VOk.mv (d:=(.sref 3)) rfl rfl))) ?_
    refine OpsOk.consI rfl rfl rfl (.one rfl) rfl (fun hw9 => (VOk.g (VOk.mv (d:=(.v (.int .i64 (IntKind.i64.wrap ((y3_2.length:Int) - 1))))) rfl rfl))) ?_
    refine OpsOk.consI rfl rfl rfl (.one rfl) rfl (fun hw9 => (GOk.fr (fr':=[(24,(.sref 3)),(25,(.v (.int .i64 (IntKind.i64.wrap ((y3_2.length:Int) - 1)))))]) ⟨DLe.of_eq (cT hw9).symm,DLe.of_eq (cT hw9).symm,trivial⟩ (VOk.g (VOk.indexTL (e:=e_api_Node) (xs:=y3_2) (i:=(IntKind.i64.wrap ((y3_2.length:Int) - 1))) rfl Try.underlying25 sz27 rfl rfl rfl (c10 hw9))))) ?_
    refine OpsOk.consI rfl rfl rfl (.one rfl) rfl (fun hw9 => (GOk.fr (fr':=[(26,(.eref 3 (Int.toNat (IntKind.i64.wrap ((y3_2.length:Int) - 1))) 0))]) ⟨DLe.of_eq (cT hw9).symm,trivial⟩ (VOk.g (VOk.to (VOk.fieldE rfl Try.underlying27 rfl sz3 rfl rfl) rfl)))) ?_
    refine OpsOk.consI rfl rfl rfl (.one rfl) rfl (fun hw9 => (GOk.fr (fr':=[(27,(.eref 3 (Int.toNat (IntKind.i64.wrap ((y3_2.length:Int) - 1))) 0))]) ⟨DLe.of_eq (cT hw9).symm,trivial⟩ (VOk.g (VOk.loadE (d:=(.v (.int .i64 ((rd y3_2 (IntKind.i64.wrap ((y3_2.length:Int) - 1))).Kind)))) rfl Try.underlying3 rfl rfl rfl (row_rd (c10 hw9)) rfl)))) ?_
    refine OpsOk.consI rfl rfl rfl (.one rfl) rfl (fun hw9 => (GOk.fr (fr':=[(28,(.v (.int .i64 ((rd y3_2 (IntKind.i64.wrap ((y3_2.length:Int) - 1))).Kind))))]) ⟨DLe.of_eq (cT hw9).symm,trivial⟩ (VOk.g (VOk.arith (op:=.eql) (k:=.i64) (a:=(rd y3_2 (IntKind.i64.wrap ((y3_2.length:Int) - 1))).Kind) (b:=2) rfl rfl rfl rfl)))) ?_
    refine .cv (VOk.to (VOk.pickI (b:=((decide ((IntKind.i64.wrap ((y3_2.length:Int) - 1)) ≥ 0)) && (((rd a0 x9_1).Kind) == 2))) (p:=(((rd y3_2 (IntKind.i64.wrap ((y3_2.length:Int) - 1))).Kind) == 2)) (q:=false) rfl rfl (fun hp11 => (cT (t_beq hp11))) (fun hp11 => rfl)) (pickAnd ((decide ((IntKind.i64.wrap ((y3_2.length:Int) - 1)) ≥ 0)) && (((rd a0 x9_1).Kind) == 2)) (((rd y3_2 (IntKind.i64.wrap ((y3_2.length:Int) - 1))).Kind) == 2))) rfl rfl ?_
    exact .dn
   refine Ok.test (b:=(((decide ((IntKind.i64.wrap ((y3_2.length:Int) - 1)) ≥ 0)) && (((rd a0 x9_1).Kind) == 2)) && (((rd y3_2 (IntKind.i64.wrap ((y3_2.length:Int) - 1))).Kind) == 2))) rfl (fun hb18 => ?_) (fun hb18 => ?_)
   ·replace H:=ifT H hb18
    refine Ok.seq ?_
    obtain⟨c12,H⟩:=assertE H
    obtain⟨c13,H⟩:=assertE H
    obtain⟨c14,H⟩:=assertE H
    obtain⟨t15,h16,H⟩:=bindE H
    refine Ok.le (σ':=⟨[(3,(.sref 3)),(5,(.bref 5 0)),(6,(.v (.int .i64 (IntKind.i64.wrap ((y3_2.length:Int) - 1))))),(7,(L 6 e_api_Node a0)),(8,(.v (.int .i64 (a0.length:Int)))),(9,(.v (.int .i64 x9_1)))],[(3,(.rows true 27 6 (y3_2.map e_api_Node))),(5,(.box .ex (c_api_Node (rd a0 x9_1))))]⟩) (.rf rfl rfl) ?_
    refine .dU [(3,(.sref 3)),(7,(L 6 e_api_Node a0)),(8,(.v (.int .i64 (a0.length:Int)))),(9,(.v (.int .i64 x9_1)))] [(3,(.rows true 27 6 (t15.map e_api_Node)))] [[],[],[0,1],[2],[3],[],[5],[4,6],[0,1],[8],[0,2,3,4,7,8,9]] mixed ?_ ?_
    ·refine .un 2 ?_
     refine .uc ⟨true,[(31,(.sref 3)),(32,(.v (.int .i64 (IntKind.i64.wrap ((y3_2.length:Int) - 1)))))],[(3,(.rows true 27 6 (y3_2.map e_api_Node)))],(.eref 3 (Int.toNat (IntKind.i64.wrap ((y3_2.length:Int) - 1))) 0),[],false,[]⟩ ⟨.same _,.same _,trivial⟩ ⟨rfl,trivial⟩ (It2.val rfl rfl (fun T hT => (VOk.g (VOk.indexTL (e:=e_api_Node) (xs:=y3_2) (i:=(IntKind.i64.wrap ((y3_2.length:Int) - 1))) rfl Try.underlying25 sz27 rfl hT.1 rfl c12)))) ?_
     refine .uc ⟨true,[(33,(.eref 3 (Int.toNat (IntKind.i64.wrap ((y3_2.length:Int) - 1))) 0))],[(3,(.rows true 27 6 (y3_2.map e_api_Node)))],(.eref 3 (Int.toNat (IntKind.i64.wrap ((y3_2.length:Int) - 1))) 5),[],false,[]⟩ ⟨.same _,trivial⟩ ⟨rfl,trivial⟩ (It2.val rfl rfl (fun T hT => (VOk.g (VOk.to (VOk.fieldE rfl Try.underlying27 rfl sz9 rfl hT.1) rfl)))) ?_
     refine .uc ⟨true,[(34,(.eref 3 (Int.toNat (IntKind.i64.wrap ((y3_2.length:Int) - 1))) 5))],[(3,(.rows true 27 6 (y3_2.map e_api_Node)))],(S ((rd y3_2 (IntKind.i64.wrap ((y3_2.length:Int) - 1))).Text)),[],false,[]⟩ ⟨.same _,trivial⟩ ⟨rfl,trivial⟩ (It2.val rfl rfl (fun T hT => (VOk.g (VOk.loadE (d:=(S ((rd y3_2 (IntKind.i64.wrap ((y3_2.length:Int) - 1))).Text))) rfl Try.underlying9 rfl rfl hT.1 (row_rd c12) rfl)))) ?_
     refine .un 2 ?_
     refine .uc ⟨true,[(35,(S ((rd y3_2 (IntKind.i64.wrap ((y3_2.length:Int) - 1))).Text))),(37,(S ((rd a0 x9_1).Text)))],[],(S (((rd y3_2 (IntKind.i64.wrap ((y3_2.length:Int) - 1))).Text) ++ ((rd a0 x9_1).Text))),[],false,[]⟩ ⟨.same _,.same _,trivial⟩ trivial (It2.val rfl rfl (fun T hT => (VOk.g (VOk.cat (a:=(rd y3_2 (IntKind.i64.wrap ((y3_2.length:Int) - 1))).Text) (b:=(rd a0 x9_1).Text) rfl rfl rfl c13)))) ?_
     refine .uc ⟨true,[(31,(.sref 3)),(32,(.v (.int .i64 (IntKind.i64.wrap ((y3_2.length:Int) - 1)))))],[(3,(.rows true 27 6 (y3_2.map e_api_Node)))],(.eref 3 (Int.toNat (IntKind.i64.wrap ((y3_2.length:Int) - 1))) 0),[],false,[]⟩ ⟨.same _,.same _,trivial⟩ ⟨rfl,trivial⟩ (It2.val rfl rfl (fun T hT => (VOk.g (VOk.indexTL (e:=e_api_Node) (xs:=y3_2) (i:=(IntKind.i64.wrap ((y3_2.length:Int) - 1))) rfl Try.underlying25 sz27 rfl hT.1 rfl c14)))) ?_
     refine .uc ⟨true,[(39,(.eref 3 (Int.toNat (IntKind.i64.wrap ((y3_2.length:Int) - 1))) 0))],[(3,(.rows true 27 6 (y3_2.map e_api_Node)))],(.eref 3 (Int.toNat (IntKind.i64.wrap ((y3_2.length:Int) - 1))) 5),[],false,[]⟩ ⟨.same _,trivial⟩ ⟨rfl,trivial⟩ (It2.val rfl rfl (fun T hT => (VOk.g (VOk.to (VOk.fieldE rfl Try.underlying27 rfl sz9 rfl hT.1) rfl)))) ?_
     refine .uc ⟨true,[(40,(.eref 3 (Int.toNat (IntKind.i64.wrap ((y3_2.length:Int) - 1))) 5)),(38,(S (((rd y3_2 (IntKind.i64.wrap ((y3_2.length:Int) - 1))).Text) ++ ((rd a0 x9_1).Text))))],[(3,(.rows true 27 6 (y3_2.map e_api_Node)))],.junk,[(3,(.rows true 27 6 (t15.map e_api_Node)))],false,[]⟩ ⟨.same _,.same _,trivial⟩ ⟨rfl,trivial⟩ (It2.storeEL (e:=e_api_Node) (xs:=y3_2) (i:=(IntKind.i64.wrap ((y3_2.length:Int) - 1))) (y:=(T_api_Node.mk ((rd y3_2 (IntKind.i64.wrap ((y3_2.length:Int) - 1))).Kind) (T_api_Name.mk ((rd y3_2 (IntKind.i64.wrap ((y3_2.length:Int) - 1))).Name.Space) ((rd y3_2 (IntKind.i64.wrap ((y3_2.length:Int) - 1))).Name.Local)) ((rd y3_2 (IntKind.i64.wrap ((y3_2.length:Int) - 1))).Attrs) ((rd y3_2 (IntKind.i64.wrap ((y3_2.length:Int) - 1))).Kids) (((rd y3_2 (IntKind.i64.wrap ((y3_2.length:Int) - 1))).Text) ++ ((rd a0 x9_1).Text)))) rfl rfl sz9 rfl rfl rfl c14 rfl rfl rfl (by rw [e_api_Node_c,e_api_Node_c]; rfl) rfl (Option.some.inj h16)) ?_
     exact .dn
    refine Ok.exit ?_
    refine .rg [(3,(.sref 3)),(7,(L 6 e_api_Node a0)),(8,(.v (.int .i64 (a0.length:Int)))),(9,(.v (.int .i64 (IntKind.i64.wrap (x9_1 + 1)))))] [(3,(.rows true 27 6 (t15.map e_api_Node)))] ?_
    exact⟨m5,Nat.lt_succ_self m5,t15,(IntKind.i64.wrap (x9_1 + 1)),rfl,H⟩
   ·replace H:=ifF H hb18
    refine Ok.skip ?_
    obtain⟨c17,H⟩:=assertE H
    refine Ok.region (σ':=⟨[(3,(.sref 3)),(7,(L 6 e_api_Node a0)),(8,(.v (.int .i64 (a0.length:Int)))),(9,(.v (.int .i64 x9_1)))],[(3,(.rows true 27 6 ((y3_2 ++ ([(rd a0 x9_1)]:List T_api_Node)).map e_api_Node)))]⟩) ?_ ?_
    ·refine .rn 1 ?_
     refine .cv (VOk.to (d':=(.agg (e_api_Node (rd a0 x9_1)))) (.loadBAgg rfl Try.underlying27 rfl sz27 rfl rfl rfl) (congrArg D.agg (e_api_Node_c (rd a0 x9_1)).symm)) rfl rfl ?_
     refine .cg (GOk.to (d':=(L 6 e_api_Node ([(rd a0 x9_1)]:List T_api_Node))) (GOk.lit rfl Try.underlying25 sz27 zs27 rfl rfl rfl rfl) rfl) rfl rfl ?_
     refine OpsOk.cons rfl (OpOk.appendL (e:=e_api_Node) (xs:=y3_2) (ys:=([(rd a0 x9_1)]:List T_api_Node)) rfl Try.underlying25 elt27 rfl rfl rfl c17 rfl) ?_
     refine .rn 1 ?_
     exact .dn
    refine .rg [(3,(.sref 3)),(7,(L 6 e_api_Node a0)),(8,(.v (.int .i64 (a0.length:Int)))),(9,(.v (.int .i64 (IntKind.i64.wrap (x9_1 + 1)))))] [(3,(.rows true 27 6 ((y3_2 ++ ([(rd a0 x9_1)]:List T_api_Node)).map e_api_Node)))] ?_
    exact⟨m5,Nat.lt_succ_self m5,(y3_2 ++ ([(rd a0 x9_1)]:List T_api_Node)),(IntKind.i64.wrap (x9_1 + 1)),rfl,H⟩
  ·replace H:=ifF H hb19
   refine Ok.exit ?_
   refine Ok.seq ?_
   refine .rg [(2,(.sref 3))] [(3,(.rows true 27 6 (y3_2.map e_api_Node)))] ?_
   refine Ok.frzL 3 (e:=e_api_Node) (xs:=y3_2) rfl ?_
   refine Ok.ret ?_
   obtain rfl:=Option.some.inj H
   exact⟨.inl rfl,⟨_,(.cons (.tmp rfl) .nil),rfl⟩,trivial⟩
def path_named_1 (a0:T_api_Attr) (a1_0:Str) (a1_1:Str):Option Bool:=some (a0.Name.Space == (T_api_Name.mk a1_0 a1_1).Space && (a0.Name.Local == (T_api_Name.mk a1_0 a1_1).Local && true))
theorem path_named_1.ok {a0:T_api_Attr} {a1_0:Str} {a1_1:Str} {r:Bool} (H:path_named_1 a0 a1_0 a1_1=some r):Vx.Fn Try.prog 57 [(.agg (e_api_Attr a0)),(.fp [(S a1_0),(S a1_1)] 0)] [] (.v (.bool r)) []:=by
 unfold path_named_1 at H
 refine Vx.Fn.of_okR Try.func57 rfl (Nat.le_of_ble_eq_true rfl) ?_
 refine Ok.seq ?_
 refine .rg [(1,(.fp [(S a1_0),(S a1_1)] 0)),(2,(.bref 2 0))] [(2,(.box .ex (c_api_Attr a0)))] ?_
 refine Ok.seq ?_
 refine Ok.region (σ':=⟨[(3,(.v (.bool (a0.Name.Space == (T_api_Name.mk a1_0 a1_1).Space && (a0.Name.Local == (T_api_Name.mk a1_0 a1_1).Local && true)))))],[]⟩) ?_ ?_
 ·refine .rn 3 ?_
  refine .cv (VOk.eqS' (op:=.eql) (d:=(.v (.bool (a0.Name.Space == (T_api_Name.mk a1_0 a1_1).Space && (a0.Name.Local == (T_api_Name.mk a1_0 a1_1).Local && true))))) rfl (.inl rfl) (eqt23 9998) ag23 eg23 rfl rfl rfl rfl) rfl rfl ?_
  refine .rn 1 ?_
  exact .dn
 refine Ok.ret ?_
 obtain rfl:=Option.some.inj H
 exact⟨.inl rfl,⟨_,(.cons (.tmp rfl) .nil),rfl⟩,trivial⟩
def slices_IndexFunc_56.l0 (k:Nat) (a0:List T_api_Attr) (a1_0_0:Str) (a1_0_1:Str):Nat→Int→Option Int
 | 0,_ => none
 | m3 + 1,x8_1 => (if (decide (x8_1 < (a0.length:Int)))=true then (if (0:Int) ≤ x8_1 ∧ x8_1 < (a0.length:Int) then ((path_named_1 (rd a0 x8_1) a1_0_0 a1_0_1).bind fun (t5:Bool) => (if t5=true then some x8_1 else slices_IndexFunc_56.l0 k a0 a1_0_0 a1_0_1 m3 (IntKind.i64.wrap (x8_1 + 1)))) else none) else some (-1))
def slices_IndexFunc_56 (k:Nat) (a0:List T_api_Attr) (a1_0_0:Str) (a1_0_1:Str):Option Int:=slices_IndexFunc_56.l0 k a0 a1_0_0 a1_0_1 k 0
theorem slices_IndexFunc_56.ok {k:Nat} {a0:List T_api_Attr} {a1_0_0:Str} {a1_0_1:Str} {r:Int} (H:slices_IndexFunc_56 k a0 a1_0_0 a1_0_1=some r):Vx.Fn Try.prog 56 [(L 3 e_api_Attr a0),(.clo 57 [(.fp [(S a1_0_0),(S a1_0_1)] 0)])] [] (.v (.int .i64 r)) []:=by
 unfold slices_IndexFunc_56 at H
 refine Vx.Fn.of_okR Try.func56 rfl (Nat.le_of_ble_eq_true rfl) ?_
 refine Ok.seq ?_
 refine .rg [(0,(L 3 e_api_Attr a0)),(1,(.clo 57 [(.fp [(S a1_0_0),(S a1_0_1)] 0)]))] [] ?_
 refine Ok.seq ?_
 refine Ok.seq ?_
 refine Ok.region (σ':=⟨[(0,(L 3 e_api_Attr a0)),(1,(.clo 57 [(.fp [(S a1_0_0),(S a1_0_1)] 0)])),(7,(.v (.int .i64 (a0.length:Int)))),(8,(.v (.int .i64 0)))],[]⟩) ?_ ?_
 ·refine .rn 1 ?_
  refine .cv (VOk.lenL (e:=e_api_Attr) (xs:=a0) rfl Try.underlying24 rfl) rfl rfl ?_
  refine .rn 1 ?_
  exact .dn
 refine Ok.block ?_
 refine Ok.loop (fun m3 σ => ∃ (x8_1:Int),σ=⟨[(0,(L 3 e_api_Attr a0)),(1,(.clo 57 [(.fp [(S a1_0_0),(S a1_0_1)] 0)])),(7,(.v (.int .i64 (a0.length:Int)))),(8,(.v (.int .i64 x8_1)))],[]⟩ ∧ slices_IndexFunc_56.l0 k a0 a1_0_0 a1_0_1 m3 x8_1=some r) k ⟨0,rfl,H⟩ ?_
 rintro m3 σ ⟨x8_1,rfl,H⟩
 cases m3 with
 | zero => exact absurd H (by simp [slices_IndexFunc_56.l0])
 | succ m3 =>
  unfold slices_IndexFunc_56.l0 at H
  refine Ok.seq ?_
  refine .rg [(0,(L 3 e_api_Attr a0)),(1,(.clo 57 [(.fp [(S a1_0_0),(S a1_0_1)] 0)])),(7,(.v (.int .i64 (a0.length:Int)))),(8,(.v (.int .i64 x8_1))),(9,(.v (.bool (decide (x8_1 < (a0.length:Int))))))] [] ?_
  refine Ok.seq ?_
  refine Ok.test (b:=(decide (x8_1 < (a0.length:Int)))) rfl (fun hb8 => ?_) (fun hb8 => ?_)
  ·replace H:=ifT H hb8
   refine Ok.skip ?_
   refine Ok.seq ?_
   refine Ok.block ?_
   refine Ok.seq ?_
   refine .rg [(0,(L 3 e_api_Attr a0)),(1,(.clo 57 [(.fp [(S a1_0_0),(S a1_0_1)] 0)])),(5,(.v (.int .i64 x8_1))),(7,(.v (.int .i64 (a0.length:Int)))),(8,(.v (.int .i64 x8_1)))] [] ?_
   refine Ok.seq ?_
   obtain⟨c4,H⟩:=assertE H
   obtain⟨t5,h6,H⟩:=bindE H
   refine Ok.region (σ':=⟨[(0,(L 3 e_api_Attr a0)),(1,(.clo 57 [(.fp [(S a1_0_0),(S a1_0_1)] 0)])),(5,(.v (.int .i64 x8_1))),(7,(.v (.int .i64 (a0.length:Int)))),(8,(.v (.int .i64 x8_1))),(16,(.v (.bool t5)))],[]⟩) ?_ ?_
   ·refine .rn 3 ?_
    refine .cv (VOk.indexL (sz:=3) (e:=e_api_Attr) (xs:=a0) (i:=x8_1) rfl Try.underlying24 sz47 rfl rfl c4) rfl rfl ?_
    refine .rn 1 ?_
    refine .cg (GOk.call rfl rfl cl57 rfl (path_named_1.ok h6) rfl) rfl rfl ?_
    exact .dn
   refine Ok.test (b:=t5) rfl (fun hb7 => ?_) (fun hb7 => ?_)
   ·replace H:=ifT H hb7
    refine Ok.seq ?_
    refine .rg [(4,(.v (.int .i64 x8_1)))] [] ?_
    refine Ok.ret ?_
    obtain rfl:=Option.some.inj H
    exact⟨.inl rfl,⟨_,(.cons (.tmp rfl) .nil),rfl⟩,trivial⟩
   ·replace H:=ifF H hb7
    refine Ok.skip ?_
    refine .rg [(0,(L 3 e_api_Attr a0)),(1,(.clo 57 [(.fp [(S a1_0_0),(S a1_0_1)] 0)])),(7,(.v (.int .i64 (a0.length:Int)))),(8,(.v (.int .i64 (IntKind.i64.wrap (x8_1 + 1)))))] [] ?_
    exact⟨m3,Nat.lt_succ_self m3,(IntKind.i64.wrap (x8_1 + 1)),rfl,H⟩
  ·replace H:=ifF H hb8
   refine Ok.exit ?_
   refine Ok.seq ?_
   refine .rg [(4,(.v (.int .i64 (-1))))] [] ?_
   refine Ok.ret ?_
   obtain rfl:=Option.some.inj H
   exact⟨.inl rfl,⟨_,(.cons (.tmp rfl) .nil),rfl⟩,trivial⟩
def path_named (k:Nat) (a0:List T_api_Attr) (a1:T_api_Name):Option Int:=((slices_IndexFunc_56 k a0 a1.Space a1.Local).bind fun (t1:Int) => some t1)
theorem path_named.ok {k:Nat} {a0:List T_api_Attr} {a1:T_api_Name} {r:Int} (H:path_named k a0 a1=some r):Vx.Fn Try.prog 42 [(L 3 e_api_Attr a0),(.agg (e_api_Name a1))] [] (.v (.int .i64 r)) []:=by
 unfold path_named at H
 refine Vx.Fn.of_okR Try.func42 rfl (Nat.le_of_ble_eq_true rfl) ?_
 refine Ok.seq ?_
 refine .rg [(0,(L 3 e_api_Attr a0)),(3,(.bref 3 0))] [(3,(.box .ex [(S a1.Space),(S a1.Local)]))] ?_
 refine Ok.seq ?_
 obtain⟨t1,h2,H⟩:=bindE H
 refine Ok.region (σ':=⟨[(4,(.v (.int .i64 t1)))],[]⟩) ?_ ?_
 ·refine .rn 1 ?_
  refine OpsOk.frzBox 3 rfl rfl ?_
  refine .cv (VOk.makeFunc (ds:=[(.fp [(S a1.Space),(S a1.Local)] 0)]) rfl rfl) rfl rfl ?_
  refine .cg (GOk.call rfl rfl cl56 rfl (slices_IndexFunc_56.ok h2) rfl) rfl rfl ?_
  refine .rn 1 ?_
  exact .dn
 refine Ok.ret ?_
 obtain rfl:=Option.some.inj H
 exact⟨.inl rfl,⟨_,(.cons (.tmp rfl) .nil),rfl⟩,trivial⟩
end Go.Proofs.Ytjhbedgepfkdbaa.Sh
