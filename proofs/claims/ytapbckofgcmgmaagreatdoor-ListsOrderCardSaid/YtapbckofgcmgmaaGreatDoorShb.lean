import Derived.Test.YtapbckofgcmgmaaGreatDoorProg
import Derived.Test.YtapbckofgcmgmaaGreatDoorSha
namespace Go.Proofs.YtapbckofgcmgmaaGreatDoor.Sh
open Go Go.RowKit Go.Proofs.Vx
set_option linter.unusedVariables false
set_option maxRecDepth 100000
set_option maxHeartbeats 1000000
def lex_lexer_tag.g0 (y0_0_21:Str) (y0_1_22:Int) (y2_0_23:Int) (y2_1_24:Int) (y2_2_25:Str) (y2_4_26:Str) (y1002_27:List T_api_Token) (y1043_28:List T_api_Raw):Option T_lex_lexer:=(if (y1002_27.length + ([(T_api_Token.mk y2_0_23 y2_1_24 y2_2_25 y1043_28 y2_4_26)]:List T_api_Token).length) * 72 ≤ 140737488355328 then some (T_lex_lexer.mk y0_0_21 y0_1_22 (y1002_27 ++ ([(T_api_Token.mk y2_0_23 y2_1_24 y2_2_25 y1043_28 y2_4_26)]:List T_api_Token))) else none)
def lex_lexer_tag.g1 (k:Nat):Nat→Str→Int→Int→Int→Str→Str→Str→Str→List T_api_Token→List T_api_Raw→Option T_lex_lexer
 | 0,_,_,_,_,_,_,_,_,_,_ => none
 | m30 + 1,y0_0_1,y0_1_2,y2_0_3,y2_1_4,y2_2_5,y2_4_6,y3_0_7,y3_1_8,y1002_9,y1043_10 => ((lex_lexer_blanks k (T_lex_lexer.mk y0_0_1 y0_1_2 y1002_9)).bind fun (t31:Int × T_lex_lexer) => (if (t31.2.At_ == (t31.2.S_.length:Int))=true then none else ((lex_lexer_next t31.2 ([62]:Str)).bind fun (t33:Bool) => (if t33=true then lex_lexer_tag.g0 t31.2.S_ (IntKind.i64.wrap (t31.2.At_ + 1)) y2_0_3 y2_1_4 y2_2_5 y2_4_6 t31.2.L_ y1043_10 else ((lex_lexer_next t31.2 ([47,62]:Str)).bind fun (t35:Bool) => (if t35=true then lex_lexer_tag.g0 t31.2.S_ (IntKind.i64.wrap (t31.2.At_ + 2)) 3 y2_1_4 y2_2_5 y2_4_6 t31.2.L_ y1043_10 else ((lex_lexer_next t31.2 ([47]:Str)).bind fun (t37:Bool) => (if (t37 && ((IntKind.i64.wrap (t31.2.At_ + 1)) == (t31.2.S_.length:Int)))=true then none else ((lex_lexer_next t31.2 ([47]:Str)).bind fun (t41:Bool) => (if t41=true then none else (if (0:Int) ≤ t31.2.At_ ∧ t31.2.At_ < (t31.2.S_.length:Int) then ((lex_part (bt t31.2.S_ t31.2.At_)).bind fun (t44:Bool) => (if (t44 && (t31.1 == 0))=true then none else (if (0:Int) ≤ t31.2.At_ ∧ t31.2.At_ < (t31.2.S_.length:Int) then ((lex_part (bt t31.2.S_ t31.2.At_)).bind fun (t49:Bool) => (if (!t49)=true then none else (if ((y1043_10.length:Int) == 65)=true then none else ((lex_lexer_word k t31.2 y2_1_4).bind fun (t51:Str × T_lex_lexer) => ((lex_lexer_blanks k t51.2).bind fun (t53:Int × T_lex_lexer) => (if (t53.2.At_ == (t53.2.S_.length:Int))=true then none else ((lex_lexer_next t53.2 ([61]:Str)).bind fun (t55:Bool) => (if (!t55)=true then none else ((lex_lexer_blanks k (T_lex_lexer.mk t53.2.S_ (IntKind.i64.wrap (t53.2.At_ + 1)) t53.2.L_)).bind fun (t57:Int × T_lex_lexer) => (if (t57.2.At_ == (t57.2.S_.length:Int))=true then none else ((lex_lexer_next t57.2 ([34]:Str)).bind fun (t59:Bool) => (((if ((!t59) == true)=true then lex_lexer_next t57.2 ([39]:Str) else some default)).bind fun (t62:Bool) => (if ((!t59) && (!t62))=true then none else ((lex_lexer_value k t57.2 y2_1_4).bind fun (t65:Str × T_lex_lexer) => (if (y1043_10.length + ([(T_api_Raw.mk t51.1 t65.1)]:List T_api_Raw).length) * 32 ≤ 140737488355328 then lex_lexer_tag.g1 k m30 t65.2.S_ t65.2.At_ y2_0_3 y2_1_4 y2_2_5 y2_4_6 t51.1 t65.1 t65.2.L_ (y1043_10 ++ ([(T_api_Raw.mk t51.1 t65.1)]:List T_api_Raw)) else none))))))))))))))) else none))) else none)))))))))))
def lex_lexer_tag (k:Nat) (a0:T_lex_lexer):Option T_lex_lexer:=((lex_lexer_word k (T_lex_lexer.mk a0.S_ (IntKind.i64.wrap (a0.At_ + 1)) a0.L_) a0.At_).bind fun (t80:Str × T_lex_lexer) => ((lex_lexer_blanks k t80.2).bind fun (t82:Int × T_lex_lexer) => (if (t82.2.At_ == (t82.2.S_.length:Int))=true then none else ((lex_lexer_next t82.2 ([62]:Str)).bind fun (t84:Bool) => (if t84=true then lex_lexer_tag.g0 t82.2.S_ (IntKind.i64.wrap (t82.2.At_ + 1)) 1 a0.At_ t80.1 ([]:Str) t82.2.L_ ([]:List T_api_Raw) else ((lex_lexer_next t82.2 ([47,62]:Str)).bind fun (t86:Bool) => (if t86=true then lex_lexer_tag.g0 t82.2.S_ (IntKind.i64.wrap (t82.2.At_ + 2)) 3 a0.At_ t80.1 ([]:Str) t82.2.L_ ([]:List T_api_Raw) else ((lex_lexer_next t82.2 ([47]:Str)).bind fun (t88:Bool) => (if (t88 && ((IntKind.i64.wrap (t82.2.At_ + 1)) == (t82.2.S_.length:Int)))=true then none else ((lex_lexer_next t82.2 ([47]:Str)).bind fun (t92:Bool) => (if t92=true then none else (if (0:Int) ≤ t82.2.At_ ∧ t82.2.At_ < (t82.2.S_.length:Int) then ((lex_part (bt t82.2.S_ t82.2.At_)).bind fun (t95:Bool) => (if (t95 && (t82.1 == 0))=true then none else (if (0:Int) ≤ t82.2.At_ ∧ t82.2.At_ < (t82.2.S_.length:Int) then ((lex_part (bt t82.2.S_ t82.2.At_)).bind fun (t100:Bool) => (if (!t100)=true then none else (if ((([]:List T_api_Raw).length:Int) == 65)=true then none else ((lex_lexer_word k t82.2 a0.At_).bind fun (t102:Str × T_lex_lexer) => ((lex_lexer_blanks k t102.2).bind fun (t104:Int × T_lex_lexer) => (if (t104.2.At_ == (t104.2.S_.length:Int))=true then none else ((lex_lexer_next t104.2 ([61]:Str)).bind fun (t106:Bool) => (if (!t106)=true then none else ((lex_lexer_blanks k (T_lex_lexer.mk t104.2.S_ (IntKind.i64.wrap (t104.2.At_ + 1)) t104.2.L_)).bind fun (t108:Int × T_lex_lexer) => (if (t108.2.At_ == (t108.2.S_.length:Int))=true then none else ((lex_lexer_next t108.2 ([34]:Str)).bind fun (t110:Bool) => (((if ((!t110) == true)=true then lex_lexer_next t108.2 ([39]:Str) else some default)).bind fun (t113:Bool) => (if ((!t110) && (!t113))=true then none else ((lex_lexer_value k t108.2 a0.At_).bind fun (t116:Str × T_lex_lexer) => (if (([]:List T_api_Raw).length + ([(T_api_Raw.mk t102.1 t116.1)]:List T_api_Raw).length) * 32 ≤ 140737488355328 then lex_lexer_tag.g1 k k t116.2.S_ t116.2.At_ 1 a0.At_ t80.1 ([]:Str) t102.1 t116.1 t116.2.L_ (([]:List T_api_Raw) ++ ([(T_api_Raw.mk t102.1 t116.1)]:List T_api_Raw)) else none))))))))))))))) else none))) else none))))))))))))
theorem lex_lexer_tag.ok {k:Nat} {a0:T_lex_lexer} {r:T_lex_lexer} (H:lex_lexer_tag k a0=some r) (b:Nat):Vx.Fn Tryz.prog 69 [(.bref 0 0)] [(0,(lxB b a0)),(1002,(.rows true 78 5 (a0.L_.map e_api_Token)))] (.tup []) [(0,(lxB b r)),(1002,(.rows true 78 5 (r.L_.map e_api_Token))),(999,.none)]:=by
 unfold lex_lexer_tag at H
 refine Vx.Fn.of_okR Tryz.func69 rfl (Nat.le_of_ble_eq_true rfl) ?_
 refine Ok.scope (fun l m σ => (l=0 ∧ ∃ f,m=f + 1 ∧ ∃ (y0_0_1:Str),∃ (y0_1_2:Int),∃ (y2_0_3:Int),∃ (y2_1_4:Int),∃ (y2_2_5:Str),∃ (y2_4_6:Str),∃ (y3_0_7:Str),∃ (y3_1_8:Str),∃ (y1002_9:List T_api_Token),∃ (y1043_10:List T_api_Raw),σ=⟨[(0,(.bref 0 0)),(2,(.bref 2 0)),(3,(.bref 3 0))],[(0,(.box (.at b) [(S y0_0_1),(.v (.int .i64 y0_1_2)),(.sref 1002)])),(2,(.box .ex [(.v (.int .i64 y2_0_3)),(.v (.int .i64 y2_1_4)),(S y2_2_5),(.sref 1043),(S y2_4_6)])),(3,(.box .ex [(S y3_0_7),(S y3_1_8)])),(1002,(.rows true 78 5 (y1002_9.map e_api_Token))),(1043,(.rows true 132 2 (y1043_10.map e_api_Raw)))]⟩ ∧ lex_lexer_tag.g1 k f y0_0_1 y0_1_2 y2_0_3 y2_1_4 y2_2_5 y2_4_6 y3_0_7 y3_1_8 y1002_9 y1043_10=some r) ∨ (l=2 ∧ m=0 ∧ ∃ (y0_0_21:Str),∃ (y0_1_22:Int),∃ (y2_0_23:Int),∃ (y2_1_24:Int),∃ (y2_2_25:Str),∃ (y2_4_26:Str),∃ (y1002_27:List T_api_Token),∃ (y1043_28:List T_api_Raw),σ=⟨[(0,(.bref 0 0)),(2,(.bref 2 0))],[(0,(.box (.at b) [(S y0_0_21),(.v (.int .i64 y0_1_22)),(.sref 1002)])),(2,(.box .ex [(.v (.int .i64 y2_0_23)),(.v (.int .i64 y2_1_24)),(S y2_2_25),(.sref 1043),(S y2_4_26)])),(1002,(.rows true 78 5 (y1002_27.map e_api_Token))),(1043,(.rows true 132 2 (y1043_28.map e_api_Raw)))]⟩ ∧ lex_lexer_tag.g0 y0_0_21 y0_1_22 y2_0_23 y2_1_24 y2_2_25 y2_4_26 y1002_27 y1043_28=some r)) (k + 2) ?_ ?_
 ·refine Ok.seq ?_
  refine Ok.region (σ':=⟨[(0,(.bref 0 0)),(2,(.bref 2 0))],[(0,(lxB b a0)),(2,(.box .ex [(.v (.int .i64 1)),(.v (.int .i64 a0.At_)),S0,(.sref 1043),S0])),(1002,(.rows true 78 5 (a0.L_.map e_api_Token))),(1043,(.rows true 132 2 (([]:List T_api_Raw).map e_api_Raw)))]⟩) ?_ ?_
  ·refine .rn 4 ?_
   refine .cv (VOk.to (d':=(.agg [(.v (.int .i64 1)),(.v (.int .i64 a0.At_)),S0,(.v (.slice none 0 0)),S0])) (.build [none,none,none,none,none] [(0,1),(1,1),(2,1),(3,1),(4,1)] rfl Tryz.underlying78 (fa78 Tryz.underlying78) zo78 rfl rfl) rfl) rfl rfl ?_
   refine OpsOk.cons rfl (OpOk.alloc 2 [none,none,none,none,none] rfl zo78 rfl rfl) ?_
   refine OpsOk.sle (SLe.adopt 2 1043 3 132 2 rfl rfl rfl rfl rfl) ?_
   refine .rn 1 ?_
   refine OpsOk.sle (SLe.adopt 2 1043 3 132 2 rfl rfl rfl rfl rfl) ?_
   exact .dn
  refine Ok.seq ?_
  refine .rg [(0,(.bref 0 0)),(2,(.bref 2 0)),(3,(.bref 3 0))] [(0,(lxB b a0)),(2,(.box .ex [(.v (.int .i64 1)),(.v (.int .i64 a0.At_)),S0,(.sref 1043),S0])),(3,(.box .ex [S0,S0])),(1002,(.rows true 78 5 (a0.L_.map e_api_Token))),(1043,(.rows true 132 2 (([]:List T_api_Raw).map e_api_Raw)))] ?_
  refine Ok.seq ?_
  refine .rg [(0,(.bref 0 0)),(2,(.bref 2 0)),(3,(.bref 3 0))] [(0,(lxB b a0)),(2,(.box .ex [(.v (.int .i64 1)),(.v (.int .i64 a0.At_)),S0,(.sref 1043),S0])),(3,(.box .ex [S0,S0])),(1002,(.rows true 78 5 (a0.L_.map e_api_Token))),(1043,(.rows true 132 2 (([]:List T_api_Raw).map e_api_Raw)))] ?_
  refine Ok.seq ?_
  refine .rg [(0,(.bref 0 0)),(2,(.bref 2 0)),(3,(.bref 3 0))] [(0,(.box (.at b) [(S a0.S_),(.v (.int .i64 (IntKind.i64.wrap (a0.At_ + 1)))),(.sref 1002)])),(2,(.box .ex [(.v (.int .i64 1)),(.v (.int .i64 a0.At_)),S0,(.sref 1043),S0])),(3,(.box .ex [S0,S0])),(1002,(.rows true 78 5 (a0.L_.map e_api_Token))),(1043,(.rows true 132 2 (([]:List T_api_Raw).map e_api_Raw)))] ?_
  refine Ok.seq ?_
  obtain⟨t80,h81,H⟩:=bindE H
  refine Ok.region (σ':=⟨[(0,(.bref 0 0)),(2,(.bref 2 0)),(3,(.bref 3 0))],[(0,(lxB b t80.2)),(2,(.box .ex [(.v (.int .i64 1)),(.v (.int .i64 a0.At_)),(S t80.1),(.sref 1043),S0])),(3,(.box .ex [S0,S0])),(1002,(.rows true 78 5 (t80.2.L_.map e_api_Token))),(1043,(.rows true 132 2 (([]:List T_api_Raw).map e_api_Raw)))]⟩) ?_ ?_
  ·refine .rn 3 ?_
   refine OpsOk.cons rfl (OpOk.callT (e:=(.at b)) 0 1002 920 rfl rfl cl88 (fun b => ((lex_lexer_word.ok h81) b)) rfl rfl rfl rfl rfl rfl rfl rfl) ?_
   refine .rn 2 ?_
   exact .dn
  refine Ok.seq ?_
  refine Ok.label ?_
  refine Ok.seq ?_
  obtain⟨t82,h83,H⟩:=bindE H
  refine Ok.region (σ':=⟨[(0,(.bref 0 0)),(2,(.bref 2 0)),(3,(.bref 3 0)),(4,(.v (.int .i64 t82.1)))],[(0,(lxB b t82.2)),(2,(.box .ex [(.v (.int .i64 1)),(.v (.int .i64 a0.At_)),(S t80.1),(.sref 1043),S0])),(3,(.box .ex [S0,S0])),(1002,(.rows true 78 5 (t82.2.L_.map e_api_Token))),(1043,(.rows true 132 2 (([]:List T_api_Raw).map e_api_Raw)))]⟩) ?_ ?_
  ·refine .rn 1 ?_
   refine OpsOk.cons rfl (OpOk.callT (e:=(.at b)) 0 1002 923 rfl rfl cl62 (fun b => ((lex_lexer_blanks.ok h83) b)) rfl rfl rfl rfl rfl rfl rfl rfl) ?_
   refine .rn 1 ?_
   exact .dn
  refine Ok.seq ?_
  refine Ok.block ?_
  refine Ok.seq ?_
  refine .dA [(0,(.bref 0 0)),(2,(.bref 2 0)),(3,(.bref 3 0)),(4,(.v (.int .i64 t82.1))),(24,(.v (.bool (t82.2.At_ == (t82.2.S_.length:Int)))))] [(0,(lxB b t82.2)),(2,(.box .ex [(.v (.int .i64 1)),(.v (.int .i64 a0.At_)),(S t80.1),(.sref 1043),S0])),(3,(.box .ex [S0,S0])),(1002,(.rows true 78 5 (t82.2.L_.map e_api_Token))),(1043,(.rows true 132 2 (([]:List T_api_Raw).map e_api_Raw)))] [[],[0],[1],[2],[],[4],[5],[6],[7],[3,8],[9]] mixed ?_ ?_
  ·refine .tn 8 ?_
   refine .tc (VOk.g (VOk.lenStr (s:=t82.2.S_) rfl Tryz.underlying9 rfl)) ?_
   refine .tn 2 ?_
   exact .dn
  refine Ok.test (b:=(t82.2.At_ == (t82.2.S_.length:Int))) rfl (fun hb130 => ?_) (fun hb130 => ?_)
  ·replace H:=ifT H hb130
   cases H
  ·replace H:=ifF H hb130
   refine Ok.seq ?_
   obtain⟨t84,h85,H⟩:=bindE H
   refine Ok.region (σ':=⟨[(0,(.bref 0 0)),(2,(.bref 2 0)),(3,(.bref 3 0)),(4,(.v (.int .i64 t82.1))),(35,(.v (.bool t84)))],[(0,(lxB b t82.2)),(2,(.box .ex [(.v (.int .i64 1)),(.v (.int .i64 a0.At_)),(S t80.1),(.sref 1043),S0])),(3,(.box .ex [S0,S0])),(1002,(.rows true 78 5 (t82.2.L_.map e_api_Token))),(1043,(.rows true 132 2 (([]:List T_api_Raw).map e_api_Raw)))]⟩) ?_ ?_
   ·refine .rn 1 ?_
    refine .cg (GOk.callV2 rfl rfl cl48 rfl (lex_lexer_next.ok h85) rfl) rfl rfl ?_
    refine .rn 1 ?_
    exact .dn
   refine Ok.test (b:=t84) rfl (fun hb129 => ?_) (fun hb129 => ?_)
   ·replace H:=ifT H hb129
    refine Ok.seq ?_
    refine .rg [(0,(.bref 0 0)),(2,(.bref 2 0))] [(0,(.box (.at b) [(S t82.2.S_),(.v (.int .i64 (IntKind.i64.wrap (t82.2.At_ + 1)))),(.sref 1002)])),(2,(.box .ex [(.v (.int .i64 1)),(.v (.int .i64 a0.At_)),(S t80.1),(.sref 1043),S0])),(1002,(.rows true 78 5 (t82.2.L_.map e_api_Token))),(1043,(.rows true 132 2 (([]:List T_api_Raw).map e_api_Raw)))] ?_
    refine Ok.goto ?_
    exact⟨0,by omega,(.inr ⟨rfl,rfl,t82.2.S_,(IntKind.i64.wrap (t82.2.At_ + 1)),1,a0.At_,t80.1,([]:Str),t82.2.L_,([]:List T_api_Raw),rfl,H⟩)⟩
   ·replace H:=ifF H hb129
    refine Ok.seq ?_
    obtain⟨t86,h87,H⟩:=bindE H
    refine Ok.region (σ':=⟨[(0,(.bref 0 0)),(2,(.bref 2 0)),(3,(.bref 3 0)),(4,(.v (.int .i64 t82.1))),(45,(.v (.bool t86)))],[(0,(lxB b t82.2)),(2,(.box .ex [(.v (.int .i64 1)),(.v (.int .i64 a0.At_)),(S t80.1),(.sref 1043),S0])),(3,(.box .ex [S0,S0])),(1002,(.rows true 78 5 (t82.2.L_.map e_api_Token))),(1043,(.rows true 132 2 (([]:List T_api_Raw).map e_api_Raw)))]⟩) ?_ ?_
    ·refine .rn 1 ?_
     refine .cg (GOk.callV2 rfl rfl cl48 rfl (lex_lexer_next.ok h87) rfl) rfl rfl ?_
     refine .rn 1 ?_
     exact .dn
    refine Ok.test (b:=t86) rfl (fun hb128 => ?_) (fun hb128 => ?_)
    ·replace H:=ifT H hb128
     refine Ok.seq ?_
     refine .rg [(0,(.bref 0 0)),(2,(.bref 2 0))] [(0,(.box (.at b) [(S t82.2.S_),(.v (.int .i64 (IntKind.i64.wrap (t82.2.At_ + 2)))),(.sref 1002)])),(2,(.box .ex [(.v (.int .i64 1)),(.v (.int .i64 a0.At_)),(S t80.1),(.sref 1043),S0])),(1002,(.rows true 78 5 (t82.2.L_.map e_api_Token))),(1043,(.rows true 132 2 (([]:List T_api_Raw).map e_api_Raw)))] ?_
     refine Ok.seq ?_
     refine .rg [(0,(.bref 0 0)),(2,(.bref 2 0))] [(0,(.box (.at b) [(S t82.2.S_),(.v (.int .i64 (IntKind.i64.wrap (t82.2.At_ + 2)))),(.sref 1002)])),(2,(.box .ex [(.v (.int .i64 3)),(.v (.int .i64 a0.At_)),(S t80.1),(.sref 1043),S0])),(1002,(.rows true 78 5 (t82.2.L_.map e_api_Token))),(1043,(.rows true 132 2 (([]:List T_api_Raw).map e_api_Raw)))] ?_
     refine Ok.goto ?_
     exact⟨0,by omega,(.inr ⟨rfl,rfl,t82.2.S_,(IntKind.i64.wrap (t82.2.At_ + 2)),3,a0.At_,t80.1,([]:Str),t82.2.L_,([]:List T_api_Raw),rfl,H⟩)⟩
    ·replace H:=ifF H hb128
     refine Ok.seq ?_
     obtain⟨t88,h89,H⟩:=bindE H
     refine Ok.drawE (σ':=⟨[(0,(.bref 0 0)),(2,(.bref 2 0)),(3,(.bref 3 0)),(4,(.v (.int .i64 t82.1))),(56,(.v (.bool (t88 && ((IntKind.i64.wrap (t82.2.At_ + 1)) == (t82.2.S_.length:Int))))))],[(0,(lxB b t82.2)),(2,(.box .ex [(.v (.int .i64 1)),(.v (.int .i64 a0.At_)),(S t80.1),(.sref 1043),S0])),(3,(.box .ex [S0,S0])),(1002,(.rows true 78 5 (t82.2.L_.map e_api_Token))),(1043,(.rows true 132 2 (([]:List T_api_Raw).map e_api_Raw)))]⟩) [⟨true,[(0,(.bref 0 0))],(.bref 0 0)⟩,⟨true,[(57,(.bref 0 0))],(.v (.bool t88))⟩,⟨true,[(58,(.v (.bool t88)))],(.v (.bool t88))⟩,It.I (t88 == true) [(0,(.bref 0 0)),(59,(.v (.bool t88)))] (.bref 0 0),It.I (t88 == true) [(60,(bif (t88 == true) then (.bref 0 0) else .v undef)),(59,(.v (.bool t88)))] (.bref 0 0),It.I (t88 == true) [(61,(bif (t88 == true) then (.bref 0 0) else .v undef)),(59,(.v (.bool t88)))] (.bref 0 1),It.I (t88 == true) [(62,(bif (t88 == true) then (.bref 0 1) else .v undef)),(59,(.v (.bool t88)))] (.v (.int .i64 t82.2.At_)),It.I (t88 == true) [(63,(bif (t88 == true) then (.v (.int .i64 t82.2.At_)) else .v undef)),(59,(.v (.bool t88)))] (.v (.int .i64 (IntKind.i64.wrap (t82.2.At_ + 1)))),It.I (t88 == true) [(0,(.bref 0 0)),(59,(.v (.bool t88)))] (.bref 0 0),It.I (t88 == true) [(65,(bif (t88 == true) then (.bref 0 0) else .v undef)),(59,(.v (.bool t88)))] (.bref 0 0),It.I (t88 == true) [(66,(bif (t88 == true) then (.bref 0 0) else .v undef)),(59,(.v (.bool t88)))] (.bref 0 0),It.I (t88 == true) [(67,(bif (t88 == true) then (.bref 0 0) else .v undef)),(59,(.v (.bool t88)))] (S t82.2.S_),It.I (t88 == true) [(68,(bif (t88 == true) then (S t82.2.S_) else .v undef)),(59,(.v (.bool t88)))] (.v (.int .i64 (t82.2.S_.length:Int))),It.I (t88 == true) [(64,(bif (t88 == true) then (.v (.int .i64 (IntKind.i64.wrap (t82.2.At_ + 1)))) else .v undef)),(69,(bif (t88 == true) then (.v (.int .i64 (t82.2.S_.length:Int))) else .v undef)),(59,(.v (.bool t88)))] (.v (.bool ((IntKind.i64.wrap (t82.2.At_ + 1)) == (t82.2.S_.length:Int)))),⟨true,[(59,(.v (.bool t88))),(70,(bif (t88 == true) then (.v (.bool ((IntKind.i64.wrap (t82.2.At_ + 1)) == (t82.2.S_.length:Int)))) else .v undef))],(.v (.bool (t88 && ((IntKind.i64.wrap (t82.2.At_ + 1)) == (t82.2.S_.length:Int)))))⟩,⟨true,[(71,(.v (.bool (t88 && ((IntKind.i64.wrap (t82.2.At_ + 1)) == (t82.2.S_.length:Int))))))],(.v (.bool (t88 && ((IntKind.i64.wrap (t82.2.At_ + 1)) == (t82.2.S_.length:Int)))))⟩] [[],[0],[1],[2],[2,3],[2,4],[2,5],[2,6],[2],[2,8],[2,9],[2,10],[2,11],[2,7,12],[2,13],[14]] mixed (by kernel_rfl) ?_ ?_
     ·refine TxtE.cons rfl ⟨.same _,trivial⟩ rfl (VOk.g (VOk.mv (d:=(.bref 0 0)) rfl rfl)) ?_
      refine TxtE.cons rfl ⟨.same _,trivial⟩ rfl (GOk.callV2 rfl rfl cl48 rfl (lex_lexer_next.ok h89) rfl) ?_
      refine TxtE.cons rfl ⟨.same _,trivial⟩ rfl (VOk.g (VOk.mv (d:=(.v (.bool t88))) rfl rfl)) ?_
      refine TxtE.consI rfl ⟨.same _,.same _,trivial⟩ rfl rfl (.one rfl) (fun hw90 => (VOk.g (VOk.mv (d:=(.bref 0 0)) rfl rfl))) ?_
      refine TxtE.consI rfl ⟨.same _,.same _,trivial⟩ rfl rfl (.one rfl) (fun hw90 => (GOk.fr (fr':=[(60,(.bref 0 0))]) ⟨DLe.of_eq (cT hw90).symm,trivial⟩ (VOk.g (VOk.nilCheckB rfl rfl rfl)))) ?_
      refine TxtE.consI rfl ⟨.same _,.same _,trivial⟩ rfl rfl (.one rfl) (fun hw90 => (GOk.fr (fr':=[(61,(.bref 0 0))]) ⟨DLe.of_eq (cT hw90).symm,trivial⟩ (VOk.g (VOk.to (VOk.fieldB rfl Tryz.underlying94 rfl sz3 rfl rfl) rfl)))) ?_
      refine TxtE.consI rfl ⟨.same _,.same _,trivial⟩ rfl rfl (.one rfl) (fun hw90 => (GOk.fr (fr':=[(62,(.bref 0 1))]) ⟨DLe.of_eq (cT hw90).symm,trivial⟩ (VOk.g (VOk.loadB (d:=(.v (.int .i64 t82.2.At_))) rfl Tryz.underlying3 rfl rfl rfl rfl)))) ?_
      refine TxtE.consI rfl ⟨.same _,.same _,trivial⟩ rfl rfl (.one rfl) (fun hw90 => (GOk.fr (fr':=[(63,(.v (.int .i64 t82.2.At_)))]) ⟨DLe.of_eq (cT hw90).symm,trivial⟩ (VOk.g (VOk.arith (op:=.add) (k:=.i64) (a:=t82.2.At_) (b:=1) rfl rfl rfl rfl)))) ?_
      refine TxtE.consI rfl ⟨.same _,.same _,trivial⟩ rfl rfl (.one rfl) (fun hw90 => (VOk.g (VOk.mv (d:=(.bref 0 0)) rfl rfl))) ?_
      refine TxtE.consI rfl ⟨.same _,.same _,trivial⟩ rfl rfl (.one rfl) (fun hw90 => (GOk.fr (fr':=[(65,(.bref 0 0))]) ⟨DLe.of_eq (cT hw90).symm,trivial⟩ (VOk.g (VOk.nilCheckB rfl rfl rfl)))) ?_
      refine TxtE.consI rfl ⟨.same _,.same _,trivial⟩ rfl rfl (.one rfl) (fun hw90 => (GOk.fr (fr':=[(66,(.bref 0 0))]) ⟨DLe.of_eq (cT hw90).symm,trivial⟩ (VOk.g (VOk.to (VOk.fieldB rfl Tryz.underlying94 rfl sz9 rfl rfl) rfl)))) ?_
      refine TxtE.consI rfl ⟨.same _,.same _,trivial⟩ rfl rfl (.one rfl) (fun hw90 => (GOk.fr (fr':=[(67,(.bref 0 0))]) ⟨DLe.of_eq (cT hw90).symm,trivial⟩ (VOk.g (VOk.loadB (d:=(S t82.2.S_)) rfl Tryz.underlying9 rfl rfl rfl rfl)))) ?_
      refine TxtE.consI rfl ⟨.same _,.same _,trivial⟩ rfl rfl (.one rfl) (fun hw90 => (GOk.fr (fr':=[(68,(S t82.2.S_))]) ⟨DLe.of_eq (cT hw90).symm,trivial⟩ (VOk.g (VOk.lenStr (s:=t82.2.S_) rfl Tryz.underlying9 rfl)))) ?_
      refine TxtE.consI rfl ⟨.same _,.same _,.same _,trivial⟩ rfl rfl (.one rfl) (fun hw90 => (GOk.fr (fr':=[(64,(.v (.int .i64 (IntKind.i64.wrap (t82.2.At_ + 1))))),(69,(.v (.int .i64 (t82.2.S_.length:Int))))]) ⟨DLe.of_eq (cT hw90).symm,DLe.of_eq (cT hw90).symm,trivial⟩ (VOk.g (VOk.arith (op:=.eql) (k:=.i64) (a:=(IntKind.i64.wrap (t82.2.At_ + 1))) (b:=(t82.2.S_.length:Int)) rfl rfl rfl rfl)))) ?_
      refine TxtE.cons rfl ⟨.same _,.same _,trivial⟩ rfl (VOk.g (VOk.to (VOk.pickI (b:=t88) (p:=((IntKind.i64.wrap (t82.2.At_ + 1)) == (t82.2.S_.length:Int))) (q:=false) rfl rfl (fun hp91 => (cT (t_beq hp91))) (fun hp91 => rfl)) (pickAnd t88 ((IntKind.i64.wrap (t82.2.At_ + 1)) == (t82.2.S_.length:Int))))) ?_
      refine TxtE.cons rfl ⟨.same _,trivial⟩ rfl (VOk.g (VOk.asg (d:=(.v (.bool (t88 && ((IntKind.i64.wrap (t82.2.At_ + 1)) == (t82.2.S_.length:Int)))))) rfl rfl)) ?_
      exact .done (.rf rfl rfl)
     refine Ok.test (b:=(t88 && ((IntKind.i64.wrap (t82.2.At_ + 1)) == (t82.2.S_.length:Int)))) rfl (fun hb127 => ?_) (fun hb127 => ?_)
     ·replace H:=ifT H hb127
      cases H
     ·replace H:=ifF H hb127
      refine Ok.seq ?_
      obtain⟨t92,h93,H⟩:=bindE H
      refine Ok.region (σ':=⟨[(0,(.bref 0 0)),(2,(.bref 2 0)),(3,(.bref 3 0)),(4,(.v (.int .i64 t82.1))),(72,(.v (.bool t92)))],[(0,(lxB b t82.2)),(2,(.box .ex [(.v (.int .i64 1)),(.v (.int .i64 a0.At_)),(S t80.1),(.sref 1043),S0])),(3,(.box .ex [S0,S0])),(1002,(.rows true 78 5 (t82.2.L_.map e_api_Token))),(1043,(.rows true 132 2 (([]:List T_api_Raw).map e_api_Raw)))]⟩) ?_ ?_
      ·refine .rn 1 ?_
       refine .cg (GOk.callV2 rfl rfl cl48 rfl (lex_lexer_next.ok h93) rfl) rfl rfl ?_
       refine .rn 1 ?_
       exact .dn
      refine Ok.test (b:=t92) rfl (fun hb126 => ?_) (fun hb126 => ?_)
      ·replace H:=ifT H hb126
       cases H
      ·replace H:=ifF H hb126
       refine Ok.seq ?_
       obtain⟨c94,H⟩:=assertE H
       obtain⟨t95,h96,H⟩:=bindE H
       refine Ok.drawE (σ':=⟨[(0,(.bref 0 0)),(2,(.bref 2 0)),(3,(.bref 3 0)),(82,(.v (.bool (t95 && (t82.1 == 0)))))],[(0,(lxB b t82.2)),(2,(.box .ex [(.v (.int .i64 1)),(.v (.int .i64 a0.At_)),(S t80.1),(.sref 1043),S0])),(3,(.box .ex [S0,S0])),(1002,(.rows true 78 5 (t82.2.L_.map e_api_Token))),(1043,(.rows true 132 2 (([]:List T_api_Raw).map e_api_Raw)))]⟩) [⟨true,[(0,(.bref 0 0))],(.bref 0 0)⟩,⟨true,[(83,(.bref 0 0))],(.bref 0 0)⟩,⟨true,[(84,(.bref 0 0))],(.bref 0 0)⟩,⟨true,[(85,(.bref 0 0))],(S t82.2.S_)⟩,⟨true,[(0,(.bref 0 0))],(.bref 0 0)⟩,⟨true,[(87,(.bref 0 0))],(.bref 0 0)⟩,⟨true,[(88,(.bref 0 0))],(.bref 0 1)⟩,⟨true,[(89,(.bref 0 1))],(.v (.int .i64 t82.2.At_))⟩,⟨true,[(86,(S t82.2.S_)),(90,(.v (.int .i64 t82.2.At_)))],(.v (.int .u8 (bt t82.2.S_ t82.2.At_)))⟩,⟨true,[(91,(.v (.int .u8 (bt t82.2.S_ t82.2.At_))))],(.v (.bool t95))⟩,⟨true,[(92,(.v (.bool t95)))],(.v (.bool t95))⟩,It.I (t95 == true) [(4,(.v (.int .i64 t82.1))),(93,(.v (.bool t95)))] (.v (.int .i64 t82.1)),It.I (t95 == true) [(94,(bif (t95 == true) then (.v (.int .i64 t82.1)) else .v undef)),(93,(.v (.bool t95)))] (.v (.bool (t82.1 == 0))),⟨true,[(93,(.v (.bool t95))),(95,(bif (t95 == true) then (.v (.bool (t82.1 == 0))) else .v undef))],(.v (.bool (t95 && (t82.1 == 0))))⟩,⟨true,[(96,(.v (.bool (t95 && (t82.1 == 0)))))],(.v (.bool (t95 && (t82.1 == 0))))⟩] [[],[0],[1],[2],[],[4],[5],[6],[3,7],[8],[9],[10],[10,11],[10,12],[13]] mixed (by kernel_rfl) ?_ ?_
       ·refine TxtE.cons rfl ⟨.same _,trivial⟩ rfl (VOk.g (VOk.mv (d:=(.bref 0 0)) rfl rfl)) ?_
        refine TxtE.cons rfl ⟨.same _,trivial⟩ rfl (VOk.g (VOk.nilCheckB rfl rfl rfl)) ?_
        refine TxtE.cons rfl ⟨.same _,trivial⟩ rfl (VOk.g (VOk.to (VOk.fieldB rfl Tryz.underlying94 rfl sz9 rfl rfl) rfl)) ?_
        refine TxtE.cons rfl ⟨.same _,trivial⟩ rfl (VOk.g (VOk.loadB (d:=(S t82.2.S_)) rfl Tryz.underlying9 rfl rfl rfl rfl)) ?_
        refine TxtE.cons rfl ⟨.same _,trivial⟩ rfl (VOk.g (VOk.mv (d:=(.bref 0 0)) rfl rfl)) ?_
        refine TxtE.cons rfl ⟨.same _,trivial⟩ rfl (VOk.g (VOk.nilCheckB rfl rfl rfl)) ?_
        refine TxtE.cons rfl ⟨.same _,trivial⟩ rfl (VOk.g (VOk.to (VOk.fieldB rfl Tryz.underlying94 rfl sz3 rfl rfl) rfl)) ?_
        refine TxtE.cons rfl ⟨.same _,trivial⟩ rfl (VOk.g (VOk.loadB (d:=(.v (.int .i64 t82.2.At_))) rfl Tryz.underlying3 rfl rfl rfl rfl)) ?_
        refine TxtE.cons rfl ⟨.same _,.same _,trivial⟩ rfl (VOk.g (VOk.indexStr (s:=t82.2.S_) (i:=t82.2.At_) rfl Tryz.underlying9 rfl rfl c94)) ?_
        refine TxtE.cons rfl ⟨.same _,trivial⟩ rfl (GOk.call rfl rfl cl89 rfl (lex_part.ok h96) rfl) ?_
        refine TxtE.cons rfl ⟨.same _,trivial⟩ rfl (VOk.g (VOk.mv (d:=(.v (.bool t95))) rfl rfl)) ?_
        refine TxtE.consI rfl ⟨.same _,.same _,trivial⟩ rfl rfl (.one rfl) (fun hw97 => (VOk.g (VOk.mv (d:=(.v (.int .i64 t82.1))) rfl rfl))) ?_
        refine TxtE.consI rfl ⟨.same _,.same _,trivial⟩ rfl rfl (.one rfl) (fun hw97 => (GOk.fr (fr':=[(94,(.v (.int .i64 t82.1)))]) ⟨DLe.of_eq (cT hw97).symm,trivial⟩ (VOk.g (VOk.arith (op:=.eql) (k:=.i64) (a:=t82.1) (b:=0) rfl rfl rfl rfl)))) ?_
        refine TxtE.cons rfl ⟨.same _,.same _,trivial⟩ rfl (VOk.g (VOk.to (VOk.pickI (b:=t95) (p:=(t82.1 == 0)) (q:=false) rfl rfl (fun hp98 => (cT (t_beq hp98))) (fun hp98 => rfl)) (pickAnd t95 (t82.1 == 0)))) ?_
        refine TxtE.cons rfl ⟨.same _,trivial⟩ rfl (VOk.g (VOk.asg (d:=(.v (.bool (t95 && (t82.1 == 0))))) rfl rfl)) ?_
        exact .done (.rf rfl rfl)
       refine Ok.test (b:=(t95 && (t82.1 == 0))) rfl (fun hb125 => ?_) (fun hb125 => ?_)
       ·replace H:=ifT H hb125
        cases H
       ·replace H:=ifF H hb125
        refine Ok.seq ?_
        obtain⟨c99,H⟩:=assertE H
        obtain⟨t100,h101,H⟩:=bindE H
        refine .dA [(0,(.bref 0 0)),(2,(.bref 2 0)),(3,(.bref 3 0)),(97,(.v (.bool (!t100))))] [(0,(lxB b t82.2)),(2,(.box .ex [(.v (.int .i64 1)),(.v (.int .i64 a0.At_)),(S t80.1),(.sref 1043),S0])),(3,(.box .ex [S0,S0])),(1002,(.rows true 78 5 (t82.2.L_.map e_api_Token))),(1043,(.rows true 132 2 (([]:List T_api_Raw).map e_api_Raw)))] [[],[0],[1],[2],[],[4],[5],[6],[3,7],[8],[9],[10]] mixed ?_ ?_
        ·refine .tn 8 ?_
         refine .tc (VOk.g (VOk.indexStr (s:=t82.2.S_) (i:=t82.2.At_) rfl Tryz.underlying9 rfl rfl c99)) ?_
         refine .tc (GOk.call rfl rfl cl89 rfl (lex_part.ok h101) rfl) ?_
         refine .tn 2 ?_
         exact .dn
        refine Ok.test (b:=(!t100)) rfl (fun hb124 => ?_) (fun hb124 => ?_)
        ·replace H:=ifT H hb124
         cases H
        ·replace H:=ifF H hb124
         refine Ok.seq ?_
         refine Ok.region (σ':=⟨[(0,(.bref 0 0)),(2,(.bref 2 0)),(3,(.bref 3 0)),(109,(.v (.bool ((([]:List T_api_Raw).length:Int) == 65))))],[(0,(lxB b t82.2)),(2,(.box .ex [(.v (.int .i64 1)),(.v (.int .i64 a0.At_)),(S t80.1),(.sref 1043),S0])),(3,(.box .ex [S0,S0])),(1002,(.rows true 78 5 (t82.2.L_.map e_api_Token))),(1043,(.rows true 132 2 (([]:List T_api_Raw).map e_api_Raw)))]⟩) ?_ ?_
         ·refine .rn 2 ?_
          refine .cv (VOk.lenTL (e:=e_api_Raw) (xs:=([]:List T_api_Raw)) rfl Tryz.underlying76 rfl rfl) rfl rfl ?_
          refine .rn 2 ?_
          exact .dn
         refine Ok.test (b:=((([]:List T_api_Raw).length:Int) == 65)) rfl (fun hb123 => ?_) (fun hb123 => ?_)
         ·replace H:=ifT H hb123
          cases H
         ·replace H:=ifF H hb123
          refine Ok.skip ?_
          refine Ok.seq ?_
          obtain⟨t102,h103,H⟩:=bindE H
          refine Ok.region (σ':=⟨[(0,(.bref 0 0)),(2,(.bref 2 0)),(3,(.bref 3 0))],[(0,(lxB b t102.2)),(2,(.box .ex [(.v (.int .i64 1)),(.v (.int .i64 a0.At_)),(S t80.1),(.sref 1043),S0])),(3,(.box .ex [(S t102.1),S0])),(1002,(.rows true 78 5 (t102.2.L_.map e_api_Token))),(1043,(.rows true 132 2 (([]:List T_api_Raw).map e_api_Raw)))]⟩) ?_ ?_
          ·refine .rn 3 ?_
           refine OpsOk.cons rfl (OpOk.callT (e:=(.at b)) 0 1002 1023 rfl rfl cl88 (fun b => ((lex_lexer_word.ok h103) b)) rfl rfl rfl rfl rfl rfl rfl rfl) ?_
           refine .rn 2 ?_
           exact .dn
          refine Ok.seq ?_
          obtain⟨t104,h105,H⟩:=bindE H
          refine Ok.region (σ':=⟨[(0,(.bref 0 0)),(2,(.bref 2 0)),(3,(.bref 3 0))],[(0,(lxB b t104.2)),(2,(.box .ex [(.v (.int .i64 1)),(.v (.int .i64 a0.At_)),(S t80.1),(.sref 1043),S0])),(3,(.box .ex [(S t102.1),S0])),(1002,(.rows true 78 5 (t104.2.L_.map e_api_Token))),(1043,(.rows true 132 2 (([]:List T_api_Raw).map e_api_Raw)))]⟩) ?_ ?_
          ·refine .rn 1 ?_
           refine OpsOk.cons rfl (OpOk.callT (e:=(.at b)) 0 1002 1026 rfl rfl cl62 (fun b => ((lex_lexer_blanks.ok h105) b)) rfl rfl rfl rfl rfl rfl rfl rfl) ?_
           exact .dn
          refine Ok.seq ?_
          refine Ok.seq ?_
          refine .dA [(0,(.bref 0 0)),(2,(.bref 2 0)),(3,(.bref 3 0)),(136,(.v (.bool (t104.2.At_ == (t104.2.S_.length:Int)))))] [(0,(lxB b t104.2)),(2,(.box .ex [(.v (.int .i64 1)),(.v (.int .i64 a0.At_)),(S t80.1),(.sref 1043),S0])),(3,(.box .ex [(S t102.1),S0])),(1002,(.rows true 78 5 (t104.2.L_.map e_api_Token))),(1043,(.rows true 132 2 (([]:List T_api_Raw).map e_api_Raw)))] [[],[0],[1],[2],[],[4],[5],[6],[7],[3,8]] mixed ?_ ?_
          ·refine .tn 8 ?_
           refine .tc (VOk.g (VOk.lenStr (s:=t104.2.S_) rfl Tryz.underlying9 rfl)) ?_
           refine .tn 1 ?_
           exact .dn
          refine Ok.test (b:=(t104.2.At_ == (t104.2.S_.length:Int))) rfl (fun hb122 => ?_) (fun hb122 => ?_)
          ·replace H:=ifT H hb122
           cases H
          ·replace H:=ifF H hb122
           refine Ok.skip ?_
           refine Ok.seq ?_
           refine Ok.seq ?_
           obtain⟨t106,h107,H⟩:=bindE H
           refine Ok.region (σ':=⟨[(0,(.bref 0 0)),(2,(.bref 2 0)),(3,(.bref 3 0)),(139,(.v (.bool (!t106))))],[(0,(lxB b t104.2)),(2,(.box .ex [(.v (.int .i64 1)),(.v (.int .i64 a0.At_)),(S t80.1),(.sref 1043),S0])),(3,(.box .ex [(S t102.1),S0])),(1002,(.rows true 78 5 (t104.2.L_.map e_api_Token))),(1043,(.rows true 132 2 (([]:List T_api_Raw).map e_api_Raw)))]⟩) ?_ ?_
           ·refine .rn 1 ?_
            refine .cg (GOk.callV2 rfl rfl cl48 rfl (lex_lexer_next.ok h107) rfl) rfl rfl ?_
            refine .rn 1 ?_
            exact .dn
           refine Ok.test (b:=(!t106)) rfl (fun hb121 => ?_) (fun hb121 => ?_)
           ·replace H:=ifT H hb121
            cases H
           ·replace H:=ifF H hb121
            refine Ok.skip ?_
            refine Ok.seq ?_
            refine .rg [(0,(.bref 0 0)),(2,(.bref 2 0)),(3,(.bref 3 0))] [(0,(.box (.at b) [(S t104.2.S_),(.v (.int .i64 (IntKind.i64.wrap (t104.2.At_ + 1)))),(.sref 1002)])),(2,(.box .ex [(.v (.int .i64 1)),(.v (.int .i64 a0.At_)),(S t80.1),(.sref 1043),S0])),(3,(.box .ex [(S t102.1),S0])),(1002,(.rows true 78 5 (t104.2.L_.map e_api_Token))),(1043,(.rows true 132 2 (([]:List T_api_Raw).map e_api_Raw)))] ?_
            refine Ok.seq ?_
            obtain⟨t108,h109,H⟩:=bindE H
            refine Ok.region (σ':=⟨[(0,(.bref 0 0)),(2,(.bref 2 0)),(3,(.bref 3 0))],[(0,(lxB b t108.2)),(2,(.box .ex [(.v (.int .i64 1)),(.v (.int .i64 a0.At_)),(S t80.1),(.sref 1043),S0])),(3,(.box .ex [(S t102.1),S0])),(1002,(.rows true 78 5 (t108.2.L_.map e_api_Token))),(1043,(.rows true 132 2 (([]:List T_api_Raw).map e_api_Raw)))]⟩) ?_ ?_
            ·refine .rn 1 ?_
             refine OpsOk.cons rfl (OpOk.callT (e:=(.at b)) 0 1002 1048 rfl rfl cl62 (fun b => ((lex_lexer_blanks.ok h109) b)) rfl rfl rfl rfl rfl rfl rfl rfl) ?_
             exact .dn
            refine Ok.seq ?_
            refine Ok.seq ?_
            refine .dA [(0,(.bref 0 0)),(2,(.bref 2 0)),(3,(.bref 3 0)),(158,(.v (.bool (t108.2.At_ == (t108.2.S_.length:Int)))))] [(0,(lxB b t108.2)),(2,(.box .ex [(.v (.int .i64 1)),(.v (.int .i64 a0.At_)),(S t80.1),(.sref 1043),S0])),(3,(.box .ex [(S t102.1),S0])),(1002,(.rows true 78 5 (t108.2.L_.map e_api_Token))),(1043,(.rows true 132 2 (([]:List T_api_Raw).map e_api_Raw)))] [[],[0],[1],[2],[],[4],[5],[6],[7],[3,8]] mixed ?_ ?_
            ·refine .tn 8 ?_
             refine .tc (VOk.g (VOk.lenStr (s:=t108.2.S_) rfl Tryz.underlying9 rfl)) ?_
             refine .tn 1 ?_
             exact .dn
            refine Ok.test (b:=(t108.2.At_ == (t108.2.S_.length:Int))) rfl (fun hb120 => ?_) (fun hb120 => ?_)
            ·replace H:=ifT H hb120
             cases H
            ·replace H:=ifF H hb120
             refine Ok.skip ?_
             refine Ok.seq ?_
             refine Ok.seq ?_
             obtain⟨t110,h111,H⟩:=bindE H
             obtain⟨t113,h114,H⟩:=bindE H
             refine Ok.region (σ':=⟨[(0,(.bref 0 0)),(2,(.bref 2 0)),(3,(.bref 3 0)),(166,(.v (.bool ((!t110) && (!t113)))))],[(0,(lxB b t108.2)),(2,(.box .ex [(.v (.int .i64 1)),(.v (.int .i64 a0.At_)),(S t80.1),(.sref 1043),S0])),(3,(.box .ex [(S t102.1),S0])),(1002,(.rows true 78 5 (t108.2.L_.map e_api_Token))),(1043,(.rows true 132 2 (([]:List T_api_Raw).map e_api_Raw)))]⟩) ?_ ?_
             ·refine .rn 1 ?_
              refine .cg (GOk.callV2 rfl rfl cl48 rfl (lex_lexer_next.ok h111) rfl) rfl rfl ?_
              refine .rn 2 ?_
              refine OpsOk.consI rfl rfl rfl (.one rfl) rfl (fun hw112 => (VOk.g (VOk.mv (d:=(.bref 0 0)) rfl rfl))) ?_
              refine OpsOk.consI rfl rfl rfl (.one rfl) rfl (fun hw112 => (GOk.fr (fr':=[(163,(.bref 0 0))]) ⟨DLe.of_eq (cT hw112).symm,trivial⟩ (GOk.callV2 rfl rfl cl48 rfl (lex_lexer_next.ok (ifT h114 hw112)) rfl))) ?_
              refine OpsOk.consI rfl rfl rfl (.one rfl) rfl (fun hw112 => (GOk.fr (fr':=[(164,(.v (.bool t113)))]) ⟨DLe.of_eq (cT hw112).symm,trivial⟩ (VOk.g (VOk.not (b:=t113) rfl rfl)))) ?_
              refine .cv (VOk.to (VOk.pickI (b:=(!t110)) (p:=(!t113)) (q:=false) rfl rfl (fun hp115 => (cT (t_beq hp115))) (fun hp115 => rfl)) (pickAnd (!t110) (!t113))) rfl rfl ?_
              exact .dn
             refine Ok.test (b:=((!t110) && (!t113))) rfl (fun hb119 => ?_) (fun hb119 => ?_)
             ·replace H:=ifT H hb119
              cases H
             ·replace H:=ifF H hb119
              refine Ok.skip ?_
              refine Ok.seq ?_
              obtain⟨t116,h117,H⟩:=bindE H
              refine Ok.region (σ':=⟨[(0,(.bref 0 0)),(2,(.bref 2 0)),(3,(.bref 3 0))],[(0,(lxB b t116.2)),(2,(.box .ex [(.v (.int .i64 1)),(.v (.int .i64 a0.At_)),(S t80.1),(.sref 1043),S0])),(3,(.box .ex [(S t102.1),(S t116.1)])),(1002,(.rows true 78 5 (t116.2.L_.map e_api_Token))),(1043,(.rows true 132 2 (([]:List T_api_Raw).map e_api_Raw)))]⟩) ?_ ?_
              ·refine .rn 3 ?_
               refine OpsOk.cons rfl (OpOk.callT (e:=(.at b)) 0 1002 1070 rfl rfl cl90 (fun b => ((lex_lexer_value.ok h117) b)) rfl rfl rfl rfl rfl rfl rfl rfl) ?_
               refine .rn 2 ?_
               exact .dn
              refine Ok.seq ?_
              obtain⟨c118,H⟩:=assertE H
              refine Ok.region (σ':=⟨[(0,(.bref 0 0)),(2,(.bref 2 0)),(3,(.bref 3 0))],[(0,(lxB b t116.2)),(2,(.box .ex [(.v (.int .i64 1)),(.v (.int .i64 a0.At_)),(S t80.1),(.sref 1043),S0])),(3,(.box .ex [(S t102.1),(S t116.1)])),(1002,(.rows true 78 5 (t116.2.L_.map e_api_Token))),(1043,(.rows true 132 2 ((([]:List T_api_Raw) ++ ([(T_api_Raw.mk t102.1 t116.1)]:List T_api_Raw)).map e_api_Raw)))]⟩) ?_ ?_
              ·refine .rn 3 ?_
               refine .cg (GOk.to (d':=(L 2 e_api_Raw ([(T_api_Raw.mk t102.1 t116.1)]:List T_api_Raw))) (GOk.lit rfl Tryz.underlying76 sz132 zs132 rfl rfl rfl rfl) rfl) rfl rfl ?_
               refine OpsOk.cons rfl (OpOk.appendL (e:=e_api_Raw) (xs:=([]:List T_api_Raw)) (ys:=([(T_api_Raw.mk t102.1 t116.1)]:List T_api_Raw)) rfl Tryz.underlying76 elt132 rfl rfl rfl c118 rfl) ?_
               refine .rn 2 ?_
               exact .dn
              refine Ok.seq ?_
              refine Ok.goto ?_
              exact⟨k + 1,by omega,.inl ⟨rfl,k,rfl,t116.2.S_,t116.2.At_,1,a0.At_,t80.1,([]:Str),t102.1,t116.1,t116.2.L_,(([]:List T_api_Raw) ++ ([(T_api_Raw.mk t102.1 t116.1)]:List T_api_Raw)),rfl,H⟩⟩
 ·rintro l m σ (⟨rfl,m30,rfl,y0_0_1,y0_1_2,y2_0_3,y2_1_4,y2_2_5,y2_4_6,y3_0_7,y3_1_8,y1002_9,y1043_10,rfl,H⟩ |⟨rfl,rfl,y0_0_21,y0_1_22,y2_0_23,y2_1_24,y2_2_25,y2_4_26,y1002_27,y1043_28,rfl,H⟩)
  ·cases m30 with
   | zero => exact absurd H (by simp [lex_lexer_tag.g1])
   | succ m30 =>
    unfold lex_lexer_tag.g1 at H
    refine⟨_,rfl,?_⟩
    refine Ok.seq ?_
    refine Ok.skip ?_
    refine Ok.seq ?_
    obtain⟨t31,h32,H⟩:=bindE H
    refine Ok.region (σ':=⟨[(0,(.bref 0 0)),(2,(.bref 2 0)),(3,(.bref 3 0)),(4,(.v (.int .i64 t31.1)))],[(0,(lxB b t31.2)),(2,(.box .ex [(.v (.int .i64 y2_0_3)),(.v (.int .i64 y2_1_4)),(S y2_2_5),(.sref 1043),(S y2_4_6)])),(3,(.box .ex [(S y3_0_7),(S y3_1_8)])),(1002,(.rows true 78 5 (t31.2.L_.map e_api_Token))),(1043,(.rows true 132 2 (y1043_10.map e_api_Raw)))]⟩) ?_ ?_
    ·refine .rn 1 ?_
     refine OpsOk.cons rfl (OpOk.callT (e:=(.at b)) 0 1002 923 rfl rfl cl62 (fun b => ((lex_lexer_blanks.ok h32) b)) rfl rfl rfl rfl rfl rfl rfl rfl) ?_
     refine .rn 1 ?_
     exact .dn
    refine Ok.seq ?_
    refine Ok.block ?_
    refine Ok.seq ?_
    refine .dA [(0,(.bref 0 0)),(2,(.bref 2 0)),(3,(.bref 3 0)),(4,(.v (.int .i64 t31.1))),(24,(.v (.bool (t31.2.At_ == (t31.2.S_.length:Int)))))] [(0,(lxB b t31.2)),(2,(.box .ex [(.v (.int .i64 y2_0_3)),(.v (.int .i64 y2_1_4)),(S y2_2_5),(.sref 1043),(S y2_4_6)])),(3,(.box .ex [(S y3_0_7),(S y3_1_8)])),(1002,(.rows true 78 5 (t31.2.L_.map e_api_Token))),(1043,(.rows true 132 2 (y1043_10.map e_api_Raw)))] [[],[0],[1],[2],[],[4],[5],[6],[7],[3,8],[9]] mixed ?_ ?_
    ·refine .tn 8 ?_
     refine .tc (VOk.g (VOk.lenStr (s:=t31.2.S_) rfl Tryz.underlying9 rfl)) ?_
     refine .tn 2 ?_
     exact .dn
    refine Ok.test (b:=(t31.2.At_ == (t31.2.S_.length:Int))) rfl (fun hb79 => ?_) (fun hb79 => ?_)
    ·replace H:=ifT H hb79
     cases H
    ·replace H:=ifF H hb79
     refine Ok.seq ?_
     obtain⟨t33,h34,H⟩:=bindE H
     refine Ok.region (σ':=⟨[(0,(.bref 0 0)),(2,(.bref 2 0)),(3,(.bref 3 0)),(4,(.v (.int .i64 t31.1))),(35,(.v (.bool t33)))],[(0,(lxB b t31.2)),(2,(.box .ex [(.v (.int .i64 y2_0_3)),(.v (.int .i64 y2_1_4)),(S y2_2_5),(.sref 1043),(S y2_4_6)])),(3,(.box .ex [(S y3_0_7),(S y3_1_8)])),(1002,(.rows true 78 5 (t31.2.L_.map e_api_Token))),(1043,(.rows true 132 2 (y1043_10.map e_api_Raw)))]⟩) ?_ ?_
     ·refine .rn 1 ?_
      refine .cg (GOk.callV2 rfl rfl cl48 rfl (lex_lexer_next.ok h34) rfl) rfl rfl ?_
      refine .rn 1 ?_
      exact .dn
     refine Ok.test (b:=t33) rfl (fun hb78 => ?_) (fun hb78 => ?_)
     ·replace H:=ifT H hb78
      refine Ok.seq ?_
      refine .rg [(0,(.bref 0 0)),(2,(.bref 2 0))] [(0,(.box (.at b) [(S t31.2.S_),(.v (.int .i64 (IntKind.i64.wrap (t31.2.At_ + 1)))),(.sref 1002)])),(2,(.box .ex [(.v (.int .i64 y2_0_3)),(.v (.int .i64 y2_1_4)),(S y2_2_5),(.sref 1043),(S y2_4_6)])),(1002,(.rows true 78 5 (t31.2.L_.map e_api_Token))),(1043,(.rows true 132 2 (y1043_10.map e_api_Raw)))] ?_
      refine Ok.goto ?_
      exact⟨0,by omega,(.inr ⟨rfl,rfl,t31.2.S_,(IntKind.i64.wrap (t31.2.At_ + 1)),y2_0_3,y2_1_4,y2_2_5,y2_4_6,t31.2.L_,y1043_10,rfl,H⟩)⟩
     ·replace H:=ifF H hb78
      refine Ok.seq ?_
      obtain⟨t35,h36,H⟩:=bindE H
      refine Ok.region (σ':=⟨[(0,(.bref 0 0)),(2,(.bref 2 0)),(3,(.bref 3 0)),(4,(.v (.int .i64 t31.1))),(45,(.v (.bool t35)))],[(0,(lxB b t31.2)),(2,(.box .ex [(.v (.int .i64 y2_0_3)),(.v (.int .i64 y2_1_4)),(S y2_2_5),(.sref 1043),(S y2_4_6)])),(3,(.box .ex [(S y3_0_7),(S y3_1_8)])),(1002,(.rows true 78 5 (t31.2.L_.map e_api_Token))),(1043,(.rows true 132 2 (y1043_10.map e_api_Raw)))]⟩) ?_ ?_
      ·refine .rn 1 ?_
       refine .cg (GOk.callV2 rfl rfl cl48 rfl (lex_lexer_next.ok h36) rfl) rfl rfl ?_
       refine .rn 1 ?_
       exact .dn
      refine Ok.test (b:=t35) rfl (fun hb77 => ?_) (fun hb77 => ?_)
      ·replace H:=ifT H hb77
       refine Ok.seq ?_
       refine .rg [(0,(.bref 0 0)),(2,(.bref 2 0))] [(0,(.box (.at b) [(S t31.2.S_),(.v (.int .i64 (IntKind.i64.wrap (t31.2.At_ + 2)))),(.sref 1002)])),(2,(.box .ex [(.v (.int .i64 y2_0_3)),(.v (.int .i64 y2_1_4)),(S y2_2_5),(.sref 1043),(S y2_4_6)])),(1002,(.rows true 78 5 (t31.2.L_.map e_api_Token))),(1043,(.rows true 132 2 (y1043_10.map e_api_Raw)))] ?_
       refine Ok.seq ?_
       refine .rg [(0,(.bref 0 0)),(2,(.bref 2 0))] [(0,(.box (.at b) [(S t31.2.S_),(.v (.int .i64 (IntKind.i64.wrap (t31.2.At_ + 2)))),(.sref 1002)])),(2,(.box .ex [(.v (.int .i64 3)),(.v (.int .i64 y2_1_4)),(S y2_2_5),(.sref 1043),(S y2_4_6)])),(1002,(.rows true 78 5 (t31.2.L_.map e_api_Token))),(1043,(.rows true 132 2 (y1043_10.map e_api_Raw)))] ?_
       refine Ok.goto ?_
       exact⟨0,by omega,(.inr ⟨rfl,rfl,t31.2.S_,(IntKind.i64.wrap (t31.2.At_ + 2)),3,y2_1_4,y2_2_5,y2_4_6,t31.2.L_,y1043_10,rfl,H⟩)⟩
      ·replace H:=ifF H hb77
       refine Ok.seq ?_
       obtain⟨t37,h38,H⟩:=bindE H
       refine Ok.drawE (σ':=⟨[(0,(.bref 0 0)),(2,(.bref 2 0)),(3,(.bref 3 0)),(4,(.v (.int .i64 t31.1))),(56,(.v (.bool (t37 && ((IntKind.i64.wrap (t31.2.At_ + 1)) == (t31.2.S_.length:Int))))))],[(0,(lxB b t31.2)),(2,(.box .ex [(.v (.int .i64 y2_0_3)),(.v (.int .i64 y2_1_4)),(S y2_2_5),(.sref 1043),(S y2_4_6)])),(3,(.box .ex [(S y3_0_7),(S y3_1_8)])),(1002,(.rows true 78 5 (t31.2.L_.map e_api_Token))),(1043,(.rows true 132 2 (y1043_10.map e_api_Raw)))]⟩) [⟨true,[(0,(.bref 0 0))],(.bref 0 0)⟩,⟨true,[(57,(.bref 0 0))],(.v (.bool t37))⟩,⟨true,[(58,(.v (.bool t37)))],(.v (.bool t37))⟩,It.I (t37 == true) [(0,(.bref 0 0)),(59,(.v (.bool t37)))] (.bref 0 0),It.I (t37 == true) [(60,(bif (t37 == true) then (.bref 0 0) else .v undef)),(59,(.v (.bool t37)))] (.bref 0 0),It.I (t37 == true) [(61,(bif (t37 == true) then (.bref 0 0) else .v undef)),(59,(.v (.bool t37)))] (.bref 0 1),It.I (t37 == true) [(62,(bif (t37 == true) then (.bref 0 1) else .v undef)),(59,(.v (.bool t37)))] (.v (.int .i64 t31.2.At_)),It.I (t37 == true) [(63,(bif (t37 == true) then (.v (.int .i64 t31.2.At_)) else .v undef)),(59,(.v (.bool t37)))] (.v (.int .i64 (IntKind.i64.wrap (t31.2.At_ + 1)))),It.I (t37 == true) [(0,(.bref 0 0)),(59,(.v (.bool t37)))] (.bref 0 0),It.I (t37 == true) [(65,(bif (t37 == true) then (.bref 0 0) else .v undef)),(59,(.v (.bool t37)))] (.bref 0 0),It.I (t37 == true) [(66,(bif (t37 == true) then (.bref 0 0) else .v undef)),(59,(.v (.bool t37)))] (.bref 0 0),It.I (t37 == true) [(67,(bif (t37 == true) then (.bref 0 0) else .v undef)),(59,(.v (.bool t37)))] (S t31.2.S_),It.I (t37 == true) [(68,(bif (t37 == true) then (S t31.2.S_) else .v undef)),(59,(.v (.bool t37)))] (.v (.int .i64 (t31.2.S_.length:Int))),It.I (t37 == true) [(64,(bif (t37 == true) then (.v (.int .i64 (IntKind.i64.wrap (t31.2.At_ + 1)))) else .v undef)),(69,(bif (t37 == true) then (.v (.int .i64 (t31.2.S_.length:Int))) else .v undef)),(59,(.v (.bool t37)))] (.v (.bool ((IntKind.i64.wrap (t31.2.At_ + 1)) == (t31.2.S_.length:Int)))),⟨true,[(59,(.v (.bool t37))),(70,(bif (t37 == true) then (.v (.bool ((IntKind.i64.wrap (t31.2.At_ + 1)) == (t31.2.S_.length:Int)))) else .v undef))],(.v (.bool (t37 && ((IntKind.i64.wrap (t31.2.At_ + 1)) == (t31.2.S_.length:Int)))))⟩,⟨true,[(71,(.v (.bool (t37 && ((IntKind.i64.wrap (t31.2.At_ + 1)) == (t31.2.S_.length:Int))))))],(.v (.bool (t37 && ((IntKind.i64.wrap (t31.2.At_ + 1)) == (t31.2.S_.length:Int)))))⟩] [[],[0],[1],[2],[2,3],[2,4],[2,5],[2,6],[2],[2,8],[2,9],[2,10],[2,11],[2,7,12],[2,13],[14]] mixed (by kernel_rfl) ?_ ?_
       ·refine TxtE.cons rfl ⟨.same _,trivial⟩ rfl (VOk.g (VOk.mv (d:=(.bref 0 0)) rfl rfl)) ?_
        refine TxtE.cons rfl ⟨.same _,trivial⟩ rfl (GOk.callV2 rfl rfl cl48 rfl (lex_lexer_next.ok h38) rfl) ?_
        refine TxtE.cons rfl ⟨.same _,trivial⟩ rfl (VOk.g (VOk.mv (d:=(.v (.bool t37))) rfl rfl)) ?_
        refine TxtE.consI rfl ⟨.same _,.same _,trivial⟩ rfl rfl (.one rfl) (fun hw39 => (VOk.g (VOk.mv (d:=(.bref 0 0)) rfl rfl))) ?_
        refine TxtE.consI rfl ⟨.same _,.same _,trivial⟩ rfl rfl (.one rfl) (fun hw39 => (GOk.fr (fr':=[(60,(.bref 0 0))]) ⟨DLe.of_eq (cT hw39).symm,trivial⟩ (VOk.g (VOk.nilCheckB rfl rfl rfl)))) ?_
        refine TxtE.consI rfl ⟨.same _,.same _,trivial⟩ rfl rfl (.one rfl) (fun hw39 => (GOk.fr (fr':=[(61,(.bref 0 0))]) ⟨DLe.of_eq (cT hw39).symm,trivial⟩ (VOk.g (VOk.to (VOk.fieldB rfl Tryz.underlying94 rfl sz3 rfl rfl) rfl)))) ?_
        refine TxtE.consI rfl ⟨.same _,.same _,trivial⟩ rfl rfl (.one rfl) (fun hw39 => (GOk.fr (fr':=[(62,(.bref 0 1))]) ⟨DLe.of_eq (cT hw39).symm,trivial⟩ (VOk.g (VOk.loadB (d:=(.v (.int .i64 t31.2.At_))) rfl Tryz.underlying3 rfl rfl rfl rfl)))) ?_
        refine TxtE.consI rfl ⟨.same _,.same _,trivial⟩ rfl rfl (.one rfl) (fun hw39 => (GOk.fr (fr':=[(63,(.v (.int .i64 t31.2.At_)))]) ⟨DLe.of_eq (cT hw39).symm,trivial⟩ (VOk.g (VOk.arith (op:=.add) (k:=.i64) (a:=t31.2.At_) (b:=1) rfl rfl rfl rfl)))) ?_
        refine TxtE.consI rfl ⟨.same _,.same _,trivial⟩ rfl rfl (.one rfl) (fun hw39 => (VOk.g (VOk.mv (d:=(.bref 0 0)) rfl rfl))) ?_
        refine TxtE.consI rfl ⟨.same _,.same _,trivial⟩ rfl rfl (.one rfl) (fun hw39 => (GOk.fr (fr':=[(65,(.bref 0 0))]) ⟨DLe.of_eq (cT hw39).symm,trivial⟩ (VOk.g (VOk.nilCheckB rfl rfl rfl)))) ?_
        refine TxtE.consI rfl ⟨.same _,.same _,trivial⟩ rfl rfl (.one rfl) (fun hw39 => (GOk.fr (fr':=[(66,(.bref 0 0))]) ⟨DLe.of_eq (cT hw39).symm,trivial⟩ (VOk.g (VOk.to (VOk.fieldB rfl Tryz.underlying94 rfl sz9 rfl rfl) rfl)))) ?_
        refine TxtE.consI rfl ⟨.same _,.same _,trivial⟩ rfl rfl (.one rfl) (fun hw39 => (GOk.fr (fr':=[(67,(.bref 0 0))]) ⟨DLe.of_eq (cT hw39).symm,trivial⟩ (VOk.g (VOk.loadB (d:=(S t31.2.S_)) rfl Tryz.underlying9 rfl rfl rfl rfl)))) ?_
        refine TxtE.consI rfl ⟨.same _,.same _,trivial⟩ rfl rfl (.one rfl) (fun hw39 => (GOk.fr (fr':=[(68,(S t31.2.S_))]) ⟨DLe.of_eq (cT hw39).symm,trivial⟩ (VOk.g (VOk.lenStr (s:=t31.2.S_) rfl Tryz.underlying9 rfl)))) ?_
        refine TxtE.consI rfl ⟨.same _,.same _,.same _,trivial⟩ rfl rfl (.one rfl) (fun hw39 => (GOk.fr (fr':=[(64,(.v (.int .i64 (IntKind.i64.wrap (t31.2.At_ + 1))))),(69,(.v (.int .i64 (t31.2.S_.length:Int))))]) ⟨DLe.of_eq (cT hw39).symm,DLe.of_eq (cT hw39).symm,trivial⟩ (VOk.g (VOk.arith (op:=.eql) (k:=.i64) (a:=(IntKind.i64.wrap (t31.2.At_ + 1))) (b:=(t31.2.S_.length:Int)) rfl rfl rfl rfl)))) ?_
        refine TxtE.cons rfl ⟨.same _,.same _,trivial⟩ rfl (VOk.g (VOk.to (VOk.pickI (b:=t37) (p:=((IntKind.i64.wrap (t31.2.At_ + 1)) == (t31.2.S_.length:Int))) (q:=false) rfl rfl (fun hp40 => (cT (t_beq hp40))) (fun hp40 => rfl)) (pickAnd t37 ((IntKind.i64.wrap (t31.2.At_ + 1)) == (t31.2.S_.length:Int))))) ?_
        refine TxtE.cons rfl ⟨.same _,trivial⟩ rfl (VOk.g (VOk.asg (d:=(.v (.bool (t37 && ((IntKind.i64.wrap (t31.2.At_ + 1)) == (t31.2.S_.length:Int)))))) rfl rfl)) ?_
        exact .done (.rf rfl rfl)
       refine Ok.test (b:=(t37 && ((IntKind.i64.wrap (t31.2.At_ + 1)) == (t31.2.S_.length:Int)))) rfl (fun hb76 => ?_) (fun hb76 => ?_)
       ·replace H:=ifT H hb76
        cases H
       ·replace H:=ifF H hb76
        refine Ok.seq ?_
        obtain⟨t41,h42,H⟩:=bindE H
        refine Ok.region (σ':=⟨[(0,(.bref 0 0)),(2,(.bref 2 0)),(3,(.bref 3 0)),(4,(.v (.int .i64 t31.1))),(72,(.v (.bool t41)))],[(0,(lxB b t31.2)),(2,(.box .ex [(.v (.int .i64 y2_0_3)),(.v (.int .i64 y2_1_4)),(S y2_2_5),(.sref 1043),(S y2_4_6)])),(3,(.box .ex [(S y3_0_7),(S y3_1_8)])),(1002,(.rows true 78 5 (t31.2.L_.map e_api_Token))),(1043,(.rows true 132 2 (y1043_10.map e_api_Raw)))]⟩) ?_ ?_
        ·refine .rn 1 ?_
         refine .cg (GOk.callV2 rfl rfl cl48 rfl (lex_lexer_next.ok h42) rfl) rfl rfl ?_
         refine .rn 1 ?_
         exact .dn
        refine Ok.test (b:=t41) rfl (fun hb75 => ?_) (fun hb75 => ?_)
        ·replace H:=ifT H hb75
         cases H
        ·replace H:=ifF H hb75
         refine Ok.seq ?_
         obtain⟨c43,H⟩:=assertE H
         obtain⟨t44,h45,H⟩:=bindE H
         refine Ok.drawE (σ':=⟨[(0,(.bref 0 0)),(2,(.bref 2 0)),(3,(.bref 3 0)),(82,(.v (.bool (t44 && (t31.1 == 0)))))],[(0,(lxB b t31.2)),(2,(.box .ex [(.v (.int .i64 y2_0_3)),(.v (.int .i64 y2_1_4)),(S y2_2_5),(.sref 1043),(S y2_4_6)])),(3,(.box .ex [(S y3_0_7),(S y3_1_8)])),(1002,(.rows true 78 5 (t31.2.L_.map e_api_Token))),(1043,(.rows true 132 2 (y1043_10.map e_api_Raw)))]⟩) [⟨true,[(0,(.bref 0 0))],(.bref 0 0)⟩,⟨true,[(83,(.bref 0 0))],(.bref 0 0)⟩,⟨true,[(84,(.bref 0 0))],(.bref 0 0)⟩,⟨true,[(85,(.bref 0 0))],(S t31.2.S_)⟩,⟨true,[(0,(.bref 0 0))],(.bref 0 0)⟩,⟨true,[(87,(.bref 0 0))],(.bref 0 0)⟩,⟨true,[(88,(.bref 0 0))],(.bref 0 1)⟩,⟨true,[(89,(.bref 0 1))],(.v (.int .i64 t31.2.At_))⟩,⟨true,[(86,(S t31.2.S_)),(90,(.v (.int .i64 t31.2.At_)))],(.v (.int .u8 (bt t31.2.S_ t31.2.At_)))⟩,⟨true,[(91,(.v (.int .u8 (bt t31.2.S_ t31.2.At_))))],(.v (.bool t44))⟩,⟨true,[(92,(.v (.bool t44)))],(.v (.bool t44))⟩,It.I (t44 == true) [(4,(.v (.int .i64 t31.1))),(93,(.v (.bool t44)))] (.v (.int .i64 t31.1)),It.I (t44 == true) [(94,(bif (t44 == true) then (.v (.int .i64 t31.1)) else .v undef)),(93,(.v (.bool t44)))] (.v (.bool (t31.1 == 0))),⟨true,[(93,(.v (.bool t44))),(95,(bif (t44 == true) then (.v (.bool (t31.1 == 0))) else .v undef))],(.v (.bool (t44 && (t31.1 == 0))))⟩,⟨true,[(96,(.v (.bool (t44 && (t31.1 == 0)))))],(.v (.bool (t44 && (t31.1 == 0))))⟩] [[],[0],[1],[2],[],[4],[5],[6],[3,7],[8],[9],[10],[10,11],[10,12],[13]] mixed (by kernel_rfl) ?_ ?_
         ·refine TxtE.cons rfl ⟨.same _,trivial⟩ rfl (VOk.g (VOk.mv (d:=(.bref 0 0)) rfl rfl)) ?_
          refine TxtE.cons rfl ⟨.same _,trivial⟩ rfl (VOk.g (VOk.nilCheckB rfl rfl rfl)) ?_
          refine TxtE.cons rfl ⟨.same _,trivial⟩ rfl (VOk.g (VOk.to (VOk.fieldB rfl Tryz.underlying94 rfl sz9 rfl rfl) rfl)) ?_
          refine TxtE.cons rfl ⟨.same _,trivial⟩ rfl (VOk.g (VOk.loadB (d:=(S t31.2.S_)) rfl Tryz.underlying9 rfl rfl rfl rfl)) ?_
          refine TxtE.cons rfl ⟨.same _,trivial⟩ rfl (VOk.g (VOk.mv (d:=(.bref 0 0)) rfl rfl)) ?_
          refine TxtE.cons rfl ⟨.same _,trivial⟩ rfl (VOk.g (VOk.nilCheckB rfl rfl rfl)) ?_
          refine TxtE.cons rfl ⟨.same _,trivial⟩ rfl (VOk.g (VOk.to (VOk.fieldB rfl Tryz.underlying94 rfl sz3 rfl rfl) rfl)) ?_
          refine TxtE.cons rfl ⟨.same _,trivial⟩ rfl (VOk.g (VOk.loadB (d:=(.v (.int .i64 t31.2.At_))) rfl Tryz.underlying3 rfl rfl rfl rfl)) ?_
          refine TxtE.cons rfl ⟨.same _,.same _,trivial⟩ rfl (VOk.g (VOk.indexStr (s:=t31.2.S_) (i:=t31.2.At_) rfl Tryz.underlying9 rfl rfl c43)) ?_
          refine TxtE.cons rfl ⟨.same _,trivial⟩ rfl (GOk.call rfl rfl cl89 rfl (lex_part.ok h45) rfl) ?_
          refine TxtE.cons rfl ⟨.same _,trivial⟩ rfl (VOk.g (VOk.mv (d:=(.v (.bool t44))) rfl rfl)) ?_
          refine TxtE.consI rfl ⟨.same _,.same _,trivial⟩ rfl rfl (.one rfl) (fun hw46 => (VOk.g (VOk.mv (d:=(.v (.int .i64 t31.1))) rfl rfl))) ?_
          refine TxtE.consI rfl ⟨.same _,.same _,trivial⟩ rfl rfl (.one rfl) (fun hw46 => (GOk.fr (fr':=[(94,(.v (.int .i64 t31.1)))]) ⟨DLe.of_eq (cT hw46).symm,trivial⟩ (VOk.g (VOk.arith (op:=.eql) (k:=.i64) (a:=t31.1) (b:=0) rfl rfl rfl rfl)))) ?_
          refine TxtE.cons rfl ⟨.same _,.same _,trivial⟩ rfl (VOk.g (VOk.to (VOk.pickI (b:=t44) (p:=(t31.1 == 0)) (q:=false) rfl rfl (fun hp47 => (cT (t_beq hp47))) (fun hp47 => rfl)) (pickAnd t44 (t31.1 == 0)))) ?_
          refine TxtE.cons rfl ⟨.same _,trivial⟩ rfl (VOk.g (VOk.asg (d:=(.v (.bool (t44 && (t31.1 == 0))))) rfl rfl)) ?_
          exact .done (.rf rfl rfl)
         refine Ok.test (b:=(t44 && (t31.1 == 0))) rfl (fun hb74 => ?_) (fun hb74 => ?_)
         ·replace H:=ifT H hb74
          cases H
         ·replace H:=ifF H hb74
          refine Ok.seq ?_
          obtain⟨c48,H⟩:=assertE H
          obtain⟨t49,h50,H⟩:=bindE H
          refine .dA [(0,(.bref 0 0)),(2,(.bref 2 0)),(3,(.bref 3 0)),(97,(.v (.bool (!t49))))] [(0,(lxB b t31.2)),(2,(.box .ex [(.v (.int .i64 y2_0_3)),(.v (.int .i64 y2_1_4)),(S y2_2_5),(.sref 1043),(S y2_4_6)])),(3,(.box .ex [(S y3_0_7),(S y3_1_8)])),(1002,(.rows true 78 5 (t31.2.L_.map e_api_Token))),(1043,(.rows true 132 2 (y1043_10.map e_api_Raw)))] [[],[0],[1],[2],[],[4],[5],[6],[3,7],[8],[9],[10]] mixed ?_ ?_
          ·refine .tn 8 ?_
           refine .tc (VOk.g (VOk.indexStr (s:=t31.2.S_) (i:=t31.2.At_) rfl Tryz.underlying9 rfl rfl c48)) ?_
           refine .tc (GOk.call rfl rfl cl89 rfl (lex_part.ok h50) rfl) ?_
           refine .tn 2 ?_
           exact .dn
          refine Ok.test (b:=(!t49)) rfl (fun hb73 => ?_) (fun hb73 => ?_)
          ·replace H:=ifT H hb73
           cases H
          ·replace H:=ifF H hb73
           refine Ok.seq ?_
           refine Ok.region (σ':=⟨[(0,(.bref 0 0)),(2,(.bref 2 0)),(3,(.bref 3 0)),(109,(.v (.bool ((y1043_10.length:Int) == 65))))],[(0,(lxB b t31.2)),(2,(.box .ex [(.v (.int .i64 y2_0_3)),(.v (.int .i64 y2_1_4)),(S y2_2_5),(.sref 1043),(S y2_4_6)])),(3,(.box .ex [(S y3_0_7),(S y3_1_8)])),(1002,(.rows true 78 5 (t31.2.L_.map e_api_Token))),(1043,(.rows true 132 2 (y1043_10.map e_api_Raw)))]⟩) ?_ ?_
           ·refine .rn 2 ?_
            refine .cv (VOk.lenTL (e:=e_api_Raw) (xs:=y1043_10) rfl Tryz.underlying76 rfl rfl) rfl rfl ?_
            refine .rn 2 ?_
            exact .dn
           refine Ok.test (b:=((y1043_10.length:Int) == 65)) rfl (fun hb72 => ?_) (fun hb72 => ?_)
           ·replace H:=ifT H hb72
            cases H
           ·replace H:=ifF H hb72
            refine Ok.skip ?_
            refine Ok.seq ?_
            obtain⟨t51,h52,H⟩:=bindE H
            refine Ok.region (σ':=⟨[(0,(.bref 0 0)),(2,(.bref 2 0)),(3,(.bref 3 0))],[(0,(lxB b t51.2)),(2,(.box .ex [(.v (.int .i64 y2_0_3)),(.v (.int .i64 y2_1_4)),(S y2_2_5),(.sref 1043),(S y2_4_6)])),(3,(.box .ex [(S t51.1),(S y3_1_8)])),(1002,(.rows true 78 5 (t51.2.L_.map e_api_Token))),(1043,(.rows true 132 2 (y1043_10.map e_api_Raw)))]⟩) ?_ ?_
            ·refine .rn 3 ?_
             refine OpsOk.cons rfl (OpOk.callT (e:=(.at b)) 0 1002 1023 rfl rfl cl88 (fun b => ((lex_lexer_word.ok h52) b)) rfl rfl rfl rfl rfl rfl rfl rfl) ?_
             refine .rn 2 ?_
             exact .dn
            refine Ok.seq ?_
            obtain⟨t53,h54,H⟩:=bindE H
            refine Ok.region (σ':=⟨[(0,(.bref 0 0)),(2,(.bref 2 0)),(3,(.bref 3 0))],[(0,(lxB b t53.2)),(2,(.box .ex [(.v (.int .i64 y2_0_3)),(.v (.int .i64 y2_1_4)),(S y2_2_5),(.sref 1043),(S y2_4_6)])),(3,(.box .ex [(S t51.1),(S y3_1_8)])),(1002,(.rows true 78 5 (t53.2.L_.map e_api_Token))),(1043,(.rows true 132 2 (y1043_10.map e_api_Raw)))]⟩) ?_ ?_
            ·refine .rn 1 ?_
             refine OpsOk.cons rfl (OpOk.callT (e:=(.at b)) 0 1002 1026 rfl rfl cl62 (fun b => ((lex_lexer_blanks.ok h54) b)) rfl rfl rfl rfl rfl rfl rfl rfl) ?_
             exact .dn
            refine Ok.seq ?_
            refine Ok.seq ?_
            refine .dA [(0,(.bref 0 0)),(2,(.bref 2 0)),(3,(.bref 3 0)),(136,(.v (.bool (t53.2.At_ == (t53.2.S_.length:Int)))))] [(0,(lxB b t53.2)),(2,(.box .ex [(.v (.int .i64 y2_0_3)),(.v (.int .i64 y2_1_4)),(S y2_2_5),(.sref 1043),(S y2_4_6)])),(3,(.box .ex [(S t51.1),(S y3_1_8)])),(1002,(.rows true 78 5 (t53.2.L_.map e_api_Token))),(1043,(.rows true 132 2 (y1043_10.map e_api_Raw)))] [[],[0],[1],[2],[],[4],[5],[6],[7],[3,8]] mixed ?_ ?_
            ·refine .tn 8 ?_
             refine .tc (VOk.g (VOk.lenStr (s:=t53.2.S_) rfl Tryz.underlying9 rfl)) ?_
             refine .tn 1 ?_
             exact .dn
            refine Ok.test (b:=(t53.2.At_ == (t53.2.S_.length:Int))) rfl (fun hb71 => ?_) (fun hb71 => ?_)
            ·replace H:=ifT H hb71
             cases H
            ·replace H:=ifF H hb71
             refine Ok.skip ?_
             refine Ok.seq ?_
             refine Ok.seq ?_
             obtain⟨t55,h56,H⟩:=bindE H
             refine Ok.region (σ':=⟨[(0,(.bref 0 0)),(2,(.bref 2 0)),(3,(.bref 3 0)),(139,(.v (.bool (!t55))))],[(0,(lxB b t53.2)),(2,(.box .ex [(.v (.int .i64 y2_0_3)),(.v (.int .i64 y2_1_4)),(S y2_2_5),(.sref 1043),(S y2_4_6)])),(3,(.box .ex [(S t51.1),(S y3_1_8)])),(1002,(.rows true 78 5 (t53.2.L_.map e_api_Token))),(1043,(.rows true 132 2 (y1043_10.map e_api_Raw)))]⟩) ?_ ?_
             ·refine .rn 1 ?_
              refine .cg (GOk.callV2 rfl rfl cl48 rfl (lex_lexer_next.ok h56) rfl) rfl rfl ?_
              refine .rn 1 ?_
              exact .dn
             refine Ok.test (b:=(!t55)) rfl (fun hb70 => ?_) (fun hb70 => ?_)
             ·replace H:=ifT H hb70
              cases H
             ·replace H:=ifF H hb70
              refine Ok.skip ?_
              refine Ok.seq ?_
              refine .rg [(0,(.bref 0 0)),(2,(.bref 2 0)),(3,(.bref 3 0))] [(0,(.box (.at b) [(S t53.2.S_),(.v (.int .i64 (IntKind.i64.wrap (t53.2.At_ + 1)))),(.sref 1002)])),(2,(.box .ex [(.v (.int .i64 y2_0_3)),(.v (.int .i64 y2_1_4)),(S y2_2_5),(.sref 1043),(S y2_4_6)])),(3,(.box .ex [(S t51.1),(S y3_1_8)])),(1002,(.rows true 78 5 (t53.2.L_.map e_api_Token))),(1043,(.rows true 132 2 (y1043_10.map e_api_Raw)))] ?_
              refine Ok.seq ?_
              obtain⟨t57,h58,H⟩:=bindE H
              refine Ok.region (σ':=⟨[(0,(.bref 0 0)),(2,(.bref 2 0)),(3,(.bref 3 0))],[(0,(lxB b t57.2)),(2,(.box .ex [(.v (.int .i64 y2_0_3)),(.v (.int .i64 y2_1_4)),(S y2_2_5),(.sref 1043),(S y2_4_6)])),(3,(.box .ex [(S t51.1),(S y3_1_8)])),(1002,(.rows true 78 5 (t57.2.L_.map e_api_Token))),(1043,(.rows true 132 2 (y1043_10.map e_api_Raw)))]⟩) ?_ ?_
              ·refine .rn 1 ?_
               refine OpsOk.cons rfl (OpOk.callT (e:=(.at b)) 0 1002 1048 rfl rfl cl62 (fun b => ((lex_lexer_blanks.ok h58) b)) rfl rfl rfl rfl rfl rfl rfl rfl) ?_
               exact .dn
              refine Ok.seq ?_
              refine Ok.seq ?_
              refine .dA [(0,(.bref 0 0)),(2,(.bref 2 0)),(3,(.bref 3 0)),(158,(.v (.bool (t57.2.At_ == (t57.2.S_.length:Int)))))] [(0,(lxB b t57.2)),(2,(.box .ex [(.v (.int .i64 y2_0_3)),(.v (.int .i64 y2_1_4)),(S y2_2_5),(.sref 1043),(S y2_4_6)])),(3,(.box .ex [(S t51.1),(S y3_1_8)])),(1002,(.rows true 78 5 (t57.2.L_.map e_api_Token))),(1043,(.rows true 132 2 (y1043_10.map e_api_Raw)))] [[],[0],[1],[2],[],[4],[5],[6],[7],[3,8]] mixed ?_ ?_
              ·refine .tn 8 ?_
               refine .tc (VOk.g (VOk.lenStr (s:=t57.2.S_) rfl Tryz.underlying9 rfl)) ?_
               refine .tn 1 ?_
               exact .dn
              refine Ok.test (b:=(t57.2.At_ == (t57.2.S_.length:Int))) rfl (fun hb69 => ?_) (fun hb69 => ?_)
              ·replace H:=ifT H hb69
               cases H
              ·replace H:=ifF H hb69
               refine Ok.skip ?_
               refine Ok.seq ?_
               refine Ok.seq ?_
               obtain⟨t59,h60,H⟩:=bindE H
               obtain⟨t62,h63,H⟩:=bindE H
               refine Ok.region (σ':=⟨[(0,(.bref 0 0)),(2,(.bref 2 0)),(3,(.bref 3 0)),(166,(.v (.bool ((!t59) && (!t62)))))],[(0,(lxB b t57.2)),(2,(.box .ex [(.v (.int .i64 y2_0_3)),(.v (.int .i64 y2_1_4)),(S y2_2_5),(.sref 1043),(S y2_4_6)])),(3,(.box .ex [(S t51.1),(S y3_1_8)])),(1002,(.rows true 78 5 (t57.2.L_.map e_api_Token))),(1043,(.rows true 132 2 (y1043_10.map e_api_Raw)))]⟩) ?_ ?_
               ·refine .rn 1 ?_
                refine .cg (GOk.callV2 rfl rfl cl48 rfl (lex_lexer_next.ok h60) rfl) rfl rfl ?_
                refine .rn 2 ?_
                refine OpsOk.consI rfl rfl rfl (.one rfl) rfl (fun hw61 => (VOk.g (VOk.mv (d:=(.bref 0 0)) rfl rfl))) ?_
                refine OpsOk.consI rfl rfl rfl (.one rfl) rfl (fun hw61 => (GOk.fr (fr':=[(163,(.bref 0 0))]) ⟨DLe.of_eq (cT hw61).symm,trivial⟩ (GOk.callV2 rfl rfl cl48 rfl (lex_lexer_next.ok (ifT h63 hw61)) rfl))) ?_
                refine OpsOk.consI rfl rfl rfl (.one rfl) rfl (fun hw61 => (GOk.fr (fr':=[(164,(.v (.bool t62)))]) ⟨DLe.of_eq (cT hw61).symm,trivial⟩ (VOk.g (VOk.not (b:=t62) rfl rfl)))) ?_
                refine .cv (VOk.to (VOk.pickI (b:=(!t59)) (p:=(!t62)) (q:=false) rfl rfl (fun hp64 => (cT (t_beq hp64))) (fun hp64 => rfl)) (pickAnd (!t59) (!t62))) rfl rfl ?_
                exact .dn
               refine Ok.test (b:=((!t59) && (!t62))) rfl (fun hb68 => ?_) (fun hb68 => ?_)
               ·replace H:=ifT H hb68
                cases H
               ·replace H:=ifF H hb68
                refine Ok.skip ?_
                refine Ok.seq ?_
                obtain⟨t65,h66,H⟩:=bindE H
                refine Ok.region (σ':=⟨[(0,(.bref 0 0)),(2,(.bref 2 0)),(3,(.bref 3 0))],[(0,(lxB b t65.2)),(2,(.box .ex [(.v (.int .i64 y2_0_3)),(.v (.int .i64 y2_1_4)),(S y2_2_5),(.sref 1043),(S y2_4_6)])),(3,(.box .ex [(S t51.1),(S t65.1)])),(1002,(.rows true 78 5 (t65.2.L_.map e_api_Token))),(1043,(.rows true 132 2 (y1043_10.map e_api_Raw)))]⟩) ?_ ?_
                ·refine .rn 3 ?_
                 refine OpsOk.cons rfl (OpOk.callT (e:=(.at b)) 0 1002 1070 rfl rfl cl90 (fun b => ((lex_lexer_value.ok h66) b)) rfl rfl rfl rfl rfl rfl rfl rfl) ?_
                 refine .rn 2 ?_
                 exact .dn
                refine Ok.seq ?_
                obtain⟨c67,H⟩:=assertE H
                refine Ok.region (σ':=⟨[(0,(.bref 0 0)),(2,(.bref 2 0)),(3,(.bref 3 0))],[(0,(lxB b t65.2)),(2,(.box .ex [(.v (.int .i64 y2_0_3)),(.v (.int .i64 y2_1_4)),(S y2_2_5),(.sref 1043),(S y2_4_6)])),(3,(.box .ex [(S t51.1),(S t65.1)])),(1002,(.rows true 78 5 (t65.2.L_.map e_api_Token))),(1043,(.rows true 132 2 ((y1043_10 ++ ([(T_api_Raw.mk t51.1 t65.1)]:List T_api_Raw)).map e_api_Raw)))]⟩) ?_ ?_
                ·refine .rn 3 ?_
                 refine .cg (GOk.to (d':=(L 2 e_api_Raw ([(T_api_Raw.mk t51.1 t65.1)]:List T_api_Raw))) (GOk.lit rfl Tryz.underlying76 sz132 zs132 rfl rfl rfl rfl) rfl) rfl rfl ?_
                 refine OpsOk.cons rfl (OpOk.appendL (e:=e_api_Raw) (xs:=y1043_10) (ys:=([(T_api_Raw.mk t51.1 t65.1)]:List T_api_Raw)) rfl Tryz.underlying76 elt132 rfl rfl rfl c67 rfl) ?_
                 refine .rn 2 ?_
                 exact .dn
                refine Ok.seq ?_
                refine Ok.goto ?_
                exact⟨m30 + 1,by omega,.inl ⟨rfl,m30,rfl,t65.2.S_,t65.2.At_,y2_0_3,y2_1_4,y2_2_5,y2_4_6,t51.1,t65.1,t65.2.L_,(y1043_10 ++ ([(T_api_Raw.mk t51.1 t65.1)]:List T_api_Raw)),rfl,H⟩⟩
  ·refine⟨_,rfl,?_⟩
   unfold lex_lexer_tag.g0 at H
   refine Ok.seq ?_
   refine Ok.skip ?_
   obtain⟨c29,H⟩:=assertE H
   refine Ok.frzL 1043 (e:=e_api_Raw) (xs:=y1043_28) rfl ?_
   refine Ok.le (σ':=⟨[(0,(.bref 0 0)),(2,(.bref 2 0))],[(0,(.box (.at b) [(S y0_0_21),(.v (.int .i64 y0_1_22)),(.sref 1002)])),(2,(.box .ex [(.v (.int .i64 y2_0_23)),(.v (.int .i64 y2_1_24)),(S y2_2_25),(L 2 e_api_Raw y1043_28),(S y2_4_26)])),(1002,(.rows true 78 5 (y1002_27.map e_api_Token)))]⟩) (.rf rfl rfl) ?_
   refine Ok.drawE2 (σ':=⟨[],[(0,(.box (.at b) [(S y0_0_21),(.v (.int .i64 y0_1_22)),(.sref 1002)])),(1002,(.rows true 78 5 ((y1002_27 ++ ([(T_api_Token.mk y2_0_23 y2_1_24 y2_2_25 y1043_28 y2_4_26)]:List T_api_Token)).map e_api_Token)))]⟩) [⟨true,[(0,(.bref 0 0))],[(0,(.box (.at b) [(S y0_0_21),(.v (.int .i64 y0_1_22)),(.sref 1002)]))],(.bref 0 0),[],false,[]⟩,⟨true,[(0,(.bref 0 0))],[(0,(.box (.at b) [(S y0_0_21),(.v (.int .i64 y0_1_22)),(.sref 1002)]))],(.bref 0 0),[],false,[]⟩,⟨true,[(189,(.bref 0 0))],[(0,(.box (.at b) [(S y0_0_21),(.v (.int .i64 y0_1_22)),(.sref 1002)]))],(.bref 0 0),[],false,[]⟩,⟨true,[(190,(.bref 0 0))],[(0,(.box (.at b) [(S y0_0_21),(.v (.int .i64 y0_1_22)),(.sref 1002)]))],(.bref 0 2),[],false,[]⟩,⟨true,[(191,(.bref 0 2))],[(0,(.box (.at b) [(S y0_0_21),(.v (.int .i64 y0_1_22)),(.sref 1002)]))],(.sref 1002),[],false,[]⟩,⟨true,[(2,(.bref 2 0))],[(2,(.box .ex [(.v (.int .i64 y2_0_23)),(.v (.int .i64 y2_1_24)),(S y2_2_25),(L 2 e_api_Raw y1043_28),(S y2_4_26)]))],(.agg (e_api_Token (T_api_Token.mk y2_0_23 y2_1_24 y2_2_25 y1043_28 y2_4_26))),[],false,[]⟩,⟨true,[(193,(.agg (e_api_Token (T_api_Token.mk y2_0_23 y2_1_24 y2_2_25 y1043_28 y2_4_26))))],[],(L 5 e_api_Token ([(T_api_Token.mk y2_0_23 y2_1_24 y2_2_25 y1043_28 y2_4_26)]:List T_api_Token)),[],false,[]⟩,⟨true,[(192,(.sref 1002)),(194,(L 5 e_api_Token ([(T_api_Token.mk y2_0_23 y2_1_24 y2_2_25 y1043_28 y2_4_26)]:List T_api_Token)))],[(1002,(.rows true 78 5 (y1002_27.map e_api_Token)))],(.sref 195),[(195,(.rows true 78 5 ((y1002_27 ++ ([(T_api_Token.mk y2_0_23 y2_1_24 y2_2_25 y1043_28 y2_4_26)]:List T_api_Token)).map e_api_Token))),(1002,.none)],true,[]⟩,⟨true,[(188,(.bref 0 0))],[(0,(.box (.at b) [(S y0_0_21),(.v (.int .i64 y0_1_22)),(.sref 1002)]))],(.bref 0 0),[],false,[]⟩,⟨true,[(196,(.bref 0 0))],[(0,(.box (.at b) [(S y0_0_21),(.v (.int .i64 y0_1_22)),(.sref 1002)]))],(.bref 0 2),[],false,[]⟩,⟨true,[(197,(.bref 0 2)),(195,(.sref 195))],[(0,(.box (.at b) [(S y0_0_21),(.v (.int .i64 y0_1_22)),(.sref 1002)])),(195,(.rows true 78 5 ((y1002_27 ++ ([(T_api_Token.mk y2_0_23 y2_1_24 y2_2_25 y1043_28 y2_4_26)]:List T_api_Token)).map e_api_Token)))],.junk,[(0,(.box (.at b) [(S y0_0_21),(.v (.int .i64 y0_1_22)),(.sref 195)]))],false,[]⟩] [[],[],[1],[2],[3],[],[5],[4,6],[0],[8],[0,1,2,3,4,7,8,9]] mixed (by kernel_rfl) ?_ ?_
   ·refine TxtE2.cons ⟨.same _,trivial⟩ ⟨rfl,trivial⟩ (It2.val rfl rfl (fun T hT => (VOk.g (VOk.mv (d:=(.bref 0 0)) rfl rfl)))) ?_
    refine TxtE2.cons ⟨.same _,trivial⟩ ⟨rfl,trivial⟩ (It2.val rfl rfl (fun T hT => (VOk.g (VOk.mv (d:=(.bref 0 0)) rfl rfl)))) ?_
    refine TxtE2.cons ⟨.same _,trivial⟩ ⟨rfl,trivial⟩ (It2.val rfl rfl (fun T hT => (VOk.g (VOk.nilCheckB rfl rfl hT.1)))) ?_
    refine TxtE2.cons ⟨.same _,trivial⟩ ⟨rfl,trivial⟩ (It2.val rfl rfl (fun T hT => (VOk.g (VOk.to (VOk.fieldB rfl Tryz.underlying94 rfl sz69 rfl hT.1) rfl)))) ?_
    refine TxtE2.cons ⟨.same _,trivial⟩ ⟨rfl,trivial⟩ (It2.val rfl rfl (fun T hT => (VOk.g (VOk.loadB (d:=(.sref 1002)) rfl Tryz.underlying69 rfl rfl hT.1 rfl)))) ?_
    refine TxtE2.cons ⟨.same _,trivial⟩ ⟨rfl,trivial⟩ (It2.val rfl rfl (fun T hT => (VOk.g (VOk.to (d':=(.agg (e_api_Token (T_api_Token.mk y2_0_23 y2_1_24 y2_2_25 y1043_28 y2_4_26)))) (.loadBAgg rfl Tryz.underlying78 rfl sz78 rfl hT.1 rfl) rfl)))) ?_
    refine TxtE2.cons ⟨.same _,trivial⟩ trivial (It2.val rfl rfl (fun T hT => (GOk.to (d':=(L 5 e_api_Token ([(T_api_Token.mk y2_0_23 y2_1_24 y2_2_25 y1043_28 y2_4_26)]:List T_api_Token))) (GOk.lit rfl Tryz.underlying69 sz78 zs78 rfl rfl rfl rfl) rfl))) ?_
    refine TxtE2.cons ⟨.same _,.same _,trivial⟩ ⟨rfl,trivial⟩ (It2.appendL 195 (e:=e_api_Token) (xs:=y1002_27) (ys:=([(T_api_Token.mk y2_0_23 y2_1_24 y2_2_25 y1043_28 y2_4_26)]:List T_api_Token)) rfl rfl Tryz.underlying69 elt78 rfl rfl rfl rfl c29 rfl rfl) ?_
    refine TxtE2.cons ⟨.same _,trivial⟩ ⟨rfl,trivial⟩ (It2.val rfl rfl (fun T hT => (VOk.g (VOk.nilCheckB rfl rfl hT.1)))) ?_
    refine TxtE2.cons ⟨.same _,trivial⟩ ⟨rfl,trivial⟩ (It2.val rfl rfl (fun T hT => (VOk.g (VOk.to (VOk.fieldB rfl Tryz.underlying94 rfl sz69 rfl hT.1) rfl)))) ?_
    refine TxtE2.cons ⟨.same _,.same _,trivial⟩ ⟨rfl,rfl,trivial⟩ (It2.store rfl rfl sz69 rfl rfl rfl rfl rfl rfl rfl rfl) ?_
    exact .doneS (SLe.trans (Le.s (.rf rfl rfl)) (SLe.ren 195 1002 rfl rfl))
   obtain rfl:=Option.some.inj H
   exact⟨.inr rfl,⟨_,.nil,rfl⟩,⟨.same _,.same _,.none _,trivial⟩⟩
def lex_lexer_text (k:Nat) (a0:T_lex_lexer):Option T_lex_lexer:=(if (0:Int) ≤ a0.At_ ∧ a0.At_ ≤ (a0.S_.length:Int) ∧ (a0.S_.length:Int) ≤ (a0.S_.length:Int) then ((strings_IndexByte (sl a0.S_ a0.At_ (a0.S_.length:Int)) 60).bind fun (t2:Int) => (if (decide (t2 < 0))=true then none else (if (0:Int) ≤ a0.At_ ∧ a0.At_ ≤ (IntKind.i64.wrap (a0.At_ + t2)) ∧ (IntKind.i64.wrap (a0.At_ + t2)) ≤ (a0.S_.length:Int) then ((lex_Unescape k (sl a0.S_ a0.At_ (IntKind.i64.wrap (a0.At_ + t2))) false).bind fun (t5:Str × Int × Int) => (if (sl a0.S_ a0.At_ (IntKind.i64.wrap (a0.At_ + t2))).length < 4294967281 then (if ((decide ((Lib.index (sl a0.S_ a0.At_ (IntKind.i64.wrap (a0.At_ + t2))) ([93,93,62]:Str)) ≥ 0)) && ((t5.2.2 == 0) || (decide ((Lib.index (sl a0.S_ a0.At_ (IntKind.i64.wrap (a0.At_ + t2))) ([93,93,62]:Str)) < t5.2.1))))=true then none else (if (t5.2.2 != 0)=true then none else (if (a0.L_.length + ([(T_api_Token.mk 4 a0.At_ ([]:Str) ([]:List T_api_Raw) t5.1)]:List T_api_Token).length) * 72 ≤ 140737488355328 then some (T_lex_lexer.mk a0.S_ (IntKind.i64.wrap (a0.At_ + t2)) (a0.L_ ++ ([(T_api_Token.mk 4 a0.At_ ([]:Str) ([]:List T_api_Raw) t5.1)]:List T_api_Token))) else none))) else none)) else none))) else none)
theorem lex_lexer_text.ok {k:Nat} {a0:T_lex_lexer} {r:T_lex_lexer} (H:lex_lexer_text k a0=some r) (b:Nat):Vx.Fn Tryz.prog 70 [(.bref 0 0)] [(0,(lxB b a0)),(1002,(.rows true 78 5 (a0.L_.map e_api_Token)))] (.tup []) [(0,(lxB b r)),(1002,(.rows true 78 5 (r.L_.map e_api_Token))),(999,.none)]:=by
 unfold lex_lexer_text at H
 refine Vx.Fn.of_okR Tryz.func70 rfl (Nat.le_of_ble_eq_true rfl) ?_
 refine Ok.seq ?_
 refine .rg [(0,(.bref 0 0)),(2,(.v (.int .i64 a0.At_)))] [(0,(lxB b a0)),(1002,(.rows true 78 5 (a0.L_.map e_api_Token)))] ?_
 refine Ok.seq ?_
 obtain⟨c1,H⟩:=assertE H
 obtain⟨t2,h3,H⟩:=bindE H
 refine .dA [(0,(.bref 0 0)),(2,(.v (.int .i64 a0.At_))),(3,(.v (.int .i64 t2)))] [(0,(lxB b a0)),(1002,(.rows true 78 5 (a0.L_.map e_api_Token)))] [[],[0],[1],[2],[],[4],[5],[6],[3,7],[8],[9]] mixed ?_ ?_
 ·refine .tn 8 ?_
  refine .tc (VOk.g (VOk.sliceStr (s:=a0.S_) (l:=a0.At_) (h:=(a0.S_.length:Int)) rfl Tryz.underlying9 rfl rfl rfl c1)) ?_
  refine .tc (GOk.call rfl rfl cl91 rfl (strings_IndexByte.ok h3) rfl) ?_
  refine .tn 1 ?_
  exact .dn
 refine Ok.seq ?_
 refine Ok.seq ?_
 refine .rg [(0,(.bref 0 0)),(2,(.v (.int .i64 a0.At_))),(3,(.v (.int .i64 t2))),(24,(.v (.bool (decide (t2 < 0)))))] [(0,(lxB b a0)),(1002,(.rows true 78 5 (a0.L_.map e_api_Token)))] ?_
 refine Ok.test (b:=(decide (t2 < 0))) rfl (fun hb15 => ?_) (fun hb15 => ?_)
 ·replace H:=ifT H hb15
  cases H
 ·replace H:=ifF H hb15
  refine Ok.skip ?_
  refine Ok.seq ?_
  obtain⟨c4,H⟩:=assertE H
  refine .dA [(0,(.bref 0 0)),(2,(.v (.int .i64 a0.At_))),(3,(.v (.int .i64 t2))),(4,(S (sl a0.S_ a0.At_ (IntKind.i64.wrap (a0.At_ + t2)))))] [(0,(lxB b a0)),(1002,(.rows true 78 5 (a0.L_.map e_api_Token)))] [[],[0],[1],[2],[],[4],[5],[6],[],[8],[9],[10],[],[11,12],[3,7,13],[14]] mixed ?_ ?_
  ·refine .tn 14 ?_
   refine .tc (VOk.g (VOk.sliceStr (s:=a0.S_) (l:=a0.At_) (h:=(IntKind.i64.wrap (a0.At_ + t2))) rfl Tryz.underlying9 rfl rfl rfl c4)) ?_
   refine .tn 1 ?_
   exact .dn
  refine Ok.seq ?_
  obtain⟨t5,h6,H⟩:=bindE H
  refine Ok.region (σ':=⟨[(0,(.bref 0 0)),(2,(.v (.int .i64 a0.At_))),(3,(.v (.int .i64 t2))),(4,(S (sl a0.S_ a0.At_ (IntKind.i64.wrap (a0.At_ + t2))))),(5,(S t5.1)),(6,(.v (.int .i64 t5.2.1))),(7,(.v (.int .i64 t5.2.2)))],[(0,(lxB b a0)),(1002,(.rows true 78 5 (a0.L_.map e_api_Token)))]⟩) ?_ ?_
  ·refine .rn 1 ?_
   refine .cg (GOk.call rfl rfl cl92 rfl (lex_Unescape.ok h6) rfl) rfl rfl ?_
   refine .rn 7 ?_
   exact .dn
  refine Ok.seq ?_
  obtain⟨c7,H⟩:=assertE H
  refine Ok.region (σ':=⟨[(0,(.bref 0 0)),(2,(.v (.int .i64 a0.At_))),(3,(.v (.int .i64 t2))),(5,(S t5.1)),(6,(.v (.int .i64 t5.2.1))),(7,(.v (.int .i64 t5.2.2))),(8,(.v (.int .i64 (Lib.index (sl a0.S_ a0.At_ (IntKind.i64.wrap (a0.At_ + t2))) ([93,93,62]:Str)))))],[(0,(lxB b a0)),(1002,(.rows true 78 5 (a0.L_.map e_api_Token)))]⟩) ?_ ?_
  ·refine .rn 1 ?_
   refine .cg (GOk.extB (us:=[.string (ba (sl a0.S_ a0.At_ (IntKind.i64.wrap (a0.At_ + t2)))),.string (ba ([93,93,62]:Str))]) (d:=(.v (.int .i64 (Lib.index (sl a0.S_ a0.At_ (IntKind.i64.wrap (a0.At_ + t2))) ([93,93,62]:Str))))) rfl rfl cl93 rfl (fun _ _ => .v _) (fun w hG => shIndex c7 w hG)) rfl rfl ?_
   refine .rn 1 ?_
   exact .dn
  refine Ok.seq ?_
  refine Ok.seq ?_
  refine Ok.region (σ':=⟨[(0,(.bref 0 0)),(2,(.v (.int .i64 a0.At_))),(3,(.v (.int .i64 t2))),(5,(S t5.1)),(7,(.v (.int .i64 t5.2.2))),(68,(.v (.bool ((decide ((Lib.index (sl a0.S_ a0.At_ (IntKind.i64.wrap (a0.At_ + t2))) ([93,93,62]:Str)) ≥ 0)) && ((t5.2.2 == 0) || (decide ((Lib.index (sl a0.S_ a0.At_ (IntKind.i64.wrap (a0.At_ + t2))) ([93,93,62]:Str)) < t5.2.1)))))))],[(0,(lxB b a0)),(1002,(.rows true 78 5 (a0.L_.map e_api_Token)))]⟩) ?_ ?_
  ·refine .rn 3 ?_
   refine OpsOk.consI rfl rfl rfl (.one rfl) rfl (fun hw8 => (VOk.g (VOk.mv (d:=(.v (.int .i64 t5.2.2))) rfl rfl))) ?_
   refine OpsOk.consI rfl rfl rfl (.one rfl) rfl (fun hw8 => (GOk.fr (fr':=[(61,(.v (.int .i64 t5.2.2)))]) ⟨DLe.of_eq (cT hw8).symm,trivial⟩ (VOk.g (VOk.arith (op:=.eql) (k:=.i64) (a:=t5.2.2) (b:=0) rfl rfl rfl rfl)))) ?_
   refine OpsOk.consI rfl rfl rfl (.one rfl) rfl (fun hw8 => (GOk.fr (fr':=[(62,(.v (.bool (t5.2.2 == 0))))]) ⟨DLe.of_eq (cT hw8).symm,trivial⟩ (VOk.g (VOk.mv (d:=(.v (.bool (t5.2.2 == 0)))) rfl rfl)))) ?_
   refine OpsOk.consI rfl rfl rfl (.two rfl) rfl (fun hw9 => (VOk.g (VOk.mv (d:=(.v (.int .i64 (Lib.index (sl a0.S_ a0.At_ (IntKind.i64.wrap (a0.At_ + t2))) ([93,93,62]:Str))))) rfl rfl))) ?_
   refine OpsOk.consI rfl rfl rfl (.two rfl) rfl (fun hw9 => (VOk.g (VOk.mv (d:=(.v (.int .i64 t5.2.1))) rfl rfl))) ?_
   refine OpsOk.consI rfl rfl rfl (.two rfl) rfl (fun hw9 => (GOk.fr (fr':=[(64,(.v (.int .i64 (Lib.index (sl a0.S_ a0.At_ (IntKind.i64.wrap (a0.At_ + t2))) ([93,93,62]:Str))))),(65,(.v (.int .i64 t5.2.1)))]) ⟨DLe.of_eq (cT hw9).symm,DLe.of_eq (cT hw9).symm,trivial⟩ (VOk.g (VOk.arith (op:=.lss) (k:=.i64) (a:=(Lib.index (sl a0.S_ a0.At_ (IntKind.i64.wrap (a0.At_ + t2))) ([93,93,62]:Str))) (b:=t5.2.1) rfl rfl rfl rfl)))) ?_
   refine OpsOk.consI rfl rfl rfl (.one rfl) rfl (fun hw8 => (VOk.g (VOk.to (VOk.pickI (b:=(t5.2.2 == 0)) (p:=true) (q:=(decide ((Lib.index (sl a0.S_ a0.At_ (IntKind.i64.wrap (a0.At_ + t2))) ([93,93,62]:Str)) < t5.2.1))) rfl (cT hw8) (fun hp10 => rfl) (fun hp10 => (cT (and_i hw8 (f_beq hp10))))) (pickOr (t5.2.2 == 0) (decide ((Lib.index (sl a0.S_ a0.At_ (IntKind.i64.wrap (a0.At_ + t2))) ([93,93,62]:Str)) < t5.2.1)))))) ?_
   refine .cv (VOk.to (VOk.pickI (b:=(decide ((Lib.index (sl a0.S_ a0.At_ (IntKind.i64.wrap (a0.At_ + t2))) ([93,93,62]:Str)) ≥ 0))) (p:=((t5.2.2 == 0) || (decide ((Lib.index (sl a0.S_ a0.At_ (IntKind.i64.wrap (a0.At_ + t2))) ([93,93,62]:Str)) < t5.2.1)))) (q:=false) rfl rfl (fun hp11 => (cT (t_beq hp11))) (fun hp11 => rfl)) (pickAnd (decide ((Lib.index (sl a0.S_ a0.At_ (IntKind.i64.wrap (a0.At_ + t2))) ([93,93,62]:Str)) ≥ 0)) ((t5.2.2 == 0) || (decide ((Lib.index (sl a0.S_ a0.At_ (IntKind.i64.wrap (a0.At_ + t2))) ([93,93,62]:Str)) < t5.2.1))))) rfl rfl ?_
   exact .dn
  refine Ok.test (b:=((decide ((Lib.index (sl a0.S_ a0.At_ (IntKind.i64.wrap (a0.At_ + t2))) ([93,93,62]:Str)) ≥ 0)) && ((t5.2.2 == 0) || (decide ((Lib.index (sl a0.S_ a0.At_ (IntKind.i64.wrap (a0.At_ + t2))) ([93,93,62]:Str)) < t5.2.1))))) rfl (fun hb14 => ?_) (fun hb14 => ?_)
  ·replace H:=ifT H hb14
   cases H
  ·replace H:=ifF H hb14
   refine Ok.skip ?_
   refine Ok.seq ?_
   refine Ok.seq ?_
   refine .rg [(0,(.bref 0 0)),(2,(.v (.int .i64 a0.At_))),(3,(.v (.int .i64 t2))),(5,(S t5.1)),(75,(.v (.bool (t5.2.2 != 0))))] [(0,(lxB b a0)),(1002,(.rows true 78 5 (a0.L_.map e_api_Token)))] ?_
   refine Ok.test (b:=(t5.2.2 != 0)) rfl (fun hb13 => ?_) (fun hb13 => ?_)
   ·replace H:=ifT H hb13
    cases H
   ·replace H:=ifF H hb13
    refine Ok.skip ?_
    refine Ok.seq ?_
    refine .rg [(0,(.bref 0 0)),(2,(.v (.int .i64 a0.At_))),(5,(S t5.1))] [(0,(.box (.at b) [(S a0.S_),(.v (.int .i64 (IntKind.i64.wrap (a0.At_ + t2)))),(.sref 1002)])),(1002,(.rows true 78 5 (a0.L_.map e_api_Token)))] ?_
    obtain⟨c12,H⟩:=assertE H
    refine Ok.region (σ':=⟨[],[(0,(.box (.at b) [(S a0.S_),(.v (.int .i64 (IntKind.i64.wrap (a0.At_ + t2)))),(.sref 1002)])),(1002,(.rows true 78 5 ((a0.L_ ++ ([(T_api_Token.mk 4 a0.At_ ([]:Str) ([]:List T_api_Raw) t5.1)]:List T_api_Token)).map e_api_Token)))]⟩) ?_ ?_
    ·refine .rn 7 ?_
     refine .cv (VOk.to (d':=(.agg (e_api_Token (T_api_Token.mk 4 a0.At_ ([]:Str) ([]:List T_api_Raw) t5.1)))) (.build [none,none,none,some 2,none] [(0,1),(1,1),(2,1),(3,1),(4,1)] rfl Tryz.underlying78 (fa78 Tryz.underlying78) zo78 rfl rfl) rfl) rfl rfl ?_
     refine .cg (GOk.to (d':=(L 5 e_api_Token ([(T_api_Token.mk 4 a0.At_ ([]:Str) ([]:List T_api_Raw) t5.1)]:List T_api_Token))) (GOk.lit rfl Tryz.underlying69 sz78 zs78 rfl rfl rfl rfl) rfl) rfl rfl ?_
     refine OpsOk.cons rfl (OpOk.appendL (e:=e_api_Token) (xs:=a0.L_) (ys:=([(T_api_Token.mk 4 a0.At_ ([]:Str) ([]:List T_api_Raw) t5.1)]:List T_api_Token)) rfl Tryz.underlying69 elt78 rfl rfl rfl c12 rfl) ?_
     refine .rn 3 ?_
     exact .dn
    obtain rfl:=Option.some.inj H
    exact⟨.inr rfl,⟨_,.nil,rfl⟩,⟨.same _,.same _,.none _,trivial⟩⟩
def lex_lexer_one (k:Nat) (a0:T_lex_lexer):Option T_lex_lexer:=((lex_lexer_next a0 ([60,63]:Str)).bind fun (t1:Bool) => (if t1=true then none else ((lex_lexer_next a0 ([60,33,45,45]:Str)).bind fun (t3:Bool) => (if t3=true then none else ((lex_lexer_next a0 ([60,33,91,67,68,65,84,65,91]:Str)).bind fun (t5:Bool) => (if t5=true then none else ((lex_lexer_next a0 ([60,33,68]:Str)).bind fun (t7:Bool) => (if t7=true then none else ((lex_lexer_next a0 ([60,33]:Str)).bind fun (t9:Bool) => (if t9=true then none else ((lex_lexer_next a0 ([60,47]:Str)).bind fun (t11:Bool) => (if t11=true then ((lex_lexer_closing k a0).bind fun (t13:T_lex_lexer) => some t13) else ((lex_lexer_next a0 ([60]:Str)).bind fun (t15:Bool) => (if t15=true then ((lex_lexer_tag k a0).bind fun (t17:T_lex_lexer) => some t17) else ((lex_lexer_text k a0).bind fun (t19:T_lex_lexer) => some t19)))))))))))))))
theorem lex_lexer_one.ok {k:Nat} {a0:T_lex_lexer} {r:T_lex_lexer} (H:lex_lexer_one k a0=some r) (b:Nat):Vx.Fn Tryz.prog 51 [(.bref 0 0)] [(0,(lxB b a0)),(1002,(.rows true 78 5 (a0.L_.map e_api_Token)))] (.tup []) [(0,(lxB b r)),(1002,(.rows true 78 5 (r.L_.map e_api_Token))),(999,.none)]:=by
 unfold lex_lexer_one at H
 refine Vx.Fn.of_okR Tryz.func51 rfl (Nat.le_of_ble_eq_true rfl) ?_
 refine Ok.block ?_
 refine Ok.seq ?_
 obtain⟨t1,h2,H⟩:=bindE H
 refine Ok.region (σ':=⟨[(0,(.bref 0 0)),(4,(.v (.bool t1)))],[(0,(lxB b a0)),(1002,(.rows true 78 5 (a0.L_.map e_api_Token)))]⟩) ?_ ?_
 ·refine .rn 1 ?_
  refine .cg (GOk.callV2 rfl rfl cl48 rfl (lex_lexer_next.ok h2) rfl) rfl rfl ?_
  refine .rn 1 ?_
  exact .dn
 refine Ok.test (b:=t1) rfl (fun hb27 => ?_) (fun hb27 => ?_)
 ·replace H:=ifT H hb27
  cases H
 ·replace H:=ifF H hb27
  refine Ok.seq ?_
  obtain⟨t3,h4,H⟩:=bindE H
  refine Ok.region (σ':=⟨[(0,(.bref 0 0)),(9,(.v (.bool t3)))],[(0,(lxB b a0)),(1002,(.rows true 78 5 (a0.L_.map e_api_Token)))]⟩) ?_ ?_
  ·refine .rn 1 ?_
   refine .cg (GOk.callV2 rfl rfl cl48 rfl (lex_lexer_next.ok h4) rfl) rfl rfl ?_
   refine .rn 1 ?_
   exact .dn
  refine Ok.test (b:=t3) rfl (fun hb26 => ?_) (fun hb26 => ?_)
  ·replace H:=ifT H hb26
   cases H
  ·replace H:=ifF H hb26
   refine Ok.seq ?_
   obtain⟨t5,h6,H⟩:=bindE H
   refine Ok.region (σ':=⟨[(0,(.bref 0 0)),(14,(.v (.bool t5)))],[(0,(lxB b a0)),(1002,(.rows true 78 5 (a0.L_.map e_api_Token)))]⟩) ?_ ?_
   ·refine .rn 1 ?_
    refine .cg (GOk.callV2 rfl rfl cl48 rfl (lex_lexer_next.ok h6) rfl) rfl rfl ?_
    refine .rn 1 ?_
    exact .dn
   refine Ok.test (b:=t5) rfl (fun hb25 => ?_) (fun hb25 => ?_)
   ·replace H:=ifT H hb25
    cases H
   ·replace H:=ifF H hb25
    refine Ok.seq ?_
    obtain⟨t7,h8,H⟩:=bindE H
    refine Ok.region (σ':=⟨[(0,(.bref 0 0)),(19,(.v (.bool t7)))],[(0,(lxB b a0)),(1002,(.rows true 78 5 (a0.L_.map e_api_Token)))]⟩) ?_ ?_
    ·refine .rn 1 ?_
     refine .cg (GOk.callV2 rfl rfl cl48 rfl (lex_lexer_next.ok h8) rfl) rfl rfl ?_
     refine .rn 1 ?_
     exact .dn
    refine Ok.test (b:=t7) rfl (fun hb24 => ?_) (fun hb24 => ?_)
    ·replace H:=ifT H hb24
     cases H
    ·replace H:=ifF H hb24
     refine Ok.seq ?_
     obtain⟨t9,h10,H⟩:=bindE H
     refine Ok.region (σ':=⟨[(0,(.bref 0 0)),(28,(.v (.bool t9)))],[(0,(lxB b a0)),(1002,(.rows true 78 5 (a0.L_.map e_api_Token)))]⟩) ?_ ?_
     ·refine .rn 1 ?_
      refine .cg (GOk.callV2 rfl rfl cl48 rfl (lex_lexer_next.ok h10) rfl) rfl rfl ?_
      refine .rn 1 ?_
      exact .dn
     refine Ok.test (b:=t9) rfl (fun hb23 => ?_) (fun hb23 => ?_)
     ·replace H:=ifT H hb23
      cases H
     ·replace H:=ifF H hb23
      refine Ok.seq ?_
      obtain⟨t11,h12,H⟩:=bindE H
      refine Ok.region (σ':=⟨[(0,(.bref 0 0)),(37,(.v (.bool t11)))],[(0,(lxB b a0)),(1002,(.rows true 78 5 (a0.L_.map e_api_Token)))]⟩) ?_ ?_
      ·refine .rn 1 ?_
       refine .cg (GOk.callV2 rfl rfl cl48 rfl (lex_lexer_next.ok h12) rfl) rfl rfl ?_
       refine .rn 1 ?_
       exact .dn
      refine Ok.test (b:=t11) rfl (fun hb22 => ?_) (fun hb22 => ?_)
      ·replace H:=ifT H hb22
       obtain⟨t13,h14,H⟩:=bindE H
       refine Ok.region (σ':=⟨[],[(0,(lxB b t13)),(1002,(.rows true 78 5 (t13.L_.map e_api_Token)))]⟩) ?_ ?_
       ·refine .rn 1 ?_
        refine OpsOk.cons rfl (OpOk.callT (e:=(.at b)) 0 1002 941 rfl rfl cl68 (fun b => ((lex_lexer_closing.ok h14) b)) rfl rfl rfl rfl rfl rfl rfl rfl) ?_
        exact .dn
       obtain rfl:=Option.some.inj H
       exact⟨.inr rfl,⟨_,.nil,rfl⟩,⟨.same _,.same _,.none _,trivial⟩⟩
      ·replace H:=ifF H hb22
       refine Ok.seq ?_
       obtain⟨t15,h16,H⟩:=bindE H
       refine Ok.region (σ':=⟨[(0,(.bref 0 0)),(42,(.v (.bool t15)))],[(0,(lxB b a0)),(1002,(.rows true 78 5 (a0.L_.map e_api_Token)))]⟩) ?_ ?_
       ·refine .rn 1 ?_
        refine .cg (GOk.callV2 rfl rfl cl48 rfl (lex_lexer_next.ok h16) rfl) rfl rfl ?_
        refine .rn 1 ?_
        exact .dn
       refine Ok.test (b:=t15) rfl (fun hb21 => ?_) (fun hb21 => ?_)
       ·replace H:=ifT H hb21
        obtain⟨t17,h18,H⟩:=bindE H
        refine Ok.region (σ':=⟨[],[(0,(lxB b t17)),(1002,(.rows true 78 5 (t17.L_.map e_api_Token)))]⟩) ?_ ?_
        ·refine .rn 1 ?_
         refine OpsOk.cons rfl (OpOk.callT (e:=(.at b)) 0 1002 946 rfl rfl cl69 (fun b => ((lex_lexer_tag.ok h18) b)) rfl rfl rfl rfl rfl rfl rfl rfl) ?_
         exact .dn
        obtain rfl:=Option.some.inj H
        exact⟨.inr rfl,⟨_,.nil,rfl⟩,⟨.same _,.same _,.none _,trivial⟩⟩
       ·replace H:=ifF H hb21
        obtain⟨t19,h20,H⟩:=bindE H
        refine Ok.region (σ':=⟨[],[(0,(lxB b t19)),(1002,(.rows true 78 5 (t19.L_.map e_api_Token)))]⟩) ?_ ?_
        ·refine .rn 1 ?_
         refine OpsOk.cons rfl (OpOk.callT (e:=(.at b)) 0 1002 903 rfl rfl cl70 (fun b => ((lex_lexer_text.ok h20) b)) rfl rfl rfl rfl rfl rfl rfl rfl) ?_
         exact .dn
        obtain rfl:=Option.some.inj H
        exact⟨.inr rfl,⟨_,.nil,rfl⟩,⟨.same _,.same _,.none _,trivial⟩⟩
def lex_Tokens.l0 (k:Nat):Nat→List T_api_Token→Str→Int→Int→Int→List T_api_Token→Option ((List T_api_Token) × Int × Int)
 | 0,_,_,_,_,_,_ => none
 | m26 + 1,y2_0_14,y24_0_17,y24_1_18,y3_0_15,y4_0_16,y1482_19 => (if (decide (y24_1_18 < (y24_0_17.length:Int)))=true then ((lex_lexer_one k (T_lex_lexer.mk y24_0_17 y24_1_18 y1482_19)).bind fun (t27:T_lex_lexer) => lex_Tokens.l0 k m26 y2_0_14 t27.S_ t27.At_ y3_0_15 y4_0_16 t27.L_) else some (y1482_19,0,0))
def lex_Tokens (k:Nat) (a0:Str):Option ((List T_api_Token) × Int × Int):=(if (decide ((a0.length:Int) > 32768))=true then none else ((utf_Check k a0).bind fun (t1:Int) => (if (decide (t1 ≥ 0))=true then none else ((lex_char k a0).bind fun (t3:Int) => (if (decide (t3 ≥ 0))=true then none else ((lex_lexer_next (T_lex_lexer.mk a0 0 ([]:List T_api_Token)) ([60,63,120,109,108]:Str)).bind fun (t5:Bool) => (if (((t5 && (decide ((a0.length:Int) > 5))) == true)=true→(0:Int) ≤ 5 ∧ 5 < (a0.length:Int)) then (((if ((t5 && (decide ((a0.length:Int) > 5))) == true)=true then utf_Blank (bt a0 5) else some default)).bind fun (t11:Bool) => (if ((t5 && (decide ((a0.length:Int) > 5))) && t11)=true then none else lex_Tokens.l0 k k ([]:List T_api_Token) a0 0 0 0 ([]:List T_api_Token))) else none)))))))
theorem lex_Tokens.ok {k:Nat} {a0:Str} {r:(List T_api_Token) × Int × Int} (H:lex_Tokens k a0=some r):Vx.Fn Tryz.prog 37 [(S a0)] [] (.tup [(L 5 e_api_Token r.1),(.v (.int .i64 r.2.1)),(.v (.int .i64 r.2.2))]) []:=by
 unfold lex_Tokens at H
 refine Vx.Fn.of_okDf 47 3 Tryz.func37 rfl (Nat.le_of_ble_eq_true rfl) cl47 df47 ?_
 refine OkDf.seq ?_
 refine .rg [(0,(S a0)),(2,(.bref 2 0)),(3,(.bref 3 0)),(4,(.bref 4 0))] [(2,(.box .ex [(L 5 e_api_Token ([]:List T_api_Token))])),(3,(.box .ex [(.v (.int .i64 0))])),(4,(.box .ex [(.v (.int .i64 0))]))] ?_
 refine OkDf.seq ?_
 refine Ok.seq ?_
 refine .rg [(0,(S a0)),(2,(.bref 2 0)),(3,(.bref 3 0)),(4,(.bref 4 0)),(10,(.v (.bool (decide ((a0.length:Int) > 32768)))))] [(2,(.box .ex [(L 5 e_api_Token ([]:List T_api_Token))])),(3,(.box .ex [(.v (.int .i64 0))])),(4,(.box .ex [(.v (.int .i64 0))]))] ?_
 refine Ok.test (b:=(decide ((a0.length:Int) > 32768))) rfl (fun hb33 => ?_) (fun hb33 => ?_)
 ·replace H:=ifT H hb33
  cases H
 ·replace H:=ifF H hb33
  refine Ok.skip ?_
  refine OkDf.seq ?_
  refine Ok.seq ?_
  obtain⟨t1,h2,H⟩:=bindE H
  refine Ok.region (σ':=⟨[(0,(S a0)),(2,(.bref 2 0)),(3,(.bref 3 0)),(4,(.bref 4 0)),(5,(.v (.int .i64 t1)))],[(2,(.box .ex [(L 5 e_api_Token ([]:List T_api_Token))])),(3,(.box .ex [(.v (.int .i64 0))])),(4,(.box .ex [(.v (.int .i64 0))]))]⟩) ?_ ?_
  ·refine .rn 1 ?_
   refine .cg (GOk.call rfl rfl cl45 rfl (utf_Check.ok h2) rfl) rfl rfl ?_
   refine .rn 1 ?_
   exact .dn
  refine Ok.seq ?_
  refine .rg [(0,(S a0)),(2,(.bref 2 0)),(3,(.bref 3 0)),(4,(.bref 4 0)),(14,(.v (.bool (decide (t1 ≥ 0)))))] [(2,(.box .ex [(L 5 e_api_Token ([]:List T_api_Token))])),(3,(.box .ex [(.v (.int .i64 0))])),(4,(.box .ex [(.v (.int .i64 0))]))] ?_
  refine Ok.test (b:=(decide (t1 ≥ 0))) rfl (fun hb32 => ?_) (fun hb32 => ?_)
  ·replace H:=ifT H hb32
   cases H
  ·replace H:=ifF H hb32
   refine Ok.skip ?_
   refine OkDf.seq ?_
   refine Ok.seq ?_
   obtain⟨t3,h4,H⟩:=bindE H
   refine Ok.region (σ':=⟨[(0,(S a0)),(2,(.bref 2 0)),(3,(.bref 3 0)),(4,(.bref 4 0)),(6,(.v (.int .i64 t3)))],[(2,(.box .ex [(L 5 e_api_Token ([]:List T_api_Token))])),(3,(.box .ex [(.v (.int .i64 0))])),(4,(.box .ex [(.v (.int .i64 0))]))]⟩) ?_ ?_
   ·refine .rn 1 ?_
    refine .cg (GOk.call rfl rfl cl46 rfl (lex_char.ok h4) rfl) rfl rfl ?_
    refine .rn 1 ?_
    exact .dn
   refine Ok.seq ?_
   refine .rg [(0,(S a0)),(2,(.bref 2 0)),(3,(.bref 3 0)),(4,(.bref 4 0)),(19,(.v (.bool (decide (t3 ≥ 0)))))] [(2,(.box .ex [(L 5 e_api_Token ([]:List T_api_Token))])),(3,(.box .ex [(.v (.int .i64 0))])),(4,(.box .ex [(.v (.int .i64 0))]))] ?_
   refine Ok.test (b:=(decide (t3 ≥ 0))) rfl (fun hb31 => ?_) (fun hb31 => ?_)
   ·replace H:=ifT H hb31
    cases H
   ·replace H:=ifF H hb31
    refine Ok.skip ?_
    refine OkDf.defer rfl rfl rfl (Nat.le_of_ble_eq_true rfl) rfl rfl rfl rfl ?_
    refine Ok.le (σ':=⟨[(0,(S a0)),(2,(.bref 2 0)),(3,(.bref 3 0)),(4,(.bref 4 0))],[(2,(.box .ex [(L 5 e_api_Token ([]:List T_api_Token))])),(3,(.box .ex [(.v (.int .i64 0))])),(4,(.box .ex [(.v (.int .i64 0))]))]⟩) (.rf rfl rfl) ?_
    refine Ok.seq ?_
    refine Ok.region (σ':=⟨[(0,(S a0)),(2,(.bref 2 0)),(3,(.bref 3 0)),(4,(.bref 4 0)),(7,(.bref 24 0))],[(2,(.box .ex [(L 5 e_api_Token ([]:List T_api_Token))])),(3,(.box .ex [(.v (.int .i64 0))])),(4,(.box .ex [(.v (.int .i64 0))])),(24,(.box .ex [(S a0),(.v (.int .i64 0)),(.sref 1482)])),(1482,(.rows true 78 5 (([]:List T_api_Token).map e_api_Token)))]⟩) ?_ ?_
    ·refine .rn 1 ?_
     refine .cv (VOk.to (d':=(.agg [(S a0),(.v (.int .i64 0)),(.v (.slice none 0 0))])) (.build [none,none,none] [(0,1),(1,1),(2,1)] rfl Tryz.underlying94 (fa94 Tryz.underlying94) zo94 rfl rfl) rfl) rfl rfl ?_
     refine .rn 1 ?_
     refine OpsOk.sle (SLe.adopt 24 1482 2 78 5 rfl rfl rfl rfl rfl) ?_
     refine .rn 1 ?_
     exact .dn
    refine Ok.seq ?_
    refine Ok.seq ?_
    obtain⟨t5,h6,H⟩:=bindE H
    obtain⟨c10,H⟩:=assertE H
    obtain⟨t11,h12,H⟩:=bindE H
    refine Ok.region (σ':=⟨[(2,(.bref 2 0)),(3,(.bref 3 0)),(4,(.bref 4 0)),(7,(.bref 24 0)),(36,(.v (.bool ((t5 && (decide ((a0.length:Int) > 5))) && t11))))],[(2,(.box .ex [(L 5 e_api_Token ([]:List T_api_Token))])),(3,(.box .ex [(.v (.int .i64 0))])),(4,(.box .ex [(.v (.int .i64 0))])),(24,(.box .ex [(S a0),(.v (.int .i64 0)),(.sref 1482)])),(1482,(.rows true 78 5 (([]:List T_api_Token).map e_api_Token)))]⟩) ?_ ?_
    ·refine .rn 1 ?_
     refine .cg (GOk.callV2 rfl rfl cl48 rfl (lex_lexer_next.ok h6) rfl) rfl rfl ?_
     refine .rn 1 ?_
     refine OpsOk.consI rfl rfl rfl (.one rfl) rfl (fun hw7 => (VOk.g (VOk.mv (d:=(S a0)) rfl rfl))) ?_
     refine OpsOk.consI rfl rfl rfl (.one rfl) rfl (fun hw7 => (GOk.fr (fr':=[(28,(S a0))]) ⟨DLe.of_eq (cT hw7).symm,trivial⟩ (VOk.g (VOk.lenStr (s:=a0) rfl Tryz.underlying9 rfl)))) ?_
     refine OpsOk.consI rfl rfl rfl (.one rfl) rfl (fun hw7 => (GOk.fr (fr':=[(29,(.v (.int .i64 (a0.length:Int))))]) ⟨DLe.of_eq (cT hw7).symm,trivial⟩ (VOk.g (VOk.arith (op:=.gtr) (k:=.i64) (a:=(a0.length:Int)) (b:=5) rfl rfl rfl rfl)))) ?_
     refine .cv (VOk.to (VOk.pickI (b:=t5) (p:=(decide ((a0.length:Int) > 5))) (q:=false) rfl rfl (fun hp8 => (cT (t_beq hp8))) (fun hp8 => rfl)) (pickAnd t5 (decide ((a0.length:Int) > 5)))) rfl rfl ?_
     refine .rn 1 ?_
     refine OpsOk.consI rfl rfl rfl (.one rfl) rfl (fun hw9 => (VOk.g (VOk.mv (d:=(S a0)) rfl rfl))) ?_
     refine OpsOk.consI rfl rfl rfl (.one rfl) rfl (fun hw9 => (GOk.fr (fr':=[(33,(S a0))]) ⟨DLe.of_eq (cT hw9).symm,trivial⟩ (VOk.g (VOk.indexStr (s:=a0) (i:=5) rfl Tryz.underlying9 rfl rfl (c10 hw9))))) ?_
     refine OpsOk.consI rfl rfl rfl (.one rfl) rfl (fun hw9 => (GOk.fr (fr':=[(34,(.v (.int .u8 (bt a0 5))))]) ⟨DLe.of_eq (cT hw9).symm,trivial⟩ (GOk.call rfl rfl cl49 rfl (utf_Blank.ok (ifT h12 hw9)) rfl))) ?_
     refine .cv (VOk.to (VOk.pickI (b:=(t5 && (decide ((a0.length:Int) > 5)))) (p:=t11) (q:=false) rfl rfl (fun hp13 => (cT (t_beq hp13))) (fun hp13 => rfl)) (pickAnd (t5 && (decide ((a0.length:Int) > 5))) t11)) rfl rfl ?_
     exact .dn
    refine Ok.test (b:=((t5 && (decide ((a0.length:Int) > 5))) && t11)) rfl (fun hb30 => ?_) (fun hb30 => ?_)
    ·replace H:=ifT H hb30
     cases H
    ·replace H:=ifF H hb30
     refine Ok.skip ?_
     refine Ok.seq ?_
     refine Ok.block ?_
     refine Ok.le (σ':=⟨[(2,(.bref 2 0)),(3,(.bref 3 0)),(4,(.bref 4 0)),(7,(.bref 24 0))],[(2,(.box .ex [(L 5 e_api_Token ([]:List T_api_Token))])),(3,(.box .ex [(.v (.int .i64 0))])),(4,(.box .ex [(.v (.int .i64 0))])),(24,(.box .ex [(S a0),(.v (.int .i64 0)),(.sref 1482)])),(1482,(.rows true 78 5 (([]:List T_api_Token).map e_api_Token)))]⟩) (.rf rfl rfl) ?_
     refine Ok.loop (fun m26 σ => ∃ (y2_0_14:List T_api_Token) (y24_0_17:Str) (y24_1_18:Int) (y3_0_15:Int) (y4_0_16:Int) (y1482_19:List T_api_Token),σ=⟨[(2,(.bref 2 0)),(3,(.bref 3 0)),(4,(.bref 4 0)),(7,(.bref 24 0))],[(2,(.box .ex [(L 5 e_api_Token y2_0_14)])),(3,(.box .ex [(.v (.int .i64 y3_0_15))])),(4,(.box .ex [(.v (.int .i64 y4_0_16))])),(24,(.box .ex [(S y24_0_17),(.v (.int .i64 y24_1_18)),(.sref 1482)])),(1482,(.rows true 78 5 (y1482_19.map e_api_Token)))]⟩ ∧ lex_Tokens.l0 k m26 y2_0_14 y24_0_17 y24_1_18 y3_0_15 y4_0_16 y1482_19=some r) k ⟨([]:List T_api_Token),a0,0,0,0,([]:List T_api_Token),rfl,H⟩ ?_
     rintro m26 σ ⟨y2_0_14,y24_0_17,y24_1_18,y3_0_15,y4_0_16,y1482_19,rfl,H⟩
     cases m26 with
     | zero => exact absurd H (by simp [lex_Tokens.l0])
     | succ m26 =>
      unfold lex_Tokens.l0 at H
      refine Ok.seq ?_
      refine Ok.seq ?_
      refine .dA [(2,(.bref 2 0)),(3,(.bref 3 0)),(4,(.bref 4 0)),(7,(.bref 24 0)),(48,(.v (.bool (decide (y24_1_18 < (y24_0_17.length:Int))))))] [(2,(.box .ex [(L 5 e_api_Token y2_0_14)])),(3,(.box .ex [(.v (.int .i64 y3_0_15))])),(4,(.box .ex [(.v (.int .i64 y4_0_16))])),(24,(.box .ex [(S y24_0_17),(.v (.int .i64 y24_1_18)),(.sref 1482)])),(1482,(.rows true 78 5 (y1482_19.map e_api_Token)))] [[],[0],[1],[2],[],[4],[5],[6],[7],[3,8]] mixed ?_ ?_
      ·refine .tn 8 ?_
       refine .tc (VOk.g (VOk.lenStr (s:=y24_0_17) rfl Tryz.underlying9 rfl)) ?_
       refine .tn 1 ?_
       exact .dn
      refine Ok.test (b:=(decide (y24_1_18 < (y24_0_17.length:Int)))) rfl (fun hb29 => ?_) (fun hb29 => ?_)
      ·replace H:=ifT H hb29
       refine Ok.skip ?_
       refine Ok.block ?_
       obtain⟨t27,h28,H⟩:=bindE H
       refine Ok.region (σ':=⟨[(2,(.bref 2 0)),(3,(.bref 3 0)),(4,(.bref 4 0)),(7,(.bref 24 0))],[(2,(.box .ex [(L 5 e_api_Token y2_0_14)])),(3,(.box .ex [(.v (.int .i64 y3_0_15))])),(4,(.box .ex [(.v (.int .i64 y4_0_16))])),(24,(.box .ex [(S t27.S_),(.v (.int .i64 t27.At_)),(.sref 1482)])),(1482,(.rows true 78 5 (t27.L_.map e_api_Token)))]⟩) ?_ ?_
       ·refine .rn 1 ?_
        refine OpsOk.cons rfl (OpOk.callT (e:=.ex) 24 1482 950 rfl rfl cl51 (fun b => ((lex_lexer_one.ok h28) b)) rfl rfl rfl rfl rfl rfl rfl rfl) ?_
        exact .dn
       exact⟨m26,Nat.lt_succ_self m26,y2_0_14,t27.S_,t27.At_,y3_0_15,y4_0_16,t27.L_,rfl,H⟩
      ·replace H:=ifF H hb29
       refine Ok.exit ?_
       refine Ok.seq ?_
       refine .rg [(2,(.bref 2 0)),(3,(.bref 3 0)),(4,(.bref 4 0))] [(2,(.box .ex [(.sref 1482)])),(3,(.box .ex [(.v (.int .i64 0))])),(4,(.box .ex [(.v (.int .i64 0))])),(1482,(.rows true 78 5 (y1482_19.map e_api_Token)))] ?_
       refine Ok.frzL 1482 (e:=e_api_Token) (xs:=y1482_19) rfl ?_
       refine Ok.ret ?_
       obtain rfl:=Option.some.inj H
       exact⟨.inl rfl,⟨_,(.cons (.cell (VOk.loadB (d:=(L 5 e_api_Token y1482_19)) rfl Tryz.underlying69 rfl rfl rfl rfl)) (.cons (.cell (VOk.loadB (d:=(.v (.int .i64 0))) rfl Tryz.underlying3 rfl rfl rfl rfl)) (.cons (.cell (VOk.loadB (d:=(.v (.int .i64 0))) rfl Tryz.underlying32 rfl rfl rfl rfl)) .nil))),rfl⟩,trivial⟩
def tree_builder_count (a0:T_tree_builder):Option (Bool × T_tree_builder):=some ((decide ((IntKind.i64.wrap (a0.Nodes_ + 1)) ≤ 2000)),(T_tree_builder.mk a0.Open_ (T_api_Node.mk a0.Root_.Kind (T_api_Name.mk a0.Root_.Name.Space a0.Root_.Name.Local) a0.Root_.Attrs a0.Root_.Kids a0.Root_.Text) a0.Done_ (IntKind.i64.wrap (a0.Nodes_ + 1))))
theorem tree_builder_count.ok {a0:T_tree_builder} {r:Bool × T_tree_builder} (H:tree_builder_count a0=some r) (b:Nat):Vx.Fn Tryz.prog 71 [(.bref 0 0)] [(0,(tbB b a0)),(1000,(.rows true 117 8 (a0.Open_.map e_tree_frame)))] (.v (.bool r.1)) [(0,(tbB b r.2)),(1000,(.rows true 117 8 (r.2.Open_.map e_tree_frame))),(999,.none)]:=by
 unfold tree_builder_count at H
 refine Vx.Fn.of_okR Tryz.func71 rfl (Nat.le_of_ble_eq_true rfl) ?_
 refine Ok.seq ?_
 refine .rg [(0,(.bref 0 0))] [(0,(tbB b a0)),(1000,(.rows true 117 8 (a0.Open_.map e_tree_frame)))] ?_
 refine Ok.seq ?_
 refine .rg [(0,(.bref 0 0))] [(0,(.box (.at b) [(.sref 1000),(.v (.int .i64 a0.Root_.Kind)),(S a0.Root_.Name.Space),(S a0.Root_.Name.Local),(L 3 e_api_Attr a0.Root_.Attrs),(L 6 e_api_Node a0.Root_.Kids),(S a0.Root_.Text),(.v (.bool a0.Done_)),(.v (.int .i64 (IntKind.i64.wrap (a0.Nodes_ + 1))))])),(1000,(.rows true 117 8 (a0.Open_.map e_tree_frame)))] ?_
 refine Ok.seq ?_
 refine .rg [(2,(.v (.bool (decide ((IntKind.i64.wrap (a0.Nodes_ + 1)) ≤ 2000)))))] [(0,(.box (.at b) [(.sref 1000),(.v (.int .i64 a0.Root_.Kind)),(S a0.Root_.Name.Space),(S a0.Root_.Name.Local),(L 3 e_api_Attr a0.Root_.Attrs),(L 6 e_api_Node a0.Root_.Kids),(S a0.Root_.Text),(.v (.bool a0.Done_)),(.v (.int .i64 (IntKind.i64.wrap (a0.Nodes_ + 1))))])),(1000,(.rows true 117 8 (a0.Open_.map e_tree_frame)))] ?_
 refine Ok.ret ?_
 obtain rfl:=Option.some.inj H
 exact⟨.inl rfl,⟨_,(.cons (.tmp rfl) .nil),rfl⟩,⟨.same _,.same _,.none _,trivial⟩⟩
def slices_Clone_94 (a0:List T_api_Bind):Option (List T_api_Bind):=(if (([]:List T_api_Bind).length + a0.length) * 32 ≤ 140737488355328 then some (([]:List T_api_Bind) ++ a0) else none)
theorem slices_Clone_94.ok {a0:List T_api_Bind} {r:(List T_api_Bind)} (H:slices_Clone_94 a0=some r):Vx.Fn Tryz.prog 94 [(L 2 e_api_Bind a0)] [] (L 2 e_api_Bind r) []:=by
 unfold slices_Clone_94 at H
 refine Vx.Fn.of_okR Tryz.func94 rfl (Nat.le_of_ble_eq_true rfl) ?_
 refine Ok.seq ?_
 refine .rg [(0,(L 2 e_api_Bind a0))] [] ?_
 refine Ok.seq ?_
 refine Ok.seq ?_
 refine Ok.regionB (X:=fun b => b=true→a0=[]) (σ':=fun nb1 =>⟨[(0,(L 2 e_api_Bind a0)),(4,(.v (.bool nb1)))],[]⟩) ?_ (fun nb1 hnb1 => ?_)
 ·refine OpsB.cons rfl (.v (VOk.mv (d:=(L 2 e_api_Bind a0)) rfl rfl) rfl) ?_
  exact .last rfl (BOk.eqNil (E:=e_api_Bind) (xs:=a0) rfl Tryz.underlying108 rfl) rfl (fun nb1 => (.rf rfl rfl))
 refine Ok.test (b:=nb1) rfl (fun hb3 => ?_) (fun hb3 => ?_)
 ·replace H:some ([]:List T_api_Bind)=some r:=nilH (hnb1 hb3) H (fun h => by (try rw [h]); rfl)
  refine Ok.seq ?_
  refine .rg [(2,(.v (.slice none 0 0)))] [] ?_
  refine Ok.le (σ':=⟨[(2,(L 2 e_api_Bind ([]:List T_api_Bind)))],[]⟩) (.mk ⟨.nil _,trivial⟩ trivial) ?_
  refine Ok.ret ?_
  obtain rfl:=Option.some.inj H
  exact⟨.inl rfl,⟨_,(.cons (.tmp rfl) .nil),rfl⟩,trivial⟩
 ·refine Ok.skip ?_
  refine Ok.seq ?_
  obtain⟨c2,H⟩:=assertE H
  refine Ok.region (σ':=⟨[(2,(L 2 e_api_Bind (([]:List T_api_Bind) ++ a0)))],[]⟩) ?_ ?_
  ·refine .cg (GOk.to (d':=(.clist 2 (List.map e_api_Bind ([]:List T_api_Bind)))) (GOk.litC rfl Tryz.underlying108 sz139 zs139 rfl rfl rfl rfl) rfl) rfl rfl ?_
   refine .rn 1 ?_
   refine .cg (GOk.appendC (e:=e_api_Bind) (xs:=([]:List T_api_Bind)) (ys:=a0) rfl Tryz.underlying108 elt139 (.same _) rfl c2) rfl rfl ?_
   refine .rn 1 ?_
   exact .dn
  refine Ok.ret ?_
  obtain rfl:=Option.some.inj H
  exact⟨.inl rfl,⟨_,(.cons (.tmp rfl) .nil),rfl⟩,trivial⟩
def stringslite_CutPrefix (a0:Str) (a1:Str):Option (Str × Bool):=((stringslite_HasPrefix a0 a1).bind fun (t1:Bool) => (if (!t1)=true then some (a0,false) else none))
theorem stringslite_CutPrefix.ok {a0:Str} {a1:Str} {r:Str × Bool} (H:stringslite_CutPrefix a0 a1=some r):Vx.Fn Tryz.prog 127 [(S a0),(S a1)] [] (.tup [(S r.1),(.v (.bool r.2))]) []:=by
 unfold stringslite_CutPrefix at H
 refine Vx.Fn.of_okR Tryz.func127 rfl (Nat.le_of_ble_eq_true rfl) ?_
 refine Ok.seq ?_
 refine .rg [(0,(S a0)),(1,(S a1))] [] ?_
 refine Ok.seq ?_
 refine Ok.seq ?_
 obtain⟨t1,h2,H⟩:=bindE H
 refine Ok.region (σ':=⟨[(0,(S a0)),(9,(.v (.bool (!t1))))],[]⟩) ?_ ?_
 ·refine .rn 2 ?_
  refine .cg (GOk.call rfl rfl cl81 rfl (stringslite_HasPrefix.ok h2) rfl) rfl rfl ?_
  refine .rn 1 ?_
  exact .dn
 refine Ok.test (b:=(!t1)) rfl (fun hb3 => ?_) (fun hb3 => ?_)
 ·replace H:=ifT H hb3
  refine Ok.seq ?_
  refine .rg [(4,(S a0)),(5,(.v (.bool false)))] [] ?_
  refine Ok.ret ?_
  obtain rfl:=Option.some.inj H
  exact⟨.inl rfl,⟨_,(.cons (.tmp rfl) (.cons (.tmp rfl) .nil)),rfl⟩,trivial⟩
 ·replace H:=ifF H hb3
  cases H
def strings_CutPrefix (a0:Str) (a1:Str):Option (Str × Bool):=((stringslite_CutPrefix a0 a1).bind fun (t1:Str × Bool) => some (t1.1,t1.2))
theorem strings_CutPrefix.ok {a0:Str} {a1:Str} {r:Str × Bool} (H:strings_CutPrefix a0 a1=some r):Vx.Fn Tryz.prog 109 [(S a0),(S a1)] [] (.tup [(S r.1),(.v (.bool r.2))]) []:=by
 unfold strings_CutPrefix at H
 refine Vx.Fn.of_okR Tryz.func109 rfl (Nat.le_of_ble_eq_true rfl) ?_
 refine Ok.seq ?_
 refine .rg [(0,(S a0)),(1,(S a1))] [] ?_
 refine Ok.seq ?_
 obtain⟨t1,h2,H⟩:=bindE H
 refine Ok.region (σ':=⟨[(4,(S t1.1)),(5,(.v (.bool t1.2)))],[]⟩) ?_ ?_
 ·refine .rn 2 ?_
  refine .cg (GOk.call rfl rfl cl127 rfl (stringslite_CutPrefix.ok h2) rfl) rfl rfl ?_
  refine .rn 4 ?_
  exact .dn
 refine Ok.ret ?_
 obtain rfl:=Option.some.inj H
 exact⟨.inl rfl,⟨_,(.cons (.tmp rfl) (.cons (.tmp rfl) .nil)),rfl⟩,trivial⟩
def qname_declares (a0:Str):Option (Str × Bool):=(if (a0 == ([120,109,108,110,115]:Str))=true then some (([]:Str),true) else ((strings_CutPrefix a0 ([120,109,108,110,115,58]:Str)).bind fun (t1:Str × Bool) => some (t1.1,t1.2)))
theorem qname_declares.ok {a0:Str} {r:Str × Bool} (H:qname_declares a0=some r):Vx.Fn Tryz.prog 95 [(S a0)] [] (.tup [(S r.1),(.v (.bool r.2))]) []:=by
 unfold qname_declares at H
 refine Vx.Fn.of_okR Tryz.func95 rfl (Nat.le_of_ble_eq_true rfl) ?_
 refine Ok.seq ?_
 refine .rg [(0,(S a0))] [] ?_
 refine Ok.seq ?_
 refine Ok.seq ?_
 refine .rg [(0,(S a0)),(5,(.v (.bool (a0 == ([120,109,108,110,115]:Str)))))] [] ?_
 refine Ok.test (b:=(a0 == ([120,109,108,110,115]:Str))) rfl (fun hb3 => ?_) (fun hb3 => ?_)
 ·replace H:=ifT H hb3
  refine Ok.seq ?_
  refine .rg [(2,S0),(3,(.v (.bool true)))] [] ?_
  refine Ok.ret ?_
  obtain rfl:=Option.some.inj H
  exact⟨.inl rfl,⟨_,(.cons (.tmp rfl) (.cons (.tmp rfl) .nil)),rfl⟩,trivial⟩
 ·replace H:=ifF H hb3
  refine Ok.skip ?_
  refine Ok.seq ?_
  obtain⟨t1,h2,H⟩:=bindE H
  refine Ok.region (σ':=⟨[(2,(S t1.1)),(3,(.v (.bool t1.2)))],[]⟩) ?_ ?_
  ·refine .rn 1 ?_
   refine .cg (GOk.call rfl rfl cl109 rfl (strings_CutPrefix.ok h2) rfl) rfl rfl ?_
   refine .rn 4 ?_
   exact .dn
  refine Ok.ret ?_
  obtain rfl:=Option.some.inj H
  exact⟨.inl rfl,⟨_,(.cons (.tmp rfl) (.cons (.tmp rfl) .nil)),rfl⟩,trivial⟩
def utf_Start (k:Nat) (a0:Int):Option Bool:=((utf_within k a0 ([(T_utf_span.mk 65 90),(T_utf_span.mk 97 122),(T_utf_span.mk 95 95),(T_utf_span.mk 192 214),(T_utf_span.mk 216 246),(T_utf_span.mk 248 767),(T_utf_span.mk 880 893),(T_utf_span.mk 895 8191),(T_utf_span.mk 8204 8205),(T_utf_span.mk 8304 8591),(T_utf_span.mk 11264 12271),(T_utf_span.mk 12289 55295),(T_utf_span.mk 63744 64975),(T_utf_span.mk 65008 65533),(T_utf_span.mk 65536 983039)]:List T_utf_span)).bind fun (t1:Bool) => some t1)
theorem utf_Start.ok {k:Nat} {a0:Int} {r:Bool} (H:utf_Start k a0=some r):Vx.Fn Tryz.prog 101 [(.v (.int .i32 a0))] [] (.v (.bool r)) []:=by
 unfold utf_Start at H
 refine Vx.Fn.of_okR Tryz.func101 rfl (Nat.le_of_ble_eq_true rfl) ?_
 refine Ok.seq ?_
 refine .rg [(0,(.v (.int .i32 a0)))] [] ?_
 refine Ok.seq ?_
 obtain⟨t1,h2,H⟩:=bindE H
 refine Ok.region (σ':=⟨[(2,(.v (.bool t1)))],[]⟩) ?_ ?_
 ·refine .rn 1 ?_
  refine .cv (VOk.to (d':=(.agg (e_utf_span (T_utf_span.mk 65 90)))) (.build [none,none] [(0,1),(1,1)] rfl Tryz.underlying126 (fa126 Tryz.underlying126) zo126 rfl rfl) rfl) rfl rfl ?_
  refine .cv (VOk.to (d':=(.agg (e_utf_span (T_utf_span.mk 97 122)))) (.build [none,none] [(0,1),(1,1)] rfl Tryz.underlying126 (fa126 Tryz.underlying126) zo126 rfl rfl) rfl) rfl rfl ?_
  refine .cv (VOk.to (d':=(.agg (e_utf_span (T_utf_span.mk 95 95)))) (.build [none,none] [(0,1),(1,1)] rfl Tryz.underlying126 (fa126 Tryz.underlying126) zo126 rfl rfl) rfl) rfl rfl ?_
  refine .cv (VOk.to (d':=(.agg (e_utf_span (T_utf_span.mk 192 214)))) (.build [none,none] [(0,1),(1,1)] rfl Tryz.underlying126 (fa126 Tryz.underlying126) zo126 rfl rfl) rfl) rfl rfl ?_
  refine .cv (VOk.to (d':=(.agg (e_utf_span (T_utf_span.mk 216 246)))) (.build [none,none] [(0,1),(1,1)] rfl Tryz.underlying126 (fa126 Tryz.underlying126) zo126 rfl rfl) rfl) rfl rfl ?_
  refine .cv (VOk.to (d':=(.agg (e_utf_span (T_utf_span.mk 248 767)))) (.build [none,none] [(0,1),(1,1)] rfl Tryz.underlying126 (fa126 Tryz.underlying126) zo126 rfl rfl) rfl) rfl rfl ?_
  refine .cv (VOk.to (d':=(.agg (e_utf_span (T_utf_span.mk 880 893)))) (.build [none,none] [(0,1),(1,1)] rfl Tryz.underlying126 (fa126 Tryz.underlying126) zo126 rfl rfl) rfl) rfl rfl ?_
  refine .cv (VOk.to (d':=(.agg (e_utf_span (T_utf_span.mk 895 8191)))) (.build [none,none] [(0,1),(1,1)] rfl Tryz.underlying126 (fa126 Tryz.underlying126) zo126 rfl rfl) rfl) rfl rfl ?_
  refine .cv (VOk.to (d':=(.agg (e_utf_span (T_utf_span.mk 8204 8205)))) (.build [none,none] [(0,1),(1,1)] rfl Tryz.underlying126 (fa126 Tryz.underlying126) zo126 rfl rfl) rfl) rfl rfl ?_
  refine .cv (VOk.to (d':=(.agg (e_utf_span (T_utf_span.mk 8304 8591)))) (.build [none,none] [(0,1),(1,1)] rfl Tryz.underlying126 (fa126 Tryz.underlying126) zo126 rfl rfl) rfl) rfl rfl ?_
  refine .cv (VOk.to (d':=(.agg (e_utf_span (T_utf_span.mk 11264 12271)))) (.build [none,none] [(0,1),(1,1)] rfl Tryz.underlying126 (fa126 Tryz.underlying126) zo126 rfl rfl) rfl) rfl rfl ?_
  refine .cv (VOk.to (d':=(.agg (e_utf_span (T_utf_span.mk 12289 55295)))) (.build [none,none] [(0,1),(1,1)] rfl Tryz.underlying126 (fa126 Tryz.underlying126) zo126 rfl rfl) rfl) rfl rfl ?_
  refine .cv (VOk.to (d':=(.agg (e_utf_span (T_utf_span.mk 63744 64975)))) (.build [none,none] [(0,1),(1,1)] rfl Tryz.underlying126 (fa126 Tryz.underlying126) zo126 rfl rfl) rfl) rfl rfl ?_
  refine .cv (VOk.to (d':=(.agg (e_utf_span (T_utf_span.mk 65008 65533)))) (.build [none,none] [(0,1),(1,1)] rfl Tryz.underlying126 (fa126 Tryz.underlying126) zo126 rfl rfl) rfl) rfl rfl ?_
  refine .cv (VOk.to (d':=(.agg (e_utf_span (T_utf_span.mk 65536 983039)))) (.build [none,none] [(0,1),(1,1)] rfl Tryz.underlying126 (fa126 Tryz.underlying126) zo126 rfl rfl) rfl) rfl rfl ?_
  refine .cg (GOk.to (d':=(L 2 e_utf_span ([(T_utf_span.mk 65 90),(T_utf_span.mk 97 122),(T_utf_span.mk 95 95),(T_utf_span.mk 192 214),(T_utf_span.mk 216 246),(T_utf_span.mk 248 767),(T_utf_span.mk 880 893),(T_utf_span.mk 895 8191),(T_utf_span.mk 8204 8205),(T_utf_span.mk 8304 8591),(T_utf_span.mk 11264 12271),(T_utf_span.mk 12289 55295),(T_utf_span.mk 63744 64975),(T_utf_span.mk 65008 65533),(T_utf_span.mk 65536 983039)]:List T_utf_span))) (GOk.lit rfl Tryz.underlying149 sz126 zs126 rfl rfl rfl rfl) rfl) rfl rfl ?_
  refine .cg (GOk.call rfl rfl cl80 rfl (utf_within.ok h2) rfl) rfl rfl ?_
  refine .rn 1 ?_
  exact .dn
 refine Ok.ret ?_
 obtain rfl:=Option.some.inj H
 exact⟨.inl rfl,⟨_,(.cons (.tmp rfl) .nil),rfl⟩,trivial⟩
def utf_Part (k:Nat) (a0:Int):Option Bool:=((utf_Start k a0).bind fun (t1:Bool) => (((if (t1 == false)=true then utf_within k a0 ([(T_utf_span.mk 45 46),(T_utf_span.mk 48 57),(T_utf_span.mk 183 183),(T_utf_span.mk 768 879),(T_utf_span.mk 8255 8256)]:List T_utf_span) else some default)).bind fun (t4:Bool) => some (t1 || t4)))
theorem utf_Part.ok {k:Nat} {a0:Int} {r:Bool} (H:utf_Part k a0=some r):Vx.Fn Tryz.prog 84 [(.v (.int .i32 a0))] [] (.v (.bool r)) []:=by
 unfold utf_Part at H
 refine Vx.Fn.of_okR Tryz.func84 rfl (Nat.le_of_ble_eq_true rfl) ?_
 refine Ok.seq ?_
 refine .rg [(0,(.v (.int .i32 a0)))] [] ?_
 refine Ok.seq ?_
 obtain⟨t1,h2,H⟩:=bindE H
 obtain⟨t4,h5,H⟩:=bindE H
 refine Ok.region (σ':=⟨[(2,(.v (.bool (t1 || t4))))],[]⟩) ?_ ?_
 ·refine .rn 1 ?_
  refine .cg (GOk.call rfl rfl cl101 rfl (utf_Start.ok h2) rfl) rfl rfl ?_
  refine .rn 1 ?_
  refine OpsOk.consI rfl rfl rfl (.one rfl) rfl (fun hw3 => (VOk.g (VOk.mv (d:=(.v (.int .i32 a0))) rfl rfl))) ?_
  refine OpsOk.consI rfl rfl rfl (.one rfl) rfl (fun hw3 => (VOk.g (VOk.to (d':=(.agg (e_utf_span (T_utf_span.mk 45 46)))) (.build [none,none] [(0,1),(1,1)] rfl Tryz.underlying126 (fa126 Tryz.underlying126) zo126 rfl rfl) rfl))) ?_
  refine OpsOk.consI rfl rfl rfl (.one rfl) rfl (fun hw3 => (VOk.g (VOk.to (d':=(.agg (e_utf_span (T_utf_span.mk 48 57)))) (.build [none,none] [(0,1),(1,1)] rfl Tryz.underlying126 (fa126 Tryz.underlying126) zo126 rfl rfl) rfl))) ?_
  refine OpsOk.consI rfl rfl rfl (.one rfl) rfl (fun hw3 => (VOk.g (VOk.to (d':=(.agg (e_utf_span (T_utf_span.mk 183 183)))) (.build [none,none] [(0,1),(1,1)] rfl Tryz.underlying126 (fa126 Tryz.underlying126) zo126 rfl rfl) rfl))) ?_
  refine OpsOk.consI rfl rfl rfl (.one rfl) rfl (fun hw3 => (VOk.g (VOk.to (d':=(.agg (e_utf_span (T_utf_span.mk 768 879)))) (.build [none,none] [(0,1),(1,1)] rfl Tryz.underlying126 (fa126 Tryz.underlying126) zo126 rfl rfl) rfl))) ?_
  refine OpsOk.consI rfl rfl rfl (.one rfl) rfl (fun hw3 => (VOk.g (VOk.to (d':=(.agg (e_utf_span (T_utf_span.mk 8255 8256)))) (.build [none,none] [(0,1),(1,1)] rfl Tryz.underlying126 (fa126 Tryz.underlying126) zo126 rfl rfl) rfl))) ?_
  refine OpsOk.consI rfl rfl rfl (.one rfl) rfl (fun hw3 => (GOk.fr (fr':=[(7,(.agg (e_utf_span (T_utf_span.mk 45 46)))),(8,(.agg (e_utf_span (T_utf_span.mk 48 57)))),(9,(.agg (e_utf_span (T_utf_span.mk 183 183)))),(10,(.agg (e_utf_span (T_utf_span.mk 768 879)))),(11,(.agg (e_utf_span (T_utf_span.mk 8255 8256))))]) ⟨DLe.of_eq (cT hw3).symm,DLe.of_eq (cT hw3).symm,DLe.of_eq (cT hw3).symm,DLe.of_eq (cT hw3).symm,DLe.of_eq (cT hw3).symm,trivial⟩ (GOk.to (d':=(L 2 e_utf_span ([(T_utf_span.mk 45 46),(T_utf_span.mk 48 57),(T_utf_span.mk 183 183),(T_utf_span.mk 768 879),(T_utf_span.mk 8255 8256)]:List T_utf_span))) (GOk.lit rfl Tryz.underlying149 sz126 zs126 rfl rfl rfl rfl) rfl))) ?_
  refine OpsOk.consI rfl rfl rfl (.one rfl) rfl (fun hw3 => (GOk.fr (fr':=[(6,(.v (.int .i32 a0))),(12,(L 2 e_utf_span ([(T_utf_span.mk 45 46),(T_utf_span.mk 48 57),(T_utf_span.mk 183 183),(T_utf_span.mk 768 879),(T_utf_span.mk 8255 8256)]:List T_utf_span)))]) ⟨DLe.of_eq (cT hw3).symm,DLe.of_eq (cT hw3).symm,trivial⟩ (GOk.call rfl rfl cl80 rfl (utf_within.ok (ifT h5 hw3)) rfl))) ?_
  refine .cv (VOk.to (VOk.pickI (b:=t1) (p:=true) (q:=t4) rfl rfl (fun hp6 => rfl) (fun hp6 => (cT (f_beq hp6)))) (pickOr t1 t4)) rfl rfl ?_
  refine .rn 1 ?_
  exact .dn
 refine Ok.ret ?_
 obtain rfl:=Option.some.inj H
 exact⟨.inl rfl,⟨_,(.cons (.tmp rfl) .nil),rfl⟩,trivial⟩
def utf_Name.l0 (k:Nat) (a0:Str):Nat→Nat→Int→Option Bool
 | 0,_,_ => none
 | m10 + 1,x3_6,x4_7 => (if (decide (x4_7 < (a0.length:Int)))=true then ((utf_Rune k a0 x4_7).bind fun (t11:Int × Int) => (((if ((t11.2 == 0) == false)=true then (if x3_6=84 then utf_Part k t11.1 else (if x3_6=101 then utf_Start k t11.1 else none)) else some default)).bind fun (t14:Bool) => (if ((t11.2 == 0) || (!t14))=true then none else utf_Name.l0 k a0 m10 84 (IntKind.i64.wrap (x4_7 + t11.2))))) else some true)
def utf_Name (k:Nat) (a0:Str):Option Bool:=(if ((a0 == ([]:Str)) || (decide ((a0.length:Int) > 64)))=true then none else utf_Name.l0 k a0 k 101 0)
theorem utf_Name.ok {k:Nat} {a0:Str} {r:Bool} (H:utf_Name k a0=some r):Vx.Fn Tryz.prog 85 [(S a0)] [] (.v (.bool r)) []:=by
 unfold utf_Name at H
 refine Vx.Fn.of_okR Tryz.func85 rfl (Nat.le_of_ble_eq_true rfl) ?_
 refine Ok.seq ?_
 refine .rg [(0,(S a0))] [] ?_
 refine Ok.seq ?_
 refine Ok.seq ?_
 refine Ok.region (σ':=⟨[(0,(S a0)),(13,(.v (.bool ((a0 == ([]:Str)) || (decide ((a0.length:Int) > 64))))))],[]⟩) ?_ ?_
 ·refine .rn 3 ?_
  refine OpsOk.consI rfl rfl rfl (.one rfl) rfl (fun hw1 => (VOk.g (VOk.mv (d:=(S a0)) rfl rfl))) ?_
  refine OpsOk.consI rfl rfl rfl (.one rfl) rfl (fun hw1 => (GOk.fr (fr':=[(10,(S a0))]) ⟨DLe.of_eq (cT hw1).symm,trivial⟩ (VOk.g (VOk.lenStr (s:=a0) rfl Tryz.underlying9 rfl)))) ?_
  refine OpsOk.consI rfl rfl rfl (.one rfl) rfl (fun hw1 => (GOk.fr (fr':=[(11,(.v (.int .i64 (a0.length:Int))))]) ⟨DLe.of_eq (cT hw1).symm,trivial⟩ (VOk.g (VOk.arith (op:=.gtr) (k:=.i64) (a:=(a0.length:Int)) (b:=64) rfl rfl rfl rfl)))) ?_
  refine .cv (VOk.to (VOk.pickI (b:=(a0 == ([]:Str))) (p:=true) (q:=(decide ((a0.length:Int) > 64))) rfl rfl (fun hp2 => rfl) (fun hp2 => (cT (f_beq hp2)))) (pickOr (a0 == ([]:Str)) (decide ((a0.length:Int) > 64)))) rfl rfl ?_
  exact .dn
 refine Ok.test (b:=((a0 == ([]:Str)) || (decide ((a0.length:Int) > 64)))) rfl (fun hb19 => ?_) (fun hb19 => ?_)
 ·replace H:=ifT H hb19
  cases H
 ·replace H:=ifF H hb19
  refine Ok.skip ?_
  refine Ok.seq ?_
  refine .rg [(0,(S a0)),(3,(.clo 101 []))] [] ?_
  refine Ok.seq ?_
  refine Ok.seq ?_
  refine .rg [(0,(S a0)),(3,(.clo 101 [])),(4,(.v (.int .i64 0)))] [] ?_
  refine Ok.block ?_
  refine Ok.loop (fun m10 σ => ∃ (x3_6:Nat) (x4_7:Int),σ=⟨[(0,(S a0)),(3,(.clo x3_6 [])),(4,(.v (.int .i64 x4_7)))],[]⟩ ∧ utf_Name.l0 k a0 m10 x3_6 x4_7=some r) k ⟨101,0,rfl,H⟩ ?_
  rintro m10 σ ⟨x3_6,x4_7,rfl,H⟩
  cases m10 with
  | zero => exact absurd H (by simp [utf_Name.l0])
  | succ m10 =>
   unfold utf_Name.l0 at H
   refine Ok.seq ?_
   refine Ok.seq ?_
   refine .rg [(0,(S a0)),(3,(.clo x3_6 [])),(4,(.v (.int .i64 x4_7))),(17,(.v (.bool (decide (x4_7 < (a0.length:Int))))))] [] ?_
   refine Ok.test (b:=(decide (x4_7 < (a0.length:Int)))) rfl (fun hb18 => ?_) (fun hb18 => ?_)
   ·replace H:=ifT H hb18
    refine Ok.skip ?_
    refine Ok.seq ?_
    refine Ok.block ?_
    refine Ok.seq ?_
    obtain⟨t11,h12,H⟩:=bindE H
    refine Ok.region (σ':=⟨[(0,(S a0)),(3,(.clo x3_6 [])),(4,(.v (.int .i64 x4_7))),(5,(.v (.int .i32 t11.1))),(6,(.v (.int .i64 t11.2)))],[]⟩) ?_ ?_
    ·refine .rn 2 ?_
     refine .cg (GOk.call rfl rfl cl59 rfl (utf_Rune.ok h12) rfl) rfl rfl ?_
     refine .rn 5 ?_
     exact .dn
    refine Ok.seq ?_
    refine Ok.seq ?_
    obtain⟨t14,h15,H⟩:=bindE H
    refine Ok.region (σ':=⟨[(0,(S a0)),(4,(.v (.int .i64 x4_7))),(6,(.v (.int .i64 t11.2))),(31,(.v (.bool ((t11.2 == 0) || (!t14)))))],[]⟩) ?_ ?_
    ·refine .rn 3 ?_
     refine OpsOk.consI rfl rfl rfl (.one rfl) rfl (fun hw13 => (VOk.g (VOk.mv (d:=(.clo x3_6 [])) rfl rfl))) ?_
     refine OpsOk.consI rfl rfl rfl (.one rfl) rfl (fun hw13 => (VOk.g (VOk.mv (d:=(.v (.int .i32 t11.1))) rfl rfl))) ?_
     refine OpsOk.consI rfl rfl rfl (.one rfl) rfl (fun hw13 => (GOk.fr (fr':=[(27,(.clo x3_6 [])),(28,(.v (.int .i32 t11.1)))]) ⟨DLe.of_eq (cT hw13).symm,DLe.of_eq (cT hw13).symm,trivial⟩ (have q:callable Tryz.prog x3_6=true ∧ Vx.Fn Tryz.prog x3_6 [(.v (.int .i32 t11.1))] [] (.v (.bool t14)) []:=(fun h => selF h (fun e h => by rw [e]; exact⟨cl84,(utf_Part.ok h)⟩) (fun h => selF h (fun e h => by rw [e]; exact⟨cl101,(utf_Start.ok h)⟩) (fun h => nomatch h))) (ifT h15 hw13); GOk.call rfl rfl q.1 rfl q.2 rfl))) ?_
     refine OpsOk.consI rfl rfl rfl (.one rfl) rfl (fun hw13 => (GOk.fr (fr':=[(29,(.v (.bool t14)))]) ⟨DLe.of_eq (cT hw13).symm,trivial⟩ (VOk.g (VOk.not (b:=t14) rfl rfl)))) ?_
     refine .cv (VOk.to (VOk.pickI (b:=(t11.2 == 0)) (p:=true) (q:=(!t14)) rfl rfl (fun hp16 => rfl) (fun hp16 => (cT (f_beq hp16)))) (pickOr (t11.2 == 0) (!t14))) rfl rfl ?_
     exact .dn
    refine Ok.test (b:=((t11.2 == 0) || (!t14))) rfl (fun hb17 => ?_) (fun hb17 => ?_)
    ·replace H:=ifT H hb17
     cases H
    ·replace H:=ifF H hb17
     refine Ok.skip ?_
     refine .rg [(0,(S a0)),(4,(.v (.int .i64 (IntKind.i64.wrap (x4_7 + t11.2)))))] [] ?_
     refine .rg [(0,(S a0)),(3,(.clo 84 [])),(4,(.v (.int .i64 (IntKind.i64.wrap (x4_7 + t11.2)))))] [] ?_
     exact⟨m10,Nat.lt_succ_self m10,84,(IntKind.i64.wrap (x4_7 + t11.2)),rfl,H⟩
   ·replace H:=ifF H hb18
    refine Ok.exit ?_
    refine Ok.seq ?_
    refine .rg [(2,(.v (.bool true)))] [] ?_
    refine Ok.ret ?_
    obtain rfl:=Option.some.inj H
    exact⟨.inl rfl,⟨_,(.cons (.tmp rfl) .nil),rfl⟩,trivial⟩
def qname_may (a0:Str) (a1:Str):Option Bool:=(if (a0 == ([120,109,108,110,115]:Str))=true then none else (if (a0 == ([120,109,108]:Str))=true then none else some (((!(a1 == ([104,116,116,112,58,47,47,119,119,119,46,119,51,46,111,114,103,47,88,77,76,47,49,57,57,56,47,110,97,109,101,115,112,97,99,101]:Str))) && (!(a1 == ([104,116,116,112,58,47,47,119,119,119,46,119,51,46,111,114,103,47,50,48,48,48,47,120,109,108,110,115,47]:Str)))) && ((!(a1 == ([]:Str))) || (a0 == ([]:Str))))))
theorem qname_may.ok {a0:Str} {a1:Str} {r:Bool} (H:qname_may a0 a1=some r):Vx.Fn Tryz.prog 110 [(S a0),(S a1)] [] (.v (.bool r)) []:=by
 unfold qname_may at H
 refine Vx.Fn.of_okR Tryz.func110 rfl (Nat.le_of_ble_eq_true rfl) ?_
 refine Ok.seq ?_
 refine .rg [(0,(S a0)),(1,(S a1))] [] ?_
 refine Ok.seq ?_
 refine Ok.seq ?_
 refine .rg [(0,(S a0)),(1,(S a1)),(5,(S a0))] [] ?_
 refine Ok.block ?_
 refine Ok.seq ?_
 refine .rg [(0,(S a0)),(1,(S a1)),(5,(S a0)),(6,(.v (.bool (a0 == ([120,109,108,110,115]:Str)))))] [] ?_
 refine Ok.test (b:=(a0 == ([120,109,108,110,115]:Str))) rfl (fun hb8 => ?_) (fun hb8 => ?_)
 ·replace H:=ifT H hb8
  cases H
 ·replace H:=ifF H hb8
  refine Ok.seq ?_
  refine .rg [(0,(S a0)),(1,(S a1)),(8,(.v (.bool (a0 == ([120,109,108]:Str)))))] [] ?_
  refine Ok.test (b:=(a0 == ([120,109,108]:Str))) rfl (fun hb7 => ?_) (fun hb7 => ?_)
  ·replace H:=ifT H hb7
   cases H
  ·replace H:=ifF H hb7
   refine Ok.skip ?_
   refine Ok.seq ?_
   refine Ok.region (σ':=⟨[(4,(.v (.bool (((!(a1 == ([104,116,116,112,58,47,47,119,119,119,46,119,51,46,111,114,103,47,88,77,76,47,49,57,57,56,47,110,97,109,101,115,112,97,99,101]:Str))) && (!(a1 == ([104,116,116,112,58,47,47,119,119,119,46,119,51,46,111,114,103,47,50,48,48,48,47,120,109,108,110,115,47]:Str)))) && ((!(a1 == ([]:Str))) || (a0 == ([]:Str)))))))],[]⟩) ?_ ?_
   ·refine .rn 3 ?_
    refine OpsOk.consI rfl rfl rfl (.one rfl) rfl (fun hw1 => (VOk.g (VOk.mv (d:=(S a1)) rfl rfl))) ?_
    refine OpsOk.consI rfl rfl rfl (.one rfl) rfl (fun hw1 => (GOk.fr (fr':=[(15,(S a1))]) ⟨DLe.of_eq (cT hw1).symm,trivial⟩ (VOk.g (VOk.strOp (op:=.neq) (a:=a1) (b:=([104,116,116,112,58,47,47,119,119,119,46,119,51,46,111,114,103,47,50,48,48,48,47,120,109,108,110,115,47]:Str)) rfl rfl rfl rfl)))) ?_
    refine .cv (VOk.to (VOk.pickI (b:=(!(a1 == ([104,116,116,112,58,47,47,119,119,119,46,119,51,46,111,114,103,47,88,77,76,47,49,57,57,56,47,110,97,109,101,115,112,97,99,101]:Str)))) (p:=(!(a1 == ([104,116,116,112,58,47,47,119,119,119,46,119,51,46,111,114,103,47,50,48,48,48,47,120,109,108,110,115,47]:Str)))) (q:=false) rfl rfl (fun hp2 => (cT (t_beq hp2))) (fun hp2 => rfl)) (pickAnd (!(a1 == ([104,116,116,112,58,47,47,119,119,119,46,119,51,46,111,114,103,47,88,77,76,47,49,57,57,56,47,110,97,109,101,115,112,97,99,101]:Str))) (!(a1 == ([104,116,116,112,58,47,47,119,119,119,46,119,51,46,111,114,103,47,50,48,48,48,47,120,109,108,110,115,47]:Str))))) rfl rfl ?_
    refine .rn 1 ?_
    refine OpsOk.consI rfl rfl rfl (.one rfl) rfl (fun hw3 => (VOk.g (VOk.mv (d:=(S a1)) rfl rfl))) ?_
    refine OpsOk.consI rfl rfl rfl (.one rfl) rfl (fun hw3 => (GOk.fr (fr':=[(19,(S a1))]) ⟨DLe.of_eq (cT hw3).symm,trivial⟩ (VOk.g (VOk.strOp (op:=.neq) (a:=a1) (b:=([]:Str)) rfl rfl rfl rfl)))) ?_
    refine OpsOk.consI rfl rfl rfl (.one rfl) rfl (fun hw3 => (GOk.fr (fr':=[(20,(.v (.bool (!(a1 == ([]:Str))))))]) ⟨DLe.of_eq (cT hw3).symm,trivial⟩ (VOk.g (VOk.mv (d:=(.v (.bool (!(a1 == ([]:Str)))))) rfl rfl)))) ?_
    refine OpsOk.consI rfl rfl rfl (.two rfl) rfl (fun hw4 => (VOk.g (VOk.mv (d:=(S a0)) rfl rfl))) ?_
    refine OpsOk.consI rfl rfl rfl (.two rfl) rfl (fun hw4 => (GOk.fr (fr':=[(22,(S a0))]) ⟨DLe.of_eq (cT hw4).symm,trivial⟩ (VOk.g (VOk.strOp (op:=.eql) (a:=a0) (b:=([]:Str)) rfl rfl rfl rfl)))) ?_
    refine OpsOk.consI rfl rfl rfl (.one rfl) rfl (fun hw3 => (VOk.g (VOk.to (VOk.pickI (b:=(!(a1 == ([]:Str)))) (p:=true) (q:=(a0 == ([]:Str))) rfl (cT hw3) (fun hp5 => rfl) (fun hp5 => (cT (and_i hw3 (f_beq hp5))))) (pickOr (!(a1 == ([]:Str))) (a0 == ([]:Str)))))) ?_
    refine .cv (VOk.to (VOk.pickI (b:=((!(a1 == ([104,116,116,112,58,47,47,119,119,119,46,119,51,46,111,114,103,47,88,77,76,47,49,57,57,56,47,110,97,109,101,115,112,97,99,101]:Str))) && (!(a1 == ([104,116,116,112,58,47,47,119,119,119,46,119,51,46,111,114,103,47,50,48,48,48,47,120,109,108,110,115,47]:Str))))) (p:=((!(a1 == ([]:Str))) || (a0 == ([]:Str)))) (q:=false) rfl rfl (fun hp6 => (cT (t_beq hp6))) (fun hp6 => rfl)) (pickAnd ((!(a1 == ([104,116,116,112,58,47,47,119,119,119,46,119,51,46,111,114,103,47,88,77,76,47,49,57,57,56,47,110,97,109,101,115,112,97,99,101]:Str))) && (!(a1 == ([104,116,116,112,58,47,47,119,119,119,46,119,51,46,111,114,103,47,50,48,48,48,47,120,109,108,110,115,47]:Str)))) ((!(a1 == ([]:Str))) || (a0 == ([]:Str))))) rfl rfl ?_
    refine .rn 1 ?_
    exact .dn
   refine Ok.ret ?_
   obtain rfl:=Option.some.inj H
   exact⟨.inl rfl,⟨_,(.cons (.tmp rfl) .nil),rfl⟩,trivial⟩
def slices_Clip_111 (a0:List T_api_Bind):Option (List T_api_Bind):=(if (0:Int) ≤ (a0.length:Int) ∧ (a0.length:Int) ≤ (a0.length:Int) then some (sl a0 0 (a0.length:Int)) else none)
theorem slices_Clip_111.ok {a0:List T_api_Bind} {r:(List T_api_Bind)} (H:slices_Clip_111 a0=some r):Vx.Fn Tryz.prog 111 [(L 2 e_api_Bind a0)] [] (.clist 2 (List.map e_api_Bind r)) []:=by
 unfold slices_Clip_111 at H
 refine Vx.Fn.of_okR Tryz.func111 rfl (Nat.le_of_ble_eq_true rfl) ?_
 refine Ok.seq ?_
 refine .rg [(0,(L 2 e_api_Bind a0))] [] ?_
 refine Ok.seq ?_
 obtain⟨c1,H⟩:=assertE H
 refine Ok.region (σ':=⟨[(2,(.clist 2 (List.map e_api_Bind (sl a0 0 (a0.length:Int)))))],[]⟩) ?_ ?_
 ·refine .rn 2 ?_
  refine .cv (VOk.lenL (e:=e_api_Bind) (xs:=a0) rfl Tryz.underlying108 rfl) rfl rfl ?_
  refine .rn 1 ?_
  refine .cv (VOk.lenL (e:=e_api_Bind) (xs:=a0) rfl Tryz.underlying108 rfl) rfl rfl ?_
  refine .cv (VOk.slice3 (e:=e_api_Bind) (xs:=a0) (h:=(a0.length:Int)) rfl Tryz.underlying108 sz139 rfl rfl rfl c1) rfl rfl ?_
  refine .rn 1 ?_
  exact .dn
 refine Ok.ret ?_
 obtain rfl:=Option.some.inj H
 exact⟨.inl rfl,⟨_,(.cons (.tmp rfl) .nil),rfl⟩,trivial⟩
def qname_Add (k:Nat) (a0:List T_api_Bind) (a1:Str) (a2:Str):Option ((List T_api_Bind) × Int):=(((if ((!(a1 == ([]:Str))) == true)=true then utf_Name k a1 else some default)).bind fun (t2:Bool) => (if ((!(a1 == ([]:Str))) && (!t2))=true then none else ((qname_may a1 a2).bind fun (t5:Bool) => (if (!t5)=true then none else ((slices_Clone_94 a0).bind fun (t7:(List T_api_Bind)) => ((slices_Clip_111 t7).bind fun (t9:(List T_api_Bind)) => (if (t9.length + ([(T_api_Bind.mk a1 a2)]:List T_api_Bind).length) * 32 ≤ 140737488355328 then some ((t9 ++ ([(T_api_Bind.mk a1 a2)]:List T_api_Bind)),0) else none)))))))
theorem qname_Add.ok {k:Nat} {a0:List T_api_Bind} {a1:Str} {a2:Str} {r:(List T_api_Bind) × Int} (H:qname_Add k a0 a1 a2=some r):Vx.Fn Tryz.prog 96 [(L 2 e_api_Bind a0),(S a1),(S a2)] [] (.tup [(L 2 e_api_Bind r.1),(.v (.int .i64 r.2))]) []:=by
 unfold qname_Add at H
 refine Vx.Fn.of_okR Tryz.func96 rfl (Nat.le_of_ble_eq_true rfl) ?_
 refine Ok.seq ?_
 refine .rg [(0,(L 2 e_api_Bind a0)),(1,(S a1)),(2,(S a2))] [] ?_
 refine Ok.seq ?_
 refine Ok.block ?_
 refine Ok.seq ?_
 obtain⟨t2,h3,H⟩:=bindE H
 refine Ok.region (σ':=⟨[(0,(L 2 e_api_Bind a0)),(1,(S a1)),(2,(S a2)),(8,(.v (.bool ((!(a1 == ([]:Str))) && (!t2)))))],[]⟩) ?_ ?_
 ·refine .rn 3 ?_
  refine OpsOk.consI rfl rfl rfl (.one rfl) rfl (fun hw1 => (VOk.g (VOk.mv (d:=(S a1)) rfl rfl))) ?_
  refine OpsOk.consI rfl rfl rfl (.one rfl) rfl (fun hw1 => (GOk.fr (fr':=[(12,(S a1))]) ⟨DLe.of_eq (cT hw1).symm,trivial⟩ (GOk.call rfl rfl cl85 rfl (utf_Name.ok (ifT h3 hw1)) rfl))) ?_
  refine OpsOk.consI rfl rfl rfl (.one rfl) rfl (fun hw1 => (GOk.fr (fr':=[(13,(.v (.bool t2)))]) ⟨DLe.of_eq (cT hw1).symm,trivial⟩ (VOk.g (VOk.not (b:=t2) rfl rfl)))) ?_
  refine .cv (VOk.to (VOk.pickI (b:=(!(a1 == ([]:Str)))) (p:=(!t2)) (q:=false) rfl rfl (fun hp4 => (cT (t_beq hp4))) (fun hp4 => rfl)) (pickAnd (!(a1 == ([]:Str))) (!t2))) rfl rfl ?_
  refine .rn 1 ?_
  exact .dn
 refine Ok.test (b:=((!(a1 == ([]:Str))) && (!t2))) rfl (fun hb13 => ?_) (fun hb13 => ?_)
 ·replace H:=ifT H hb13
  cases H
 ·replace H:=ifF H hb13
  refine Ok.seq ?_
  obtain⟨t5,h6,H⟩:=bindE H
  refine Ok.region (σ':=⟨[(0,(L 2 e_api_Bind a0)),(1,(S a1)),(2,(S a2)),(16,(.v (.bool (!t5))))],[]⟩) ?_ ?_
  ·refine .rn 2 ?_
   refine .cg (GOk.call rfl rfl cl110 rfl (qname_may.ok h6) rfl) rfl rfl ?_
   refine .rn 2 ?_
   exact .dn
  refine Ok.test (b:=(!t5)) rfl (fun hb12 => ?_) (fun hb12 => ?_)
  ·replace H:=ifT H hb12
   cases H
  ·replace H:=ifF H hb12
   refine Ok.skip ?_
   refine Ok.seq ?_
   obtain⟨t7,h8,H⟩:=bindE H
   obtain⟨t9,h10,H⟩:=bindE H
   obtain⟨c11,H⟩:=assertE H
   refine Ok.region (σ':=⟨[(6,(L 2 e_api_Bind (t9 ++ ([(T_api_Bind.mk a1 a2)]:List T_api_Bind)))),(7,(.v (.int .i64 0)))],[]⟩) ?_ ?_
   ·refine .rn 1 ?_
    refine .cg (GOk.call rfl rfl cl94 rfl (slices_Clone_94.ok h8) rfl) rfl rfl ?_
    refine .cg (GOk.call rfl rfl cl111 rfl (slices_Clip_111.ok h10) rfl) rfl rfl ?_
    refine .rn 2 ?_
    refine .cv (VOk.to (d':=(.agg (e_api_Bind (T_api_Bind.mk a1 a2)))) (.build [none,none] [(0,1),(1,1)] rfl Tryz.underlying139 (fa139 Tryz.underlying139) zo139 rfl rfl) rfl) rfl rfl ?_
    refine .cg (GOk.to (d':=(L 2 e_api_Bind ([(T_api_Bind.mk a1 a2)]:List T_api_Bind))) (GOk.lit rfl Tryz.underlying108 sz139 zs139 rfl rfl rfl rfl) rfl) rfl rfl ?_
    refine .cg (GOk.appendC (e:=e_api_Bind) (xs:=t9) (ys:=([(T_api_Bind.mk a1 a2)]:List T_api_Bind)) rfl Tryz.underlying108 elt139 (.same _) rfl c11) rfl rfl ?_
    refine .rn 2 ?_
    exact .dn
   refine Ok.ret ?_
   obtain rfl:=Option.some.inj H
   exact⟨.inl rfl,⟨_,(.cons (.tmp rfl) (.cons (.tmp rfl) .nil)),rfl⟩,trivial⟩
def qname_Declare.l0 (k:Nat) (a1:List T_api_Raw):Nat→List (Str × Int)→List T_api_Raw→Int→List T_api_Bind→Option ((List T_api_Bind) × (List T_api_Raw) × Int)
 | 0,_,_,_,_ => none
 | m11 + 1,y18_6,y8_5,x21_4,x7_3 => (if (decide (x21_4 < (a1.length:Int)))=true then (if (0:Int) ≤ x21_4 ∧ x21_4 < (a1.length:Int) then ((qname_declares ((rd a1 x21_4).Name)).bind fun (t13:Str × Bool) => (if (!t13.2)=true then (if (y8_5.length + ([(rd a1 x21_4)]:List T_api_Raw).length) * 32 ≤ 140737488355328 then qname_Declare.l0 k a1 m11 y18_6 (y8_5 ++ ([(rd a1 x21_4)]:List T_api_Raw)) (IntKind.i64.wrap (x21_4 + 1)) x7_3 else none) else (((if ((!(((rd a1 x21_4).Name) == ([120,109,108,110,115]:Str))) == true)=true then utf_Name k t13.1 else some default)).bind fun (t17:Bool) => (if ((!(((rd a1 x21_4).Name) == ([120,109,108,110,115]:Str))) && (!t17))=true then none else (if (decide ((lkm keq9 0 (upm keq9 y18_6 t13.1 (IntKind.i64.wrap ((lkm keq9 0 y18_6 t13.1) + 1))) t13.1) > 1))=true then none else ((qname_Add k x7_3 t13.1 ((rd a1 x21_4).Value)).bind fun (t20:(List T_api_Bind) × Int) => (if (t20.2 != 0)=true then none else qname_Declare.l0 k a1 m11 (upm keq9 y18_6 t13.1 (IntKind.i64.wrap ((lkm keq9 0 y18_6 t13.1) + 1))) y8_5 (IntKind.i64.wrap (x21_4 + 1)) t20.1))))))) else none) else some (x7_3,y8_5,0))
def qname_Declare (k:Nat) (a0:List T_api_Bind) (a1:List T_api_Raw):Option ((List T_api_Bind) × (List T_api_Raw) × Int):=((slices_Clone_94 a0).bind fun (t1:(List T_api_Bind)) => qname_Declare.l0 k a1 k ([]:List (Str × Int)) ([]:List T_api_Raw) 0 t1)
theorem qname_Declare.ok {k:Nat} {a0:List T_api_Bind} {a1:List T_api_Raw} {r:(List T_api_Bind) × (List T_api_Raw) × Int} (H:qname_Declare k a0 a1=some r):Vx.Fn Tryz.prog 72 [(L 2 e_api_Bind a0),(L 2 e_api_Raw a1)] [] (.tup [(L 2 e_api_Bind r.1),(L 2 e_api_Raw r.2.1),(.v (.int .i64 r.2.2))]) []:=by
 unfold qname_Declare at H
 refine Vx.Fn.of_okR Tryz.func72 rfl (Nat.le_of_ble_eq_true rfl) ?_
 refine Ok.seq ?_
 refine .rg [(0,(L 2 e_api_Bind a0)),(1,(L 2 e_api_Raw a1))] [] ?_
 refine Ok.seq ?_
 obtain⟨t1,h2,H⟩:=bindE H
 refine Ok.region (σ':=⟨[(1,(L 2 e_api_Raw a1)),(7,(L 2 e_api_Bind t1))],[]⟩) ?_ ?_
 ·refine .rn 1 ?_
  refine .cg (GOk.call rfl rfl cl94 rfl (slices_Clone_94.ok h2) rfl) rfl rfl ?_
  refine .rn 1 ?_
  exact .dn
 refine Ok.seq ?_
 refine Ok.region (σ':=⟨[(1,(L 2 e_api_Raw a1)),(7,(L 2 e_api_Bind t1)),(8,(.sref 8))],[(8,(.rows true 132 2 (([]:List T_api_Raw).map e_api_Raw)))]⟩) ?_ ?_
 ·refine OpsOk.cons rfl (.nilT 8 132 2 (.inl rfl) rfl rfl) ?_
  exact .dn
 refine Ok.seq ?_
 refine Ok.region (σ':=⟨[(1,(L 2 e_api_Raw a1)),(7,(L 2 e_api_Bind t1)),(8,(.sref 8)),(9,(.mref 18))],[(8,(.rows true 132 2 (([]:List T_api_Raw).map e_api_Raw))),(18,(.map (List.map (fun p => (S p.1,D.v ((Value.int .i64) p.2))) ([]:List (Str × Int)))))]⟩) ?_ ?_
 ·refine OpsOk.cons rfl (OpOk.mapNew 18 rfl rfl) ?_
  refine .rn 1 ?_
  exact .dn
 refine Ok.seq ?_
 refine Ok.seq ?_
 refine Ok.region (σ':=⟨[(7,(L 2 e_api_Bind t1)),(8,(.sref 8)),(9,(.mref 18)),(19,(L 2 e_api_Raw a1)),(20,(.v (.int .i64 (a1.length:Int)))),(21,(.v (.int .i64 0)))],[(8,(.rows true 132 2 (([]:List T_api_Raw).map e_api_Raw))),(18,(.map (List.map (fun p => (S p.1,D.v ((Value.int .i64) p.2))) ([]:List (Str × Int)))))]⟩) ?_ ?_
 ·refine .rn 1 ?_
  refine .cv (VOk.lenL (e:=e_api_Raw) (xs:=a1) rfl Tryz.underlying76 rfl) rfl rfl ?_
  refine .rn 1 ?_
  exact .dn
 refine Ok.block ?_
 refine Ok.loop (fun m11 σ => ∃ (y18_6:List (Str × Int)) (y8_5:List T_api_Raw) (x21_4:Int) (x7_3:List T_api_Bind),σ=⟨[(7,(L 2 e_api_Bind x7_3)),(8,(.sref 8)),(9,(.mref 18)),(19,(L 2 e_api_Raw a1)),(20,(.v (.int .i64 (a1.length:Int)))),(21,(.v (.int .i64 x21_4)))],[(8,(.rows true 132 2 (y8_5.map e_api_Raw))),(18,(.map (List.map (fun p => (S p.1,D.v ((Value.int .i64) p.2))) y18_6)))]⟩ ∧ qname_Declare.l0 k a1 m11 y18_6 y8_5 x21_4 x7_3=some r) k ⟨([]:List (Str × Int)),([]:List T_api_Raw),0,t1,rfl,H⟩ ?_
 rintro m11 σ ⟨y18_6,y8_5,x21_4,x7_3,rfl,H⟩
 cases m11 with
 | zero => exact absurd H (by simp [qname_Declare.l0])
 | succ m11 =>
  unfold qname_Declare.l0 at H
  refine Ok.seq ?_
  refine .rg [(7,(L 2 e_api_Bind x7_3)),(8,(.sref 8)),(9,(.mref 18)),(19,(L 2 e_api_Raw a1)),(20,(.v (.int .i64 (a1.length:Int)))),(21,(.v (.int .i64 x21_4))),(22,(.v (.bool (decide (x21_4 < (a1.length:Int))))))] [(8,(.rows true 132 2 (y8_5.map e_api_Raw))),(18,(.map (List.map (fun p => (S p.1,D.v ((Value.int .i64) p.2))) y18_6)))] ?_
  refine Ok.seq ?_
  refine Ok.test (b:=(decide (x21_4 < (a1.length:Int)))) rfl (fun hb26 => ?_) (fun hb26 => ?_)
  ·replace H:=ifT H hb26
   refine Ok.skip ?_
   refine Ok.seq ?_
   refine Ok.block ?_
   refine Ok.seq ?_
   obtain⟨c12,H⟩:=assertE H
   refine Ok.region (σ':=⟨[(7,(L 2 e_api_Bind x7_3)),(8,(.sref 8)),(9,(.mref 18)),(11,(.bref 11 0)),(19,(L 2 e_api_Raw a1)),(20,(.v (.int .i64 (a1.length:Int)))),(21,(.v (.int .i64 x21_4)))],[(8,(.rows true 132 2 (y8_5.map e_api_Raw))),(11,(.box .ex [(S ((rd a1 x21_4).Name)),(S ((rd a1 x21_4).Value))])),(18,(.map (List.map (fun p => (S p.1,D.v ((Value.int .i64) p.2))) y18_6)))]⟩) ?_ ?_
   ·refine .cv (VOk.indexL (sz:=2) (e:=e_api_Raw) (xs:=a1) (i:=x21_4) rfl Tryz.underlying76 sz132 rfl rfl c12) rfl rfl ?_
    refine .rn 3 ?_
    exact .dn
   refine Ok.seq ?_
   obtain⟨t13,h14,H⟩:=bindE H
   refine Ok.region (σ':=⟨[(7,(L 2 e_api_Bind x7_3)),(8,(.sref 8)),(9,(.mref 18)),(11,(.bref 11 0)),(12,(S t13.1)),(13,(.v (.bool t13.2))),(19,(L 2 e_api_Raw a1)),(20,(.v (.int .i64 (a1.length:Int)))),(21,(.v (.int .i64 x21_4)))],[(8,(.rows true 132 2 (y8_5.map e_api_Raw))),(11,(.box .ex [(S ((rd a1 x21_4).Name)),(S ((rd a1 x21_4).Value))])),(18,(.map (List.map (fun p => (S p.1,D.v ((Value.int .i64) p.2))) y18_6)))]⟩) ?_ ?_
   ·refine .rn 2 ?_
    refine .cg (GOk.call rfl rfl cl95 rfl (qname_declares.ok h14) rfl) rfl rfl ?_
    refine .rn 5 ?_
    exact .dn
   refine Ok.seq ?_
   refine Ok.seq ?_
   refine .rg [(7,(L 2 e_api_Bind x7_3)),(8,(.sref 8)),(9,(.mref 18)),(11,(.bref 11 0)),(12,(S t13.1)),(19,(L 2 e_api_Raw a1)),(20,(.v (.int .i64 (a1.length:Int)))),(21,(.v (.int .i64 x21_4))),(32,(.v (.bool (!t13.2))))] [(8,(.rows true 132 2 (y8_5.map e_api_Raw))),(11,(.box .ex [(S ((rd a1 x21_4).Name)),(S ((rd a1 x21_4).Value))])),(18,(.map (List.map (fun p => (S p.1,D.v ((Value.int .i64) p.2))) y18_6)))] ?_
   refine Ok.test (b:=(!t13.2)) rfl (fun hb25 => ?_) (fun hb25 => ?_)
   ·replace H:=ifT H hb25
    refine Ok.seq ?_
    obtain⟨c15,H⟩:=assertE H
    refine Ok.region (σ':=⟨[(7,(L 2 e_api_Bind x7_3)),(8,(.sref 8)),(9,(.mref 18)),(19,(L 2 e_api_Raw a1)),(20,(.v (.int .i64 (a1.length:Int)))),(21,(.v (.int .i64 x21_4)))],[(8,(.rows true 132 2 ((y8_5 ++ ([(rd a1 x21_4)]:List T_api_Raw)).map e_api_Raw))),(18,(.map (List.map (fun p => (S p.1,D.v ((Value.int .i64) p.2))) y18_6)))]⟩) ?_ ?_
    ·refine .rn 2 ?_
     refine .cg (GOk.to (d':=(L 2 e_api_Raw ([(rd a1 x21_4)]:List T_api_Raw))) (GOk.lit rfl Tryz.underlying76 sz132 zs132 rfl rfl rfl rfl) rfl) rfl rfl ?_
     refine OpsOk.cons rfl (OpOk.appendL (e:=e_api_Raw) (xs:=y8_5) (ys:=([(rd a1 x21_4)]:List T_api_Raw)) rfl Tryz.underlying76 elt132 rfl rfl rfl c15 rfl) ?_
     refine .rn 1 ?_
     exact .dn
    refine Ok.exit ?_
    refine .rg [(7,(L 2 e_api_Bind x7_3)),(8,(.sref 8)),(9,(.mref 18)),(19,(L 2 e_api_Raw a1)),(20,(.v (.int .i64 (a1.length:Int)))),(21,(.v (.int .i64 (IntKind.i64.wrap (x21_4 + 1)))))] [(8,(.rows true 132 2 ((y8_5 ++ ([(rd a1 x21_4)]:List T_api_Raw)).map e_api_Raw))),(18,(.map (List.map (fun p => (S p.1,D.v ((Value.int .i64) p.2))) y18_6)))] ?_
    exact⟨m11,Nat.lt_succ_self m11,y18_6,(y8_5 ++ ([(rd a1 x21_4)]:List T_api_Raw)),(IntKind.i64.wrap (x21_4 + 1)),x7_3,rfl,H⟩
   ·replace H:=ifF H hb25
    refine Ok.skip ?_
    refine Ok.seq ?_
    refine Ok.seq ?_
    obtain⟨t17,h18,H⟩:=bindE H
    refine Ok.region (σ':=⟨[(7,(L 2 e_api_Bind x7_3)),(8,(.sref 8)),(9,(.mref 18)),(11,(.bref 11 0)),(12,(S t13.1)),(19,(L 2 e_api_Raw a1)),(20,(.v (.int .i64 (a1.length:Int)))),(21,(.v (.int .i64 x21_4))),(44,(.v (.bool ((!(((rd a1 x21_4).Name) == ([120,109,108,110,115]:Str))) && (!t17)))))],[(8,(.rows true 132 2 (y8_5.map e_api_Raw))),(11,(.box .ex [(S ((rd a1 x21_4).Name)),(S ((rd a1 x21_4).Value))])),(18,(.map (List.map (fun p => (S p.1,D.v ((Value.int .i64) p.2))) y18_6)))]⟩) ?_ ?_
    ·refine .rn 4 ?_
     refine OpsOk.consI rfl rfl rfl (.one rfl) rfl (fun hw16 => (VOk.g (VOk.mv (d:=(S t13.1)) rfl rfl))) ?_
     refine OpsOk.consI rfl rfl rfl (.one rfl) rfl (fun hw16 => (GOk.fr (fr':=[(41,(S t13.1))]) ⟨DLe.of_eq (cT hw16).symm,trivial⟩ (GOk.call rfl rfl cl85 rfl (utf_Name.ok (ifT h18 hw16)) rfl))) ?_
     refine OpsOk.consI rfl rfl rfl (.one rfl) rfl (fun hw16 => (GOk.fr (fr':=[(42,(.v (.bool t17)))]) ⟨DLe.of_eq (cT hw16).symm,trivial⟩ (VOk.g (VOk.not (b:=t17) rfl rfl)))) ?_
     refine .cv (VOk.to (VOk.pickI (b:=(!(((rd a1 x21_4).Name) == ([120,109,108,110,115]:Str)))) (p:=(!t17)) (q:=false) rfl rfl (fun hp19 => (cT (t_beq hp19))) (fun hp19 => rfl)) (pickAnd (!(((rd a1 x21_4).Name) == ([120,109,108,110,115]:Str))) (!t17))) rfl rfl ?_
     exact .dn
    refine Ok.test (b:=((!(((rd a1 x21_4).Name) == ([120,109,108,110,115]:Str))) && (!t17))) rfl (fun hb24 => ?_) (fun hb24 => ?_)
    ·replace H:=ifT H hb24
     cases H
    ·replace H:=ifF H hb24
     refine Ok.skip ?_
     refine Ok.seq ?_
     refine Ok.seq ?_
     refine Ok.region (σ':=⟨[(7,(L 2 e_api_Bind x7_3)),(8,(.sref 8)),(9,(.mref 18)),(11,(.bref 11 0)),(12,(S t13.1)),(19,(L 2 e_api_Raw a1)),(20,(.v (.int .i64 (a1.length:Int)))),(21,(.v (.int .i64 x21_4)))],[(8,(.rows true 132 2 (y8_5.map e_api_Raw))),(11,(.box .ex [(S ((rd a1 x21_4).Name)),(S ((rd a1 x21_4).Value))])),(18,(.map (List.map (fun p => (S p.1,D.v ((Value.int .i64) p.2))) (upm keq9 y18_6 t13.1 (IntKind.i64.wrap ((lkm keq9 0 y18_6 t13.1) + 1))))))]⟩) ?_ ?_
     ·refine .rn 2 ?_
      refine .cv (VOk.mapGet (vv:=(Value.int .i64)) (m:=y18_6) (k:=t13.1) 0 rfl Tryz.underlying140 kt9 zo3 rfl rfl rfl) rfl rfl ?_
      refine .rn 1 ?_
      refine OpsOk.cons rfl (OpOk.mapSet (vv:=(Value.int .i64)) (m:=y18_6) (k:=t13.1) (v:=(IntKind.i64.wrap ((lkm keq9 0 y18_6 t13.1) + 1))) rfl Tryz.underlying140 kt9 (.same _) rfl (.same _) (.same _) rfl) ?_
      exact .dn
     refine Ok.seq ?_
     refine Ok.region (σ':=⟨[(7,(L 2 e_api_Bind x7_3)),(8,(.sref 8)),(9,(.mref 18)),(11,(.bref 11 0)),(12,(S t13.1)),(19,(L 2 e_api_Raw a1)),(20,(.v (.int .i64 (a1.length:Int)))),(21,(.v (.int .i64 x21_4))),(52,(.v (.bool (decide ((lkm keq9 0 (upm keq9 y18_6 t13.1 (IntKind.i64.wrap ((lkm keq9 0 y18_6 t13.1) + 1))) t13.1) > 1)))))],[(8,(.rows true 132 2 (y8_5.map e_api_Raw))),(11,(.box .ex [(S ((rd a1 x21_4).Name)),(S ((rd a1 x21_4).Value))])),(18,(.map (List.map (fun p => (S p.1,D.v ((Value.int .i64) p.2))) (upm keq9 y18_6 t13.1 (IntKind.i64.wrap ((lkm keq9 0 y18_6 t13.1) + 1))))))]⟩) ?_ ?_
     ·refine .rn 2 ?_
      refine .cv (VOk.mapGet (vv:=(Value.int .i64)) (m:=(upm keq9 y18_6 t13.1 (IntKind.i64.wrap ((lkm keq9 0 y18_6 t13.1) + 1)))) (k:=t13.1) 0 rfl Tryz.underlying140 kt9 zo3 rfl rfl rfl) rfl rfl ?_
      refine .rn 1 ?_
      exact .dn
     refine Ok.test (b:=(decide ((lkm keq9 0 (upm keq9 y18_6 t13.1 (IntKind.i64.wrap ((lkm keq9 0 y18_6 t13.1) + 1))) t13.1) > 1))) rfl (fun hb23 => ?_) (fun hb23 => ?_)
     ·replace H:=ifT H hb23
      cases H
     ·replace H:=ifF H hb23
      refine Ok.skip ?_
      refine Ok.seq ?_
      obtain⟨t20,h21,H⟩:=bindE H
      refine Ok.region (σ':=⟨[(8,(.sref 8)),(9,(.mref 18)),(14,(L 2 e_api_Bind t20.1)),(15,(.v (.int .i64 t20.2))),(19,(L 2 e_api_Raw a1)),(20,(.v (.int .i64 (a1.length:Int)))),(21,(.v (.int .i64 x21_4)))],[(8,(.rows true 132 2 (y8_5.map e_api_Raw))),(18,(.map (List.map (fun p => (S p.1,D.v ((Value.int .i64) p.2))) (upm keq9 y18_6 t13.1 (IntKind.i64.wrap ((lkm keq9 0 y18_6 t13.1) + 1))))))]⟩) ?_ ?_
      ·refine .rn 4 ?_
       refine .cg (GOk.call rfl rfl cl96 rfl (qname_Add.ok h21) rfl) rfl rfl ?_
       refine .rn 5 ?_
       exact .dn
      refine Ok.seq ?_
      refine Ok.seq ?_
      refine .rg [(8,(.sref 8)),(9,(.mref 18)),(14,(L 2 e_api_Bind t20.1)),(19,(L 2 e_api_Raw a1)),(20,(.v (.int .i64 (a1.length:Int)))),(21,(.v (.int .i64 x21_4))),(62,(.v (.bool (t20.2 != 0))))] [(8,(.rows true 132 2 (y8_5.map e_api_Raw))),(18,(.map (List.map (fun p => (S p.1,D.v ((Value.int .i64) p.2))) (upm keq9 y18_6 t13.1 (IntKind.i64.wrap ((lkm keq9 0 y18_6 t13.1) + 1))))))] ?_
      refine Ok.test (b:=(t20.2 != 0)) rfl (fun hb22 => ?_) (fun hb22 => ?_)
      ·replace H:=ifT H hb22
       cases H
      ·replace H:=ifF H hb22
       refine Ok.skip ?_
       refine .rg [(7,(L 2 e_api_Bind t20.1)),(8,(.sref 8)),(9,(.mref 18)),(19,(L 2 e_api_Raw a1)),(20,(.v (.int .i64 (a1.length:Int)))),(21,(.v (.int .i64 x21_4)))] [(8,(.rows true 132 2 (y8_5.map e_api_Raw))),(18,(.map (List.map (fun p => (S p.1,D.v ((Value.int .i64) p.2))) (upm keq9 y18_6 t13.1 (IntKind.i64.wrap ((lkm keq9 0 y18_6 t13.1) + 1))))))] ?_
       refine .rg [(7,(L 2 e_api_Bind t20.1)),(8,(.sref 8)),(9,(.mref 18)),(19,(L 2 e_api_Raw a1)),(20,(.v (.int .i64 (a1.length:Int)))),(21,(.v (.int .i64 (IntKind.i64.wrap (x21_4 + 1)))))] [(8,(.rows true 132 2 (y8_5.map e_api_Raw))),(18,(.map (List.map (fun p => (S p.1,D.v ((Value.int .i64) p.2))) (upm keq9 y18_6 t13.1 (IntKind.i64.wrap ((lkm keq9 0 y18_6 t13.1) + 1))))))] ?_
       exact⟨m11,Nat.lt_succ_self m11,(upm keq9 y18_6 t13.1 (IntKind.i64.wrap ((lkm keq9 0 y18_6 t13.1) + 1))),y8_5,(IntKind.i64.wrap (x21_4 + 1)),t20.1,rfl,H⟩
  ·replace H:=ifF H hb26
   refine Ok.exit ?_
   refine Ok.seq ?_
   refine .rg [(4,(L 2 e_api_Bind x7_3)),(5,(.sref 8)),(6,(.v (.int .i64 0)))] [(8,(.rows true 132 2 (y8_5.map e_api_Raw)))] ?_
   refine Ok.frzL 8 (e:=e_api_Raw) (xs:=y8_5) rfl ?_
   refine Ok.ret ?_
   obtain rfl:=Option.some.inj H
   exact⟨.inl rfl,⟨_,(.cons (.tmp rfl) (.cons (.tmp rfl) (.cons (.tmp rfl) .nil))),rfl⟩,trivial⟩
def qname_Split (k:Nat) (a0:Str):Option (Str × Str × Bool):=(if a0.length < 4294967281 then (if (!((Lib.cut a0 ([58]:Str)).2.2))=true then ((utf_Name k a0).bind fun (t2:Bool) => (((if (((!t2) == false) && ((Lib.cut a0 ([58]:Str)).2.2 == true))=true then utf_Name k ([]:Str) else some default)).bind fun (t6:Bool) => (if ((!t2) || (((Lib.cut a0 ([58]:Str)).2.2) && (!t6)))=true then none else some (([]:Str),a0,true)))) else none) else none)
theorem qname_Split.ok {k:Nat} {a0:Str} {r:Str × Str × Bool} (H:qname_Split k a0=some r):Vx.Fn Tryz.prog 97 [(S a0)] [] (.tup [(S r.1),(S r.2.1),(.v (.bool r.2.2))]) []:=by
 unfold qname_Split at H
 refine Vx.Fn.of_okR Tryz.func97 rfl (Nat.le_of_ble_eq_true rfl) ?_
 refine Ok.seq ?_
 refine .rg [(0,(S a0))] [] ?_
 refine Ok.seq ?_
 obtain⟨c1,H⟩:=assertE H
 refine Ok.region (σ':=⟨[(0,(S a0)),(5,(.v (.bool ((Lib.cut a0 ([58]:Str)).2.2))))],[]⟩) ?_ ?_
 ·refine .rn 1 ?_
  refine .cg (GOk.extB (us:=[.string (ba a0),.string (ba ([58]:Str))]) (d:=(.tup [(S ((Lib.cut a0 ([58]:Str)).1)),(S ((Lib.cut a0 ([58]:Str)).2.1)),(.v (.bool ((Lib.cut a0 ([58]:Str)).2.2)))])) rfl rfl cl112 rfl (fun _ _ => cut_pu _ _ _) (fun w hG => shCut c1 w hG)) rfl rfl ?_
  refine .rn 7 ?_
  exact .dn
 refine Ok.seq ?_
 refine Ok.seq ?_
 refine .rg [(0,(S a0)),(5,(.v (.bool ((Lib.cut a0 ([58]:Str)).2.2)))),(13,(.v (.bool (!((Lib.cut a0 ([58]:Str)).2.2)))))] [] ?_
 refine Ok.test (b:=(!((Lib.cut a0 ([58]:Str)).2.2))) rfl (fun hb11 => ?_) (fun hb11 => ?_)
 ·replace H:=ifT H hb11
  refine .rg [(2,S0),(3,(S a0)),(5,(.v (.bool ((Lib.cut a0 ([58]:Str)).2.2))))] [] ?_
  refine Ok.seq ?_
  refine Ok.seq ?_
  obtain⟨t2,h3,H⟩:=bindE H
  obtain⟨t6,h7,H⟩:=bindE H
  refine Ok.region (σ':=⟨[(2,S0),(3,(S a0)),(25,(.v (.bool ((!t2) || (((Lib.cut a0 ([58]:Str)).2.2) && (!t6))))))],[]⟩) ?_ ?_
  ·refine .rn 1 ?_
   refine .cg (GOk.call rfl rfl cl85 rfl (utf_Name.ok h3) rfl) rfl rfl ?_
   refine .rn 2 ?_
   refine OpsOk.consI rfl rfl rfl (.one rfl) rfl (fun hw4 => (VOk.g (VOk.mv (d:=(.v (.bool ((Lib.cut a0 ([58]:Str)).2.2)))) rfl rfl))) ?_
   refine OpsOk.consI rfl rfl rfl (.one rfl) rfl (fun hw4 => (GOk.fr (fr':=[(19,(.v (.bool ((Lib.cut a0 ([58]:Str)).2.2))))]) ⟨DLe.of_eq (cT hw4).symm,trivial⟩ (VOk.g (VOk.mv (d:=(.v (.bool ((Lib.cut a0 ([58]:Str)).2.2)))) rfl rfl)))) ?_
   refine OpsOk.consI rfl rfl rfl (.two rfl) rfl (fun hw5 => (VOk.g (VOk.mv (d:=S0) rfl rfl))) ?_
   refine OpsOk.consI rfl rfl rfl (.two rfl) rfl (fun hw5 => (GOk.fr (fr':=[(21,S0)]) ⟨DLe.of_eq (cT hw5).symm,trivial⟩ (GOk.call rfl rfl cl85 rfl (utf_Name.ok (ifT h7 hw5)) rfl))) ?_
   refine OpsOk.consI rfl rfl rfl (.two rfl) rfl (fun hw5 => (GOk.fr (fr':=[(22,(.v (.bool t6)))]) ⟨DLe.of_eq (cT hw5).symm,trivial⟩ (VOk.g (VOk.not (b:=t6) rfl rfl)))) ?_
   refine OpsOk.consI rfl rfl rfl (.one rfl) rfl (fun hw4 => (VOk.g (VOk.to (VOk.pickI (b:=(Lib.cut a0 ([58]:Str)).2.2) (p:=(!t6)) (q:=false) rfl (cT hw4) (fun hp8 => (cT (and_i hw4 (t_beq hp8)))) (fun hp8 => rfl)) (pickAnd ((Lib.cut a0 ([58]:Str)).2.2) (!t6))))) ?_
   refine .cv (VOk.to (VOk.pickI (b:=(!t2)) (p:=true) (q:=(((Lib.cut a0 ([58]:Str)).2.2) && (!t6))) rfl rfl (fun hp9 => rfl) (fun hp9 => (cT (f_beq hp9)))) (pickOr (!t2) (((Lib.cut a0 ([58]:Str)).2.2) && (!t6)))) rfl rfl ?_
   exact .dn
  refine Ok.test (b:=((!t2) || (((Lib.cut a0 ([58]:Str)).2.2) && (!t6)))) rfl (fun hb10 => ?_) (fun hb10 => ?_)
  ·replace H:=ifT H hb10
   cases H
  ·replace H:=ifF H hb10
   refine Ok.skip ?_
   refine Ok.seq ?_
   refine .rg [(2,S0),(3,(S a0)),(4,(.v (.bool true)))] [] ?_
   refine Ok.ret ?_
   obtain rfl:=Option.some.inj H
   exact⟨.inl rfl,⟨_,(.cons (.tmp rfl) (.cons (.tmp rfl) (.cons (.tmp rfl) .nil))),rfl⟩,trivial⟩
 ·replace H:=ifF H hb11
  cases H
def qname_Find.l0 (k:Nat) (a0:List T_api_Bind) (a1:Str):Nat→Int→Option (Str × Bool)
 | 0,_ => none
 | m3 + 1,x6_1 => (if (decide (x6_1 ≥ 0))=true then (if (0:Int) ≤ x6_1 ∧ x6_1 < (a0.length:Int) then (if (((rd a0 x6_1).Prefix) == a1)=true then (if (0:Int) ≤ x6_1 ∧ x6_1 < (a0.length:Int) then some ((rd a0 x6_1).Space,true) else none) else none) else none) else none)
def qname_Find (k:Nat) (a0:List T_api_Bind) (a1:Str):Option (Str × Bool):=(if (a1 == ([120,109,108]:Str))=true then none else qname_Find.l0 k a0 a1 k (IntKind.i64.wrap ((a0.length:Int) - 1)))
theorem qname_Find.ok {k:Nat} {a0:List T_api_Bind} {a1:Str} {r:Str × Bool} (H:qname_Find k a0 a1=some r):Vx.Fn Tryz.prog 98 [(L 2 e_api_Bind a0),(S a1)] [] (.tup [(S r.1),(.v (.bool r.2))]) []:=by
 unfold qname_Find at H
 refine Vx.Fn.of_okR Tryz.func98 rfl (Nat.le_of_ble_eq_true rfl) ?_
 refine Ok.seq ?_
 refine .rg [(0,(L 2 e_api_Bind a0)),(1,(S a1))] [] ?_
 refine Ok.seq ?_
 refine Ok.seq ?_
 refine .rg [(0,(L 2 e_api_Bind a0)),(1,(S a1)),(8,(.v (.bool (a1 == ([120,109,108]:Str)))))] [] ?_
 refine Ok.test (b:=(a1 == ([120,109,108]:Str))) rfl (fun hb8 => ?_) (fun hb8 => ?_)
 ·replace H:=ifT H hb8
  cases H
 ·replace H:=ifF H hb8
  refine Ok.skip ?_
  refine Ok.seq ?_
  refine Ok.seq ?_
  refine Ok.region (σ':=⟨[(0,(L 2 e_api_Bind a0)),(1,(S a1)),(6,(.v (.int .i64 (IntKind.i64.wrap ((a0.length:Int) - 1)))))],[]⟩) ?_ ?_
  ·refine .rn 1 ?_
   refine .cv (VOk.lenL (e:=e_api_Bind) (xs:=a0) rfl Tryz.underlying108 rfl) rfl rfl ?_
   refine .rn 2 ?_
   exact .dn
  refine Ok.block ?_
  refine Ok.loop (fun m3 σ => ∃ (x6_1:Int),σ=⟨[(0,(L 2 e_api_Bind a0)),(1,(S a1)),(6,(.v (.int .i64 x6_1)))],[]⟩ ∧ qname_Find.l0 k a0 a1 m3 x6_1=some r) k ⟨(IntKind.i64.wrap ((a0.length:Int) - 1)),rfl,H⟩ ?_
  rintro m3 σ ⟨x6_1,rfl,H⟩
  cases m3 with
  | zero => exact absurd H (by simp [qname_Find.l0])
  | succ m3 =>
   unfold qname_Find.l0 at H
   refine Ok.seq ?_
   refine Ok.seq ?_
   refine .rg [(0,(L 2 e_api_Bind a0)),(1,(S a1)),(6,(.v (.int .i64 x6_1))),(13,(.v (.bool (decide (x6_1 ≥ 0)))))] [] ?_
   refine Ok.test (b:=(decide (x6_1 ≥ 0))) rfl (fun hb7 => ?_) (fun hb7 => ?_)
   ·replace H:=ifT H hb7
    refine Ok.skip ?_
    refine Ok.seq ?_
    refine Ok.block ?_
    refine Ok.seq ?_
    obtain⟨c4,H⟩:=assertE H
    refine Ok.region (σ':=⟨[(0,(L 2 e_api_Bind a0)),(6,(.v (.int .i64 x6_1))),(22,(.v (.bool (((rd a0 x6_1).Prefix) == a1))))],[]⟩) ?_ ?_
    ·refine .rn 2 ?_
     refine .cv (VOk.indexL (sz:=2) (e:=e_api_Bind) (xs:=a0) (i:=x6_1) rfl Tryz.underlying108 sz139 rfl rfl c4) rfl rfl ?_
     refine .rn 4 ?_
     exact .dn
    refine Ok.test (b:=(((rd a0 x6_1).Prefix) == a1)) rfl (fun hb6 => ?_) (fun hb6 => ?_)
    ·replace H:=ifT H hb6
     refine Ok.seq ?_
     obtain⟨c5,H⟩:=assertE H
     refine Ok.region (σ':=⟨[(4,(S ((rd a0 x6_1).Space))),(5,(.v (.bool true)))],[]⟩) ?_ ?_
     ·refine .rn 2 ?_
      refine .cv (VOk.indexL (sz:=2) (e:=e_api_Bind) (xs:=a0) (i:=x6_1) rfl Tryz.underlying108 sz139 rfl rfl c5) rfl rfl ?_
      refine .rn 4 ?_
      exact .dn
     refine Ok.ret ?_
     obtain rfl:=Option.some.inj H
     exact⟨.inl rfl,⟨_,(.cons (.tmp rfl) (.cons (.tmp rfl) .nil)),rfl⟩,trivial⟩
    ·replace H:=ifF H hb6
     cases H
   ·replace H:=ifF H hb7
    cases H
def qname_Resolve (k:Nat) (a0:List T_api_Bind) (a1:Str) (a2:Bool):Option (T_api_Name × Int):=((qname_Split k a1).bind fun (t1:Str × Str × Bool) => (if (!t1.2.2)=true then none else (if (a2 && (t1.1 == ([]:Str)))=true then some ((T_api_Name.mk ([]:Str) t1.2.1),0) else ((qname_Find k a0 t1.1).bind fun (t5:Str × Bool) => (if ((!t5.2) || (t1.1 == ([120,109,108,110,115]:Str)))=true then none else some ((T_api_Name.mk t5.1 t1.2.1),0))))))
theorem qname_Resolve.ok {k:Nat} {a0:List T_api_Bind} {a1:Str} {a2:Bool} {r:T_api_Name × Int} (H:qname_Resolve k a0 a1 a2=some r):Vx.Fn Tryz.prog 74 [(L 2 e_api_Bind a0),(S a1),(.v (.bool a2))] [] (.tup [(.agg (e_api_Name r.1)),(.v (.int .i64 r.2))]) []:=by
 unfold qname_Resolve at H
 refine Vx.Fn.of_okR Tryz.func74 rfl (Nat.le_of_ble_eq_true rfl) ?_
 refine Ok.seq ?_
 refine .rg [(0,(L 2 e_api_Bind a0)),(1,(S a1)),(2,(.v (.bool a2))),(6,(.bref 6 0))] [(6,(.box .ex [S0,S0]))] ?_
 refine Ok.seq ?_
 obtain⟨t1,h2,H⟩:=bindE H
 refine Ok.region (σ':=⟨[(0,(L 2 e_api_Bind a0)),(2,(.v (.bool a2))),(6,(.bref 6 0)),(8,(S t1.1)),(9,(S t1.2.1)),(10,(.v (.bool t1.2.2)))],[(6,(.box .ex [S0,S0]))]⟩) ?_ ?_
 ·refine .rn 1 ?_
  refine .cg (GOk.call rfl rfl cl97 rfl (qname_Split.ok h2) rfl) rfl rfl ?_
  refine .rn 7 ?_
  exact .dn
 refine Ok.seq ?_
 refine Ok.seq ?_
 refine .rg [(0,(L 2 e_api_Bind a0)),(2,(.v (.bool a2))),(6,(.bref 6 0)),(8,(S t1.1)),(9,(S t1.2.1)),(19,(.v (.bool (!t1.2.2))))] [(6,(.box .ex [S0,S0]))] ?_
 refine Ok.test (b:=(!t1.2.2)) rfl (fun hb11 => ?_) (fun hb11 => ?_)
 ·replace H:=ifT H hb11
  cases H
 ·replace H:=ifF H hb11
  refine Ok.skip ?_
  refine Ok.seq ?_
  refine Ok.seq ?_
  refine Ok.region (σ':=⟨[(0,(L 2 e_api_Bind a0)),(6,(.bref 6 0)),(8,(S t1.1)),(9,(S t1.2.1)),(25,(.v (.bool (a2 && (t1.1 == ([]:Str))))))],[(6,(.box .ex [S0,S0]))]⟩) ?_ ?_
  ·refine .rn 2 ?_
   refine OpsOk.consI rfl rfl rfl (.one rfl) rfl (fun hw3 => (VOk.g (VOk.mv (d:=(S t1.1)) rfl rfl))) ?_
   refine OpsOk.consI rfl rfl rfl (.one rfl) rfl (fun hw3 => (GOk.fr (fr':=[(23,(S t1.1))]) ⟨DLe.of_eq (cT hw3).symm,trivial⟩ (VOk.g (VOk.strOp (op:=.eql) (a:=t1.1) (b:=([]:Str)) rfl rfl rfl rfl)))) ?_
   refine .cv (VOk.to (VOk.pickI (b:=a2) (p:=(t1.1 == ([]:Str))) (q:=false) rfl rfl (fun hp4 => (cT (t_beq hp4))) (fun hp4 => rfl)) (pickAnd a2 (t1.1 == ([]:Str)))) rfl rfl ?_
   exact .dn
  refine Ok.test (b:=(a2 && (t1.1 == ([]:Str)))) rfl (fun hb10 => ?_) (fun hb10 => ?_)
  ·replace H:=ifT H hb10
   refine Ok.seq ?_
   refine Ok.region (σ':=⟨[(6,(.bref 6 0)),(7,(.v (.int .i64 0)))],[(6,(.box .ex [(S ((T_api_Name.mk ([]:Str) t1.2.1).Space)),(S ((T_api_Name.mk ([]:Str) t1.2.1).Local))]))]⟩) ?_ ?_
   ·refine .rn 1 ?_
    refine .cv (VOk.to (d':=(.agg (e_api_Name (T_api_Name.mk ([]:Str) t1.2.1)))) (.build [none,none] [(0,1),(1,1)] rfl Tryz.underlying24 (fa24 Tryz.underlying24) zo24 rfl rfl) rfl) rfl rfl ?_
    refine .rn 2 ?_
    exact .dn
   refine Ok.ret ?_
   obtain rfl:=Option.some.inj H
   exact⟨.inl rfl,⟨_,(.cons (.cell (VOk.to (d':=(.agg (e_api_Name (T_api_Name.mk ([]:Str) t1.2.1)))) (.loadBAgg rfl Tryz.underlying24 rfl sz24 rfl rfl rfl) rfl)) (.cons (.tmp rfl) .nil)),rfl⟩,trivial⟩
  ·replace H:=ifF H hb10
   refine Ok.skip ?_
   refine Ok.seq ?_
   obtain⟨t5,h6,H⟩:=bindE H
   refine Ok.region (σ':=⟨[(6,(.bref 6 0)),(8,(S t1.1)),(9,(S t1.2.1)),(10,(.v (.bool t5.2))),(11,(S t5.1))],[(6,(.box .ex [S0,S0]))]⟩) ?_ ?_
   ·refine .rn 2 ?_
    refine .cg (GOk.call rfl rfl cl98 rfl (qname_Find.ok h6) rfl) rfl rfl ?_
    refine .rn 5 ?_
    exact .dn
   refine Ok.seq ?_
   refine Ok.seq ?_
   refine Ok.region (σ':=⟨[(6,(.bref 6 0)),(9,(S t1.2.1)),(11,(S t5.1)),(39,(.v (.bool ((!t5.2) || (t1.1 == ([120,109,108,110,115]:Str))))))],[(6,(.box .ex [S0,S0]))]⟩) ?_ ?_
   ·refine .rn 3 ?_
    refine OpsOk.consI rfl rfl rfl (.one rfl) rfl (fun hw7 => (VOk.g (VOk.mv (d:=(S t1.1)) rfl rfl))) ?_
    refine OpsOk.consI rfl rfl rfl (.one rfl) rfl (fun hw7 => (GOk.fr (fr':=[(37,(S t1.1))]) ⟨DLe.of_eq (cT hw7).symm,trivial⟩ (VOk.g (VOk.strOp (op:=.eql) (a:=t1.1) (b:=([120,109,108,110,115]:Str)) rfl rfl rfl rfl)))) ?_
    refine .cv (VOk.to (VOk.pickI (b:=(!t5.2)) (p:=true) (q:=(t1.1 == ([120,109,108,110,115]:Str))) rfl rfl (fun hp8 => rfl) (fun hp8 => (cT (f_beq hp8)))) (pickOr (!t5.2) (t1.1 == ([120,109,108,110,115]:Str)))) rfl rfl ?_
    exact .dn
   refine Ok.test (b:=((!t5.2) || (t1.1 == ([120,109,108,110,115]:Str)))) rfl (fun hb9 => ?_) (fun hb9 => ?_)
   ·replace H:=ifT H hb9
    cases H
   ·replace H:=ifF H hb9
    refine Ok.skip ?_
    refine Ok.seq ?_
    refine Ok.region (σ':=⟨[(6,(.bref 6 0)),(7,(.v (.int .i64 0)))],[(6,(.box .ex [(S ((T_api_Name.mk t5.1 t1.2.1).Space)),(S ((T_api_Name.mk t5.1 t1.2.1).Local))]))]⟩) ?_ ?_
    ·refine .rn 2 ?_
     refine .cv (VOk.to (d':=(.agg (e_api_Name (T_api_Name.mk t5.1 t1.2.1)))) (.build [none,none] [(0,1),(1,1)] rfl Tryz.underlying24 (fa24 Tryz.underlying24) zo24 rfl rfl) rfl) rfl rfl ?_
     refine .rn 2 ?_
     exact .dn
    refine Ok.ret ?_
    obtain rfl:=Option.some.inj H
    exact⟨.inl rfl,⟨_,(.cons (.cell (VOk.to (d':=(.agg (e_api_Name (T_api_Name.mk t5.1 t1.2.1)))) (.loadBAgg rfl Tryz.underlying24 rfl sz24 rfl rfl rfl) rfl)) (.cons (.tmp rfl) .nil)),rfl⟩,trivial⟩
end Go.Proofs.YtapbckofgcmgmaaGreatDoor.Sh
